/- What the law ModelActs answers: yes. Conditions: the arguments are of their types. -/
import Derived.Test.YtgiofdiifkahoaaGreatXW5
import Derived.Test.YtgiofdiifkahoaaGreatXP3
set_option linter.unusedVariables false
set_option linter.unusedSimpArgs false
set_option maxRecDepth 100000
namespace Go.Proofs.YtgiofdiifkahoaaGreatE
open Go Go.Proofs
def env_lActs17 : Nat → Ann
  | 9 => ⟨.op 0 [] <| .op 1 [] <| .op 2 [] <| .op 3 [] <| .op 4 [] <| .op 7 [] <| .op 8 [] <| .op 9 [] <| .op 10 [] <| .op 11 [] <| .op 5 [11] <| .op 6 [11] <| .op 12 [] <| .op 13 [] <| .nil, [0, 0, 0, 6, 14, 30, 63, 0, 0, 0, 768, 1792, 4095, 8191], false⟩
  | 11 => ⟨.nil, [], true⟩
  | _ => ⟨.nil, [], false⟩
section
variable {bm bw : Nat} {F G : Nat → Prop} {h h0 h1 h' : Heap} {m w : Nat} {D D' : Dat} {p p' : Pl} {M M' M1 : Md}
/-- Where the document's model is as it was: what is done to the program's touches none of it. -/
theorem MdR.beside (H : MdP bm F h m D p M) (W : MdR bw G h w D' p' M1) (hd : ∀ b, F b → ¬ G b) (f : Fr (D.X F) h h') : MdR bw G h' w D' p' M1 := by
  have o : ∀ T : TypeId, (60 : TypeId) ≠ T → (116 : TypeId) ≠ T → (156 : TypeId) ≠ T → (3 : TypeId) ≠ T → Off (D.X F) h T := fun T => H.off
  refine W.fr f (o _ (by decide) (by decide) (by decide) (by decide)) (o _ (by decide) (by decide) (by decide) (by decide)) (o _ (by decide) (by decide) (by decide) (by decide)) (o _ (by decide) (by decide) (by decide) (by decide)) (o _ (by decide) (by decide) (by decide) (by decide)) (o _ (by decide) (by decide) (by decide) (by decide)) (o _ (by decide) (by decide) (by decide) (by decide)) (o _ (by decide) (by decide) (by decide) (by decide)) ?_
  intro b hb hk
  obtain ⟨c, g, hx⟩ := W.tyG b hb
  rcases hk with rfl | hk | rfl | rfl | hk
  · obtain ⟨cy, hy⟩ := own_blk H.stands
    have := ty_eq hy hx
    revert this; decide
  · have := H.vlans
    rw [hk] at this
    obtain ⟨cy, hy⟩ := own_blk this
    have := ty_eq hy hx
    revert this; decide
  · obtain ⟨_, cy, hy⟩ := H.book.table
    have := ty_eq hy hx
    revert this; decide
  · exact H.mapNe hx rfl
  · exact hd b hk hb
theorem MdP.beside (H : MdP bm F h m D p M) (W : MdR bw G h w D' p' M1) (f : Fr (D'.Z p') h h') : MdP bm F h' m D p M := by
  have o : ∀ T : TypeId, (89 : TypeId) ≠ T → (105 : TypeId) ≠ T → (154 : TypeId) ≠ T → (62 : TypeId) ≠ T → Off (D'.Z p') h T := fun T => W.off
  refine H.frX f (o _ (by decide) (by decide) (by decide) (by decide)) (o _ (by decide) (by decide) (by decide) (by decide)) (o _ (by decide) (by decide) (by decide) (by decide)) (o _ (by decide) (by decide) (by decide) (by decide)) (o _ (by decide) (by decide) (by decide) (by decide)) (o _ (by decide) (by decide) (by decide) (by decide)) ?_ ?_
  · rintro (hk | hk | hk | ⟨i, hi, hk⟩)
    · obtain ⟨cy, hy⟩ := own_blk W.stands
      exact H.mapNe hy hk.symm
    · have := W.vlans
      rw [hk] at this
      obtain ⟨cy, hy⟩ := own_blk this
      exact H.mapNe hy rfl
    · obtain ⟨_, cy, hy⟩ := W.book.table
      exact H.mapNe hy hk.symm
    · obtain ⟨_, cy, hy⟩ := W.row hi
      exact H.mapNe hy hk.symm
  · intro b hb hk
    obtain ⟨c, g, hx⟩ := H.tyF b hb
    exact (o 3 (by decide) (by decide) (by decide) (by decide)).not hx hk
theorem DidR.ext0 (d : DidR bw G h w D' p M' h') (W : MdR bw G h w D' p M) (x : Ext h0 h) (hb : h0.size ≤ bw) : Ext h0 h' := by
  obtain ⟨_, _, _, f⟩ := d
  exact f.ext x fun k hk => Nat.le_trans hb (W.geZ k hk)
/-- Both models in memory. -/
structure Two (bm bw : Nat) (F G : Nat → Prop) (h : Heap) (m w : Nat) (D D' : Dat) (p : Pl) (M : Md) : Prop where
  m : MdP bm F h m D p M
  w : MdR bw G h w D' p M
  apart : ∀ b, F b → ¬ G b
theorem Two.ext (T : Two bm bw F G h m w D D' p M) (x : Ext h h') : Two bm bw F G h' m w D D' p M := ⟨T.m.ext x, T.w.ext x, T.apart⟩
theorem Two.first (T : Two bm bw F G h m w D D' p M) (d : Did bm F h m D p M1 h') : ∃ F', MdP bm F' h' m D p M1 ∧ MdR bw G h' w D' p M ∧ (∀ b, F' b → ¬ G b) := by
  obtain ⟨F', h2, h3, f⟩ := d
  refine ⟨F', h3, MdR.beside T.m T.w T.apart f, fun b hb hg => ?_⟩
  rcases h2 b hb with hf | hf
  · exact T.apart b hf hg
  · obtain ⟨c, g, hx⟩ := T.w.tyG b hg
    have := blk_lt hx
    omega
theorem Two.second (H : MdP bm F h m D p M1) (W : MdR bw G h w D' p M) (hd : ∀ b, F b → ¬ G b) (d : DidR bw G h w D' p M1 h') : ∃ G', Two bm bw F G' h' m w D D' p M1 := by
  obtain ⟨G', h2, h3, f⟩ := d
  refine ⟨G', MdP.beside H W f, h3, fun b hb hg => ?_⟩
  rcases h2 b hg with hf | hf
  · exact hd b hb hf
  · obtain ⟨c, g, hx⟩ := H.tyF b hb
    have := blk_lt hx
    omega
end
section
variable {h : Heap}
theorem lActs17_spec {A B O : Option Addr} {na ca nb cb no co : Nat} {rules : List Ru} {vls : List Vl} {ops : List Op17} {P tries ring normal short : Int} {s : Sz}
    (hra : Row encRu 2 h A rules) (hla : rules.length = na) (hrb : Row encVl 3 h B vls) (hlb : vls.length = nb) (hro : Row encO17 14 h O ops) (hlo : ops.length = no)
    (wf : ∀ v ∈ vls, SetWf v.mem ∧ SetWf v.unt) (wo : ∀ o ∈ ops, o.Wf) :
    HCalls Tryz.prog 3 #[.agg (planV P (.slice A na ca) (.slice B nb cb) s tries ring normal short).toArray, .slice O no co] h (fun v h' => v = .bool true ∧ Ext h h') := by
  subst hlo
  refine xcalls env_lActs17 Tryz.func3 rfl (by kernel_rfl) rfl (by kernel_rfl) ?_
  intro pb h2 n1
  have hpb2 := n1.this
  have x02 := n1.ext
  refine ⟨_, rfl, reads_all hpb2, ?_⟩
  refine (rPFix_spec (x02.row hra) hla (x02.row hrb) hlb wf).mono ?_
  rintro v h3 ⟨A3, c3, B3, d3, rfl, oR3, oV3, x3⟩
  have oR3 : OwnA encRu 2 _ h2.size h3 A3 c3 (fixRules P rules) := oR3
  have oV3 : OwnA encVl 3 _ h2.size h3 B3 d3 (fixVlans P vls) := oV3
  have hpb3 := x3.blk hpb2
  refine ⟨rfl, rfl, canset_blk hpb3 rfl, fun h4 s4 => ?_⟩
  have hpb : h4[pb]? = some (.cells (planV (fixPorts P) (.slice A3 (fixPorts P).toNat c3) (.slice B3 (fixVlans P vls).length d3) (fixSz s) (fixTries tries) (fixRing ring) normal short).toArray 28 (0, 0)) := s4.put hpb3
  have x04 : Ext h h4 := (x02.trans x3).stored s4 (n1.ge (Ext.refl _))
  have pb2 : pb < h2.size := blk_lt hpb2
  have oR4 := oR3.other s4 fun b hb => by have := oR3.ge b hb; intro e; subst e; omega
  have oV4 := oV3.other s4 fun b hb => by have := oV3.ge b hb; intro e; subst e; omega
  have hrl : (fixRules P rules).length = (fixPorts P).toNat := by unfold fixRules; simp
  have pr := fixPorts_range P
  have vl8 := fixVlans_len P vls
  refine ⟨_, rfl, reads_all hpb, ?_⟩
  refine (l17To_spec (oR4.row encRu_len) hrl (oV4.row encVl_len) rfl (by omega) (by omega)).mono ?_
  rintro v h5 ⟨A5, c5, B5, d5, rfl, oR5, oV5, x5⟩
  refine (mNew_fix oR5 oV5 hrl rfl wf).mono ?_
  rintro v h6 ⟨m, D, rfl, H6, x6⟩
  refine (told17_spec).mono ?_
  rintro v h7 ⟨rfl, x7⟩
  have x47 : Ext h4 h7 := x5.trans (x6.trans x7)
  have H7 := H6.ext x7
  have hpb7 := x47.blk hpb
  have po := fixPl_ok P s tries ring normal short
  have N7 := fixVlans_nice (P := P) (tries := tries) (ring := ring) (normal := normal) (short := short) (s := s) wf
  have oV7 := oV4.ext x47
  refine ⟨_, rfl, reads_all hpb7, ?_⟩
  refine (rNew17_spec (oV7.row encVl_len) rfl (by omega) (by omega) po.size).mono ?_
  rintro v h8 ⟨w, D', rfl, W8, x8⟩
  have W8 : MdR h7.size (fun _ => False) h8 w D' (fixPl P s tries ring normal short) (newM (fixPl P s tries ring normal short) (fixVlans P vls)) := W8
  have T8 : Two h5.size h7.size (fun _ => False) (fun _ => False) h8 m w D D' (fixPl P s tries ring normal short) (newM (fixPl P s tries ring normal short) (fixVlans P vls)) := ⟨H7.ext x8, W8, fun _ h => h.elim⟩
  obtain ⟨p, hp⟩ : ∃ p, fixPl P s tries ring normal short = p := ⟨_, rfl⟩
  have hpp : p.ports = fixPorts P := by rw [← hp]; rfl
  rw [hp] at T8 po N7
  have hpb5 := x5.blk hpb
  have x05 := x04.trans x5
  have b57 : h5.size ≤ h7.size := (x6.trans x7).size
  refine ⟨(Nat → Prop) × (Nat → Prop) × Md, fun z => [(2, .pointer (some ⟨pb, 0, none⟩)), (5, .pointer (some ⟨m, 0, none⟩)), (7, .pointer (some ⟨w, 0, none⟩))], fun z h' => Nice p z.2.2 ∧ Two h5.size h7.size z.1 z.2.1 h' m w D D' p z.2.2 ∧ Ext h5 h', ?_, ?_⟩
  · refine ⟨Nat × (Nat → Prop) × (Nat → Prop) × Md, fun z => [(1, .slice O ops.length co), (2, .pointer (some ⟨pb, 0, none⟩)), (5, .pointer (some ⟨m, 0, none⟩)), (7, .pointer (some ⟨w, 0, none⟩)), (8, .int .i64 z.1)],
        fun z h' => z.1 ≤ ops.length ∧ Nice p z.2.2.2 ∧ Two h5.size h7.size z.2.1 z.2.2.1 h' m w D D' p z.2.2.2 ∧ Ext h5 h', fun z => ops.length - z.1, (0, fun _ => False, fun _ => False, _), ⟨rfl, rfl, rfl, rfl, rfl, trivial⟩, ⟨Nat.zero_le _, N7, T8, x6.trans (x7.trans x8)⟩, ?_⟩
    rintro ⟨i, F, G, M⟩ h9 ⟨hi, N9, T9, x9⟩
    simp only at hi N9 T9
    have vls9 : M.vlans.length ≤ 1000 := by have := N9.few; omega
    refine xif_of (fun hlt => ?_) (fun _ => ⟨(F, G, M), ⟨rfl, rfl, rfl, trivial⟩, N9, T9, x9⟩)
    have hlt : (i : Int) < ops.length := of_decide_eq_true hlt
    refine xif_of (fun hlt2 => ?_) (fun _ => ⟨(F, G, M), ⟨rfl, rfl, rfl, trivial⟩, N9, T9, x9⟩)
    have hlt2 : (i : Int) < 200 := of_decide_eq_true hlt2
    obtain ⟨y, hy⟩ : ∃ y, ops[i]? = some y := ⟨ops[i]'(by omega), List.getElem?_eq_getElem (by omega)⟩
    have wy := wo y (List.mem_of_getElem? hy)
    obtain ⟨ya, hO, hrd⟩ := ((x05.trans x9).row hro) i y hy
    refine ⟨ya, hO, (by show (0 : Int) ≤ i; omega), hlt, encO17 y, rfl, hrd, ya, hO, (by show (0 : Int) ≤ i; omega), hlt, encO17 y, rfl, hrd, ?_⟩
    refine (l17Op_spec y).mono ?_
    rintro v h11 ⟨rfl, x11⟩
    refine ⟨⟨x11.reads hrd, trivial⟩, ?_⟩
    have T11 := T9.ext x11
    refine (mDo_spec po N9.ok vls9 T11.m wy).mono ?_
    rintro v h12 ⟨rfl, d12⟩
    have x12 := d12.ext0 T11.m (x9.trans x11) (Nat.le_refl _)
    obtain ⟨F', H12, W12, ap12⟩ := T11.first d12
    obtain ⟨ya', hO', hrd'⟩ := ((x05.trans x12).row hro) i y hy
    rw [hO] at hO'
    cases hO'
    refine ⟨⟨hrd', trivial⟩, ?_⟩
    refine (rDo17_spec po N9.ok vls9 W12 wy).mono ?_
    rintro v h13 ⟨rfl, d13⟩
    have x13 := d13.ext0 W12 x12 b57
    obtain ⟨G', T13⟩ := Two.second H12 W12 ap12 d13
    refine xif_of (fun q => absurd q (by simp)) (fun _ => ?_)
    exact ⟨(i + 1, F', G', (do17 p M y).1), ⟨rfl, rfl, rfl, rfl, slot_inc (by omega), trivial⟩, ⟨by show i + 1 ≤ ops.length; omega, nice_do po N9 wy, T13, x13⟩, by show ops.length - (i + 1) < ops.length - i; omega⟩
  rintro ⟨F, G, M⟩ h9 ⟨N9, T9, x9⟩
  simp only at N9 T9
  have vls9 : M.vlans.length ≤ 1000 := by have := N9.few; omega
  have hp64 : p.ports ≤ 64 := po.hi
  refine (lSame17_spec po N9.ok vls9 T9.m T9.w).mono ?_
  rintro v h10 ⟨rfl, x10⟩
  have T10 := T9.ext x10
  refine ⟨_, cell_blk ((x9.trans x10).blk hpb5) rfl, ?_⟩
  refine (mStand_spec N9.ok hp64 T10.m (fixPorts P)).mono ?_
  rintro v h11 ⟨rfl, x11⟩
  have no : ¬ inP p (fixPorts P) := by unfold inP; omega
  rw [if_neg no]
  refine ⟨_, cell_blk ((x9.trans (x10.trans x11)).blk hpb5) rfl, ?_⟩
  refine (mQueue_spec po N9.ok (T10.m.ext x11) 0 (fixPorts P)).mono ?_
  rintro v h12 ⟨A12, c12, rfl, o12, x12⟩
  rw [if_neg (fun e => no e.2)]
  refine (mQueue_spec po N9.ok ((T10.m.ext x11).ext x12) (-1) 0).mono ?_
  rintro v h13 ⟨A13, c13, rfl, o13, x13⟩
  have no2 : ¬ inP p (-1) := by unfold inP; omega
  rw [if_neg (fun e => no2 e.1)]
  exact ⟨rfl, x05.trans (x9.trans (x10.trans (x11.trans (x12.trans x13))))⟩
end
end Go.Proofs.YtgiofdiifkahoaaGreatE
