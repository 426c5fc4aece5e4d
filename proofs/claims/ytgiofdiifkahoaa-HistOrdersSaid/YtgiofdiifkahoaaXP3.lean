/- What the laws ModelQueues and ModelStands answer: yes. Conditions: the arguments are of their types. -/
import Derived.Test.YtgiofdiifkahoaaXP2
set_option linter.unusedVariables false
set_option linter.unusedSimpArgs false
set_option maxRecDepth 100000
namespace Go.Proofs.YtgiofdiifkahoaaE
open Go Go.Proofs
def env_lQueues : Nat → Ann
  | 5 => ⟨.op 0 [] <| .op 1 [] <| .op 2 [] <| .op 3 [] <| .op 4 [] <| .op 5 [] <| .op 6 [] <| .op 7 [] <| .op 8 [] <| .op 9 [] <| .op 10 [] <| .op 11 [] <| .op 12 [] <| .op 13 [] <| .op 14 [] <| .op 15 [] <| .op 16 [] <| .op 17 [] <| .nil, [0, 1, 3, 0, 8, 24, 63, 127, 0, 256, 768, 0, 2048, 6144, 16128, 32512, 255, 131071], false⟩
  | 17 => ⟨.nil, [], true⟩
  | 22 => ⟨.nil, [], true⟩
  | _ => ⟨.nil, [], false⟩
section
variable {tM tS tV tB tT tP : TypeId} {base : Nat} {F : Nat → Prop} {h h' : Heap} {m : Nat} {D : Dat} {p : Pl} {M : Md}
theorem MdAt.frX {X : Nat → Prop} (H : MdAt tM tS tV tB tT tP base F h m D p M) (f : Fr X h h') (oM : Off X h tM) (oS : Off X h tS) (oV : Off X h tV) (oB : Off X h tB) (oT : Off X h tT) (oP : Off X h tP) (hmb : ¬ X D.mb) (hF : ∀ b, F b → ¬ X b) : MdAt tM tS tV tB tT tP base F h' m D p M := by
  obtain ⟨es, ⟨E, cl, hb, r⟩, hq⟩ := H.queues
  exact ⟨H.ge, H.geF, fun b hb => let ⟨c, g, e⟩ := H.tyF b hb; ⟨c, g, f.blk e (hF b hb)⟩, H.geM, f.blk H.blk (oM.not H.blk), H.stands.frT f oS, H.vlans.frT f oV, H.book.frT f oB oT oP, es, ⟨E, cl, f.blk hb hmb, r⟩, hq.fr f hF⟩
/-- A list of one's own beside a model. -/
theorem MdAt.notX (H : MdAt tM tS tV tB tT tP base F h m D p M) (h1 : tS ≠ 3) (h2 : tV ≠ 3) (h3 : tT ≠ 3) {b' c : Nat} {C : Option Addr} {l : List Int} (o : OwnA encI 1 3 b' h C c l) (hF : ∀ b, C = some ⟨b, 0, none⟩ → ¬ F b) : ∀ b, C = some ⟨b, 0, none⟩ → ¬ D.X F b := by
  rintro b rfl hk
  obtain ⟨cx, hc⟩ := own_blk o
  rcases hk with rfl | hk | rfl | rfl | hk
  · obtain ⟨cy, hy⟩ := own_blk H.stands
    exact h1 (ty_eq hy hc)
  · have := H.vlans
    rw [hk] at this
    obtain ⟨cy, hy⟩ := own_blk this
    exact h2 (ty_eq hy hc)
  · obtain ⟨_, cy, hy⟩ := H.book.table
    exact h3 (ty_eq hy hc)
  · exact H.mapNe hc rfl
  · exact hF _ rfl hk
theorem MdAt.keepA (H : MdAt tM tS tV tB tT tP base F h m D p M) (h0 : tM ≠ 3) (h1 : tS ≠ 3) (h2 : tV ≠ 3) (h3 : tT ≠ 3) (h4 : tB ≠ 3) (h5 : tP ≠ 3) {b' c : Nat} {C : Option Addr} {l : List Int} (o : OwnA encI 1 3 b' h C c l) (hF : ∀ b, C = some ⟨b, 0, none⟩ → ¬ F b) (k : KeepA C h h') : MdAt tM tS tV tB tT tP base F h' m D p M := by
  have off : ∀ T : TypeId, T ≠ 3 → Off (fun k => C = some ⟨k, 0, none⟩) h T := by
    rintro T hT k c e g rfl hk
    obtain ⟨cx, hc⟩ := own_blk o
    rw [ty_eq hk hc]
    exact hT.symm
  refine H.frX (k.fr' (X := fun k => C = some ⟨k, 0, none⟩) fun _ e => e) (off _ h0) (off _ h1) (off _ h2) (off _ h4) (off _ h3) (off _ h5) ?_ fun b hb e => hF b e hb
  rintro rfl
  obtain ⟨cx, hc⟩ := own_blk o
  exact H.mapNe hc rfl
end
section
variable {base : Nat} {F : Nat → Prop} {h h1 h' : Heap} {m : Nat} {D : Dat} {p : Pl} {M M' : Md}
theorem Did.side (d : Did base F h m D p M' h') (H : MdP base F h m D p M) {b' c : Nat} {C : Option Addr} {l : List Int} (o : OwnA encI 1 3 b' h C c l) (hF : ∀ b, C = some ⟨b, 0, none⟩ → ¬ F b) :
    ∃ F', MdP base F' h' m D p M' ∧ OwnA encI 1 3 b' h' C c l ∧ (∀ b, C = some ⟨b, 0, none⟩ → ¬ F' b) ∧ Fr (D.X F) h h' := by
  obtain ⟨F', h2, h3, f⟩ := d
  refine ⟨F', h3, o.fr f (H.notX (by decide) (by decide) (by decide) o hF), ?_, f⟩
  rintro b rfl hb
  rcases h2 b hb with hb | hb
  · exact hF b rfl hb
  · obtain ⟨cx, hc⟩ := own_blk o
    have := blk_lt hc
    omega
theorem modp_eq (x N : Int) (h1 : 1 ≤ N) (h2 : N ≤ 64) : IntKind.i64.wrap ((IntKind.u64.wrap x).tmod (IntKind.u64.wrap N)) = x % 18446744073709551616 % N := by
  have h3 := Int.emod_lt_of_pos (x % 18446744073709551616) (show 0 < N by omega)
  have h4 := Int.emod_nonneg (x % 18446744073709551616) (show N ≠ 0 by omega)
  rw [IntKind.wrap_u64, IntKind.wrap_u64, Int.emod_eq_of_lt (show 0 ≤ N by omega) (by omega), Int.tmod_eq_emod_of_nonneg (by omega), wrap_i64 (by omega) (by omega)]
theorem lQueues_spec {A B O : Option Addr} {na ca nb cb no co : Nat} {rules : List Ru} {vls : List Vl} {ops : List Op17} {P tries ring normal short p0 p1 : Int} {s : Sz}
    (hra : Row encRu 2 h A rules) (hla : rules.length = na) (hrb : Row encVl 3 h B vls) (hlb : vls.length = nb) (hro : Row encO17 14 h O ops) (hlo : ops.length = no)
    (wf : ∀ v ∈ vls, SetWf v.mem ∧ SetWf v.unt) (wo : ∀ o ∈ ops, o.Wf) :
    HCalls Try.prog 3 #[.agg (planV P (.slice A na ca) (.slice B nb cb) s tries ring normal short).toArray, .slice O no co, .agg #[.int .i64 p0, .int .i64 p1]] h (fun v h' => v = .bool true ∧ Ext h h') := by
  subst hlo
  refine xcalls env_lQueues Try.func3 rfl (by kernel_rfl) rfl (by kernel_rfl) ?_
  intro pb h1 n1 qb h2 n2
  have hpb2 := n2.ext.blk n1.this
  have x02 := n1.ext.trans n2.ext
  refine ⟨_, rfl, reads_all hpb2, ?_⟩
  refine (rPFix_spec (x02.row hra) hla (x02.row hrb) hlb wf).mono ?_
  rintro v h3 ⟨A3, c3, B3, d3, rfl, oR3, oV3, x3⟩
  have oR3 : OwnA encRu 2 _ h2.size h3 A3 c3 (fixRules P rules) := oR3
  have oV3 : OwnA encVl 3 _ h2.size h3 B3 d3 (fixVlans P vls) := oV3
  have hpb3 := x3.blk hpb2
  refine ⟨rfl, rfl, canset_blk hpb3 rfl, fun h4 s4 => ?_⟩
  have hpb : h4[pb]? = some (.cells (planV (fixPorts P) (.slice A3 (fixPorts P).toNat c3) (.slice B3 (fixVlans P vls).length d3) (fixSz s) (fixTries tries) (fixRing ring) normal short).toArray 28 (0, 0)) := s4.put hpb3
  have x04 : Ext h h4 := (x02.trans x3).stored s4 (n1.ge (Ext.refl _))
  have hqb3 := x3.blk n2.this
  have hpq : pb < qb := n2.lt n1.this
  have hqb := s4.blk hqb3 (Nat.ne_of_gt hpq)
  have pb2 : pb < h2.size := blk_lt hpb2
  have oR4 := oR3.other s4 fun b hb => by have := oR3.ge b hb; intro e; subst e; omega
  have oV4 := oV3.other s4 fun b hb => by have := oV3.ge b hb; intro e; subst e; omega
  have hrl : (fixRules P rules).length = (fixPorts P).toNat := by unfold fixRules; simp
  have pr := fixPorts_range P
  have vl8 := fixVlans_len P vls
  refine ⟨_, rfl, reads_all hpb, ?_⟩
  refine (l17To_spec (oR4.row encRu_len) hrl (oV4.row encVl_len) rfl (by omega) (by omega)).mono ?_
  rintro v h5 ⟨A5, c5, B5, d5, rfl, oR5, oV5, x5⟩
  refine (mNew_fix oR5 oV5 hrl rfl wf).mono ?_
  rintro v h6 ⟨m, D, rfl, H6, x6⟩
  refine (told17_spec).mono ?_
  rintro v h7 ⟨rfl, x7⟩
  have x47 : Ext h4 h7 := x5.trans (x6.trans x7)
  have x07 := x04.trans x47
  have hb5 : h.size ≤ h5.size := (x04.trans x5).size
  have H7 := H6.ext x7
  have hpb7 := x47.blk hpb
  have hqb7 := x47.blk hqb
  have nz : IntKind.u64.wrap (fixPorts P) ≠ 0 := by rw [IntKind.wrap_u64]; omega
  have e0 := modp_eq p0 (fixPorts P) (by omega) (by omega)
  have e1 := modp_eq p1 (fixPorts P) (by omega) (by omega)
  refine ⟨by decide, by decide, _, cell_blk hqb7 rfl, _, cell_blk hpb7 rfl, nz, by decide, by decide, _, cell_blk hqb7 rfl, _, cell_blk hpb7 rfl, nz, ?_⟩
  have r0 := Int.emod_nonneg (p0 % 18446744073709551616) (show fixPorts P ≠ 0 by omega)
  have r1 := Int.emod_lt_of_pos (p0 % 18446744073709551616) (show 0 < fixPorts P by omega)
  have r2 := Int.emod_nonneg (p1 % 18446744073709551616) (show fixPorts P ≠ 0 by omega)
  have r3 := Int.emod_lt_of_pos (p1 % 18446744073709551616) (show 0 < fixPorts P by omega)
  obtain ⟨a, ha⟩ : ∃ a, p0 % 18446744073709551616 % fixPorts P = a := ⟨_, rfl⟩
  obtain ⟨b, hb⟩ : ∃ b, p1 % 18446744073709551616 % fixPorts P = b := ⟨_, rfl⟩
  rw [ha] at e0 r0 r1
  rw [hb] at e1 r2 r3
  have po := fixPl_ok P s tries ring normal short
  have N7 := fixVlans_nice (P := P) (tries := tries) (ring := ring) (normal := normal) (short := short) (s := s) wf
  have hia : inP (fixPl P s tries ring normal short) a := ⟨r0, r1⟩
  have hib : inP (fixPl P s tries ring normal short) b := ⟨r2, r3⟩
  have hpr : (fixPl P s tries ring normal short).ring = fixRing ring := rfl
  have rr := fixRing_range ring
  obtain ⟨p, hp⟩ : ∃ p, fixPl P s tries ring normal short = p := ⟨_, rfl⟩
  rw [hp] at H7 po N7 hia hib hpr
  have hpb5 := x5.blk hpb
  have x05 := x04.trans x5
  refine ⟨Nat × (Nat → Prop) × Md × Option Addr × Nat, fun z => [(1, .slice O ops.length co), (3, .pointer (some ⟨pb, 0, none⟩)), (7, .pointer (some ⟨m, 0, none⟩)), (9, .int .i64 a), (10, .int .i64 b), (11, .slice z.2.2.2.1 (z.2.2.1.queues a b).length z.2.2.2.2), (12, .int .i64 z.1)],
    fun z h' => z.1 ≤ ops.length ∧ Nice p z.2.2.1 ∧ MdP h5.size z.2.1 h' m D p z.2.2.1 ∧ OwnA encI 1 3 h5.size h' z.2.2.2.1 z.2.2.2.2 (z.2.2.1.queues a b) ∧ (∀ b, z.2.2.2.1 = some ⟨b, 0, none⟩ → ¬ z.2.1 b) ∧ Ext h5 h',
    fun z => ops.length - z.1, (0, fun _ => False, _, none, 0), ⟨rfl, rfl, rfl, congrArg (fun x => some (Value.int .i64 x)) e0, congrArg (fun x => some (Value.int .i64 x)) e1, rfl, rfl, trivial⟩, ⟨Nat.zero_le _, N7, H7, .inl ⟨rfl, rfl, rfl⟩, (fun b e => by cases e), x6.trans x7⟩, ?_⟩
  rintro ⟨i, F, M, C, d⟩ h8 ⟨hi, N8, H8, o8, f8, x8⟩
  simp only at hi N8 H8 o8 f8
  refine xif_of (fun hlt => ?_) (fun _ => ⟨rfl, x05.trans x8⟩)
  have hlt : (i : Int) < ops.length := of_decide_eq_true hlt
  refine xif_of (fun hlt2 => ?_) (fun _ => ⟨rfl, x05.trans x8⟩)
  have hlt2 : (i : Int) < 150 := of_decide_eq_true hlt2
  obtain ⟨y, hy⟩ : ∃ y, ops[i]? = some y := ⟨ops[i]'(by omega), List.getElem?_eq_getElem (by omega)⟩
  have wy := wo y (List.mem_of_getElem? hy)
  obtain ⟨ya, hO, hrd⟩ := ((x05.trans x8).row hro) i y hy
  refine ⟨ya, hO, (by show (0 : Int) ≤ i; omega), hlt, encO17 y, rfl, hrd, ?_⟩
  intro ob h9 n9
  refine ⟨rfl, rfl, canset_blk n9.this rfl, fun h10 s10 => ?_⟩
  have hob10 : h10[ob]? = some (.cells (encO17 y).toArray 48 (0, 0)) := s10.put n9.this
  have x10 : Ext h8 h10 := n9.ext.stored s10 (n9.ge (Ext.refl _))
  refine ⟨_, rfl, reads_all hob10, ?_⟩
  refine (l17Op_spec y).mono ?_
  rintro v h11 ⟨rfl, x11⟩
  have x811 := x10.trans x11
  have H11 := H8.ext x811
  have hob11 := x11.blk hob10
  refine (mDo_spec po N8.ok (by have := N8.few; omega) H11 wy).mono ?_
  rintro v h12 ⟨rfl, d12⟩
  have x12 := d12.ext0 H11 (x8.trans x811) (Nat.le_refl _)
  obtain ⟨F', H12, o12, f12, fr⟩ := d12.side H11 (o8.ext x811) f8
  have hob : h12[ob]? = some (.cells (encO17 y).toArray 48 (0, 0)) := fr.blk hob11 ((H11.off (by decide) (by decide) (by decide) (by decide)).not hob11)
  have N12 := nice_do po N8 wy
  have hq := do_queues p M y a b
  have hput := fun h1 h2 => do_put (p := p) (M := M) (x := y) h1 h2
  have hget := fun h1 h2 => do_get (p := p) (M := M) (x := y) h1 h2
  have hmay : (y.kind = 10 ∨ y.kind = 11) → y.port = a → y.to = b → mayO p y = true := fun k e1 e2 => by
    unfold mayO; rw [if_neg (by omega), if_pos k, e1, e2, decide_eq_true hia, decide_eq_true hib]; rfl
  obtain ⟨M', hM'⟩ : ∃ M', (do17 p M y).1 = M' := ⟨_, rfl⟩
  obtain ⟨r, hr⟩ : ∃ r, (do17 p M y).2 = r := ⟨_, rfl⟩
  rw [hM'] at hq H12 N12
  rw [hr] at hput hget
  rw [hr]
  have hqlen := N8.ok.q a b
  rw [hpr] at hqlen
  obtain ⟨l1, hl1⟩ : ∃ l1, (if y.kind = 10 ∧ y.port = a ∧ y.to = b then M'.queues a b else M.queues a b) = l1 := ⟨_, rfl⟩
  have hne : ∀ {h' : Heap} {C : Option Addr} {d : Nat} {l : List Int}, OwnA encI 1 3 h5.size h' C d l → h'[ob]? = some (.cells (encO17 y).toArray 48 (0, 0)) → C ≠ some ⟨ob, 0, none⟩ := by
    rintro h' C d l o hob rfl
    obtain ⟨cx, hx⟩ := own_blk o
    have e := ty_eq hx hob
    revert e; decide
  have hnew : ∀ {h' hh : Heap} {A' C : Option Addr} {F' : Nat → Prop}, MdP h5.size F' hh m D p M' → (∀ b, C = some ⟨b, 0, none⟩ → ¬ F' b) → (A' = C ∨ ∃ b, A' = some ⟨b, 0, none⟩ ∧ hh.size ≤ b) → ∀ b, A' = some ⟨b, 0, none⟩ → ¬ F' b := by
    rintro h' hh A' C F' H f (rfl | ⟨b, rfl, hb⟩) b' e
    · exact f b' e
    · cases e
      intro hF
      obtain ⟨c, g, hx⟩ := H.tyF _ hF
      have := blk_lt hx
      omega
  refine ⟨Option Addr × Nat, fun z => [(1, .slice O ops.length co), (3, .pointer (some ⟨pb, 0, none⟩)), (7, .pointer (some ⟨m, 0, none⟩)), (9, .int .i64 a), (10, .int .i64 b), (11, .slice z.1 l1.length z.2), (12, .int .i64 i), (13, .pointer (some ⟨ob, 0, none⟩)), (14, .int .i64 r)],
    fun z h' => OwnA encI 1 3 h5.size h' z.1 z.2 l1 ∧ (∀ b, z.1 = some ⟨b, 0, none⟩ → ¬ F' b) ∧ MdP h5.size F' h' m D p M' ∧ h'[ob]? = some (.cells (encO17 y).toArray 48 (0, 0)) ∧ Ext h5 h', ?_, ?_⟩
  · refine ⟨_, cell_blk hob rfl, ?_⟩
    refine xif_of (fun e1 => ?_) (fun e1 => ?_)
    · have e1 : y.port = a := by simpa using e1
      refine ⟨_, cell_blk hob rfl, ?_⟩
      refine xif_of (fun e2 => ?_) (fun e2 => ?_)
      · have e2 : y.to = b := by simpa using e2
        refine ⟨_, cell_blk hob rfl, ?_⟩
        refine xif_of (fun e3 => ?_) (fun e3 => ?_)
        · have e3 : y.kind = 10 := by simpa using e3
          have hm := hmay (.inl e3) e1 e2
          have hput := hput hm e3
          rw [e1, e2, hpr] at hput
          rw [if_pos ⟨e3, e1, e2⟩] at hl1
          refine ⟨_, cell_blk (x12.blk hpb5) rfl, ?_⟩
          by_cases hf : fixRing ring ≤ (M.queues a b).length
          · rw [if_pos hf] at hput
            rw [if_neg (by rw [hpr]; omega), if_neg (by omega)] at hq
            rw [hq] at hl1
            subst hl1
            subst hput
            refine xif_of (fun q => absurd q (by simp; omega)) (fun _ => ?_)
            exact ⟨(C, d), ⟨rfl, rfl, rfl, rfl, rfl, rfl, rfl, rfl, rfl, trivial⟩, o12, f12, H12, hob, x12⟩
          · rw [if_neg hf] at hput
            rw [if_pos ⟨hm, e3, e1, e2, by rw [hpr]; omega⟩] at hq
            rw [hq] at hl1
            subst hl1
            subst hput
            refine xif_of (fun q => absurd q (by simp; omega)) (fun _ => ?_)
            refine ⟨_, cell_blk hob rfl, ?_⟩
            intro sb h13 n13
            have hfit : ((M.queues a b).length + 1) * 8 ≤ 140737488355328 := by omega
            refine xappend_one' (x := y.id) intInfo intZero rfl (by decide) encI_len encI_one o12 n13 rfl hfit (x12.size) fun A' c' h14 o14 k14 alt => ?_
            exact ⟨(A', c'), ⟨rfl, rfl, rfl, rfl, rfl, congrArg (fun n => some (Value.slice A' n c')) (by simp), rfl, rfl, rfl, trivial⟩, o14, hnew (h' := h14) H12 f12 alt, H12.keepA (by decide) (by decide) (by decide) (by decide) (by decide) (by decide) o12 f12 k14, k14.blk hob (hne o12 hob), k14.ext x12 o12.ge⟩
        · have e3 : ¬ y.kind = 10 := by simpa using e3
          rw [if_neg (fun q => e3 q.1)] at hl1
          subst hl1
          exact ⟨(C, d), ⟨rfl, rfl, rfl, rfl, rfl, rfl, rfl, rfl, rfl, trivial⟩, o12, f12, H12, hob, x12⟩
      · have e2 : ¬ y.to = b := by simpa using e2
        rw [if_neg (fun q => e2 q.2.2)] at hl1
        subst hl1
        exact ⟨(C, d), ⟨rfl, rfl, rfl, rfl, rfl, rfl, rfl, rfl, rfl, trivial⟩, o12, f12, H12, hob, x12⟩
    · have e1 : ¬ y.port = a := by simpa using e1
      rw [if_neg (fun q => e1 q.2.1)] at hl1
      subst hl1
      exact ⟨(C, d), ⟨rfl, rfl, rfl, rfl, rfl, rfl, rfl, rfl, rfl, trivial⟩, o12, f12, H12, hob, x12⟩
  rintro ⟨C1, d1⟩ h15 ⟨o15, f15, H15, hob15, x15⟩
  simp only at o15 f15
  obtain ⟨l2, hl2⟩ : ∃ l2, M'.queues a b = l2 := ⟨_, rfl⟩
  refine ⟨Option Addr × Nat, fun z => [(1, .slice O ops.length co), (3, .pointer (some ⟨pb, 0, none⟩)), (7, .pointer (some ⟨m, 0, none⟩)), (9, .int .i64 a), (10, .int .i64 b), (11, .slice z.1 l2.length z.2), (12, .int .i64 i)],
    fun z h' => OwnA encI 1 3 h5.size h' z.1 z.2 l2 ∧ (∀ b, z.1 = some ⟨b, 0, none⟩ → ¬ F' b) ∧ MdP h5.size F' h' m D p M' ∧ Ext h5 h', ?_, ?_⟩
  · refine ⟨_, cell_blk hob15 rfl, ?_⟩
    refine xif_of (fun e1 => ?_) (fun e1 => ?_)
    · have e1 : y.port = a := by simpa using e1
      refine ⟨_, cell_blk hob15 rfl, ?_⟩
      refine xif_of (fun e2 => ?_) (fun e2 => ?_)
      · have e2 : y.to = b := by simpa using e2
        refine ⟨_, cell_blk hob15 rfl, ?_⟩
        refine xif_of (fun e3 => ?_) (fun e3 => ?_)
        · have e3 : y.kind = 11 := by simpa using e3
          have hm := hmay (.inr e3) e1 e2
          have hget := hget hm e3
          rw [e1, e2] at hget
          rw [if_neg (by omega)] at hl1
          rw [if_neg (by omega), if_pos ⟨hm, e3, e1, e2⟩] at hq
          rw [hq] at hl2
          cases hc : M.queues a b with
          | nil =>
            rw [hc] at hl1 hl2 hget
            subst hl1 hl2 hget
            exact ⟨(C1, d1), ⟨rfl, rfl, rfl, rfl, rfl, rfl, rfl, trivial⟩, o15, f15, H15, x15⟩
          | cons z q =>
            rw [hc] at hl1 hl2 hget
            rw [hc] at hqlen
            subst hl1 hl2 hget
            obtain ⟨qa, rfl, hq0⟩ := (o15.row encI_len) 0 r rfl
            refine xif_of (fun _ => ?_) (fun w => absurd w (by simp))
            refine ⟨qa, rfl, by decide, by simp, _, hq0.get 0 rfl, ?_⟩
            refine xif_of (fun w => absurd w (by simp)) (fun _ => ?_)
            refine xif_of (fun _ => ?_) (fun w => absurd w (by simp))
            intro sb h17 n17
            have hz : h17[sb]? = some (.cells ([] : List Value).toArray 3 (0, 0)) := n17.this
            have own17 : OwnA encI 1 3 h15.size h17 (some ⟨sb, 0, none⟩) 0 ([] : List Int) := .inr ⟨sb, [], rfl, n17.ge (Ext.refl _), n17.this, rfl, Nat.le_refl _⟩
            have hcap := o15.le
            have hcap : q.length + 1 ≤ d1 := hcap
            refine ⟨fun e => e, by decide, (by show (1 : Int) ≤ ((q.length + 1 : Nat) : Int); omega), (by show ((q.length + 1 : Nat) : Int) ≤ ((d1 : Nat) : Int); omega), Int.le_refl _, ?_⟩
            have len1 : (((q.length + 1 : Nat) : Int)).toNat - (1 : Int).toNat = q.length := by simp
            obtain ⟨rd0, row1⟩ := row_tail (o15.row encI_len)
            have row1 := n17.ext.row row1
            have hA2 : ∀ {w : Prop} {inst : Decidable w} {f : Addr → Addr}, f qa = qa.add 1 → (w → q = []) → Row encI 1 h17 (@ite _ w inst (some qa) (Option.map f (some qa))) q := by
              intro w inst f hf hq
              split
              · rename_i hh
                rw [hq hh]
                exact Row.nil
              · rw [Option.map_some, hf]
                exact row1
            have hA3 := @hA2 (((d1 : Int)).toNat = (1 : Int).toNat) inferInstance (fun x => x.add ((1 : Int).toNat * 1)) rfl (fun e => by
              have e : d1 = 1 := by simpa using e
              exact List.length_eq_zero_iff.1 (by omega))
            have hq1 : q.length + 1 ≤ 64 := by have : ((q.length + 1 : Nat) : Int) ≤ fixRing ring := hqlen; omega
            refine xappend_many (xs := []) (ys := q) (n := 0) (m := (((q.length + 1 : Nat) : Int)).toNat - (1 : Int).toNat) intInfo intZero rfl (by decide) encI_len encI_one own17 rfl len1.symm (row_readsOf encI_len hA3) (by omega) n17.ext.size fun A' c' h18 o18 k18 => ?_
            have x18 : Ext h15 h18 := k18.ext n17.ext fun b e => by cases e; exact n17.ge (Ext.refl _)
            exact ⟨(A', c'), ⟨rfl, rfl, rfl, rfl, rfl, congrArg (fun n => some (Value.slice A' n c')) (by rw [len1, Nat.zero_add]; rfl), rfl, trivial⟩, o18.mono x15.size, (fun b e hF => by
              obtain ⟨c, g, hx⟩ := H15.tyF b hF
              have := blk_lt hx
              have := o18.ge b e
              omega), H15.ext x18, x15.trans x18⟩
        · have e3 : ¬ y.kind = 11 := by simpa using e3
          have e : l1 = l2 := by
            rw [← hl1, ← hl2]
            split
            · rfl
            · rename_i hn
              rw [hq, if_neg fun q => hn ⟨q.2.1, q.2.2.1, q.2.2.2.1⟩, if_neg fun q => e3 q.2.1]
          subst e
          exact ⟨(C1, d1), ⟨rfl, rfl, rfl, rfl, rfl, rfl, rfl, trivial⟩, o15, f15, H15, x15⟩
      · have e2 : ¬ y.to = b := by simpa using e2
        have e : l1 = l2 := by rw [← hl1, ← hl2, if_neg fun q => e2 q.2.2, hq, if_neg fun q => e2 q.2.2.2.1, if_neg fun q => e2 q.2.2.2]
        subst e
        exact ⟨(C1, d1), ⟨rfl, rfl, rfl, rfl, rfl, rfl, rfl, trivial⟩, o15, f15, H15, x15⟩
    · have e1 : ¬ y.port = a := by simpa using e1
      have e : l1 = l2 := by rw [← hl1, ← hl2, if_neg fun q => e1 q.2.1, hq, if_neg fun q => e1 q.2.2.1, if_neg fun q => e1 q.2.2.1]
      subst e
      exact ⟨(C1, d1), ⟨rfl, rfl, rfl, rfl, rfl, rfl, rfl, trivial⟩, o15, f15, H15, x15⟩
  rintro ⟨C2, d2⟩ h16 ⟨o16, f16, H16, x16⟩
  simp only at o16 f16
  refine (mQueue_spec po N12.ok H16 a b).mono ?_
  rintro v h17 ⟨A', c', rfl, o17, x17⟩
  rw [if_pos ⟨hia, hib⟩, hl2] at o17 ⊢
  refine (l3Ints_spec (o17.row encI_len) ((o16.ext x17).row encI_len) rfl rfl ?_ ?_).mono ?_
  · have := N12.ok.q a b; rw [hl2, hpr] at this; omega
  · have := N12.ok.q a b; rw [hl2, hpr] at this; omega
  rintro v h18 ⟨rfl, x18⟩
  refine xif_of (fun w => absurd w (by simp)) (fun _ => ?_)
  subst hl2
  exact ⟨(i + 1, F', M', C2, d2), ⟨rfl, rfl, rfl, rfl, rfl, rfl, slot_inc (by omega), trivial⟩, ⟨by show i + 1 ≤ ops.length; omega, N12, H16.ext (x17.trans x18), o16.ext (x17.trans x18), f16, x16.trans (x17.trans x18)⟩, by show ops.length - (i + 1) < ops.length - i; omega⟩
end
end Go.Proofs.YtgiofdiifkahoaaE
