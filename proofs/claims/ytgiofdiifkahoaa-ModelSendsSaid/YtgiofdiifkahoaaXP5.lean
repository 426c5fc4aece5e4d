/- What the law ModelSends answers: yes. Conditions: the arguments are of their types. -/
import Derived.Test.YtgiofdiifkahoaaXP4
set_option linter.unusedVariables false
set_option linter.unusedSimpArgs false
set_option maxRecDepth 100000
namespace Go.Proofs.YtgiofdiifkahoaaE
open Go Go.Proofs
def env_lSends : Nat → Ann
  | 9 => ⟨.nil, [], true⟩
  | 24 => ⟨.nil, [], true⟩
  | _ => ⟨.nil, [], false⟩
/-- What comes of a frame, by VLANs one behind the other: the last one that is right. -/
def wantV (q vid : Int) : List Vl → Int → Int
  | [], w => w
  | v :: l, w => wantV q vid l (if v.vid = vid ∧ hasM v.mem q = true then (if hasM v.unt q = true then 2 else 3) else w)
theorem wantV_none {q vid : Int} : ∀ {l : List Vl} {w : Int}, vid ∉ l.map Vl.vid → wantV q vid l w = w
  | [], _, _ => rfl
  | v :: l, w, h => by
    rw [List.map_cons, List.mem_cons, not_or] at h
    rw [wantV, if_neg (fun e => h.1 e.1.symm), wantV_none h.2]
theorem wantV_eq {q vid : Int} : ∀ {l : List Vl} {i : Nat}, (l.map Vl.vid).Nodup → wantV q vid l 1 =
    if findV vid l i < 0 then 1 else if hasM (l.getD ((findV vid l i).toNat - i) ⟨0, 0, 0⟩).mem q = false then 1 else if hasM (l.getD ((findV vid l i).toNat - i) ⟨0, 0, 0⟩).unt q = true then 2 else 3
  | [], i, _ => by rw [findV, if_pos (by decide)]; rfl
  | v :: l, i, h => by
    rw [List.map_cons, List.nodup_cons] at h
    by_cases e : v.vid = vid
    · have hn : vid ∉ l.map Vl.vid := e ▸ h.1
      rw [wantV, wantV_none hn, findV, if_pos e, if_neg (show ¬ (i : Int) < 0 by omega), Int.toNat_natCast, Nat.sub_self]
      show _ = if hasM v.mem q = false then 1 else if hasM v.unt q = true then 2 else 3
      cases hm : hasM v.mem q with
      | true => rw [if_pos ⟨e, rfl⟩, if_neg (show ¬ (true = false) by decide)]
      | false => rw [if_neg (fun q => by cases q.2), if_pos rfl]
    · rw [wantV, if_neg (fun q => e q.1), wantV_eq (i := i + 1) h.2, findV, if_neg e]
      rcases findV_range (vid := vid) l (i + 1) with hf | ⟨f0, f1⟩
      · rw [if_pos (by omega), if_pos (by omega)]
      · have : (findV vid l (i + 1)).toNat - i = ((findV vid l (i + 1)).toNat - (i + 1)) + 1 := by omega
        rw [this, List.getD_cons_succ]
theorem send_want {M : Md} {p : Pl} (N : Nice p M) (q vid : Int) : sendM M q vid = if (M.stands.getD q.toNat ⟨0, 0⟩).st ≠ 4 then 0 else wantV q vid M.vlans 1 := by
  rw [wantV_eq (i := 0) N.one]
  unfold sendM
  simp only [Nat.sub_zero]
section
variable {base : Nat} {F : Nat → Prop} {h h1 h' : Heap} {m : Nat} {D : Dat} {p : Pl} {M M' : Md}
theorem MdAt.notV (H : MdP base F h m D p M) {b' c : Nat} {C : Option Addr} {l : List Vl} (o : OwnA encVl 3 67 b' h C c l) (hF : ∀ b, C = some ⟨b, 0, none⟩ → D.va ≠ some ⟨b, 0, none⟩) : ∀ b, C = some ⟨b, 0, none⟩ → ¬ D.X F b := by
  rintro b rfl hk
  obtain ⟨cx, hc⟩ := own_blk o
  rcases hk with rfl | hk | rfl | rfl | hk
  · obtain ⟨cy, hy⟩ := own_blk H.stands
    have e := ty_eq hy hc
    revert e; decide
  · exact hF _ rfl hk
  · obtain ⟨_, cy, hy⟩ := H.book.table
    have e := ty_eq hy hc
    revert e; decide
  · exact H.mapNe hc rfl
  · obtain ⟨c', g', hx⟩ := H.tyF b hk
    have e := ty_eq hx hc
    revert e; decide
end
section
variable {h : Heap}
theorem lSends_spec {A B O : Option Addr} {na ca nb cb no co : Nat} {rules : List Ru} {vls : List Vl} {ops : List Op17} {P tries ring normal short vid : Int} {s : Sz}
    (hra : Row encRu 2 h A rules) (hla : rules.length = na) (hrb : Row encVl 3 h B vls) (hlb : vls.length = nb) (hro : Row encO17 14 h O ops) (hlo : ops.length = no)
    (wf : ∀ v ∈ vls, SetWf v.mem ∧ SetWf v.unt) (wo : ∀ o ∈ ops, o.Wf) :
    HCalls Try.prog 5 #[.agg (planV P (.slice A na ca) (.slice B nb cb) s tries ring normal short).toArray, .slice O no co, .int .i64 vid] h (fun v h' => v = .bool true ∧ Ext h h') := by
  subst hlo
  refine xcalls env_lSends Try.func5 rfl (by kernel_rfl) rfl (by kernel_rfl) ?_
  intro pb h2 n1
  have hpb2 := n1.this
  have x02 := n1.ext
  refine ⟨_, rfl, reads_all hpb2, ?_⟩
  refine (rPFix_spec (x02.row hra) hla (x02.row hrb) hlb wf).mono ?_
  rintro v h3 ⟨A3, c3, B3, d3, rfl, oR3, oV3, x3⟩
  have oR3 : OwnA encRu 2 _ h2.size h3 A3 c3 (fixRules P rules) := oR3
  have oV3 : OwnA encVl 3 _ h2.size h3 B3 d3 (fixVlans P vls) := oV3
  have hpb3 := x3.blk hpb2
  refine ⟨rfl, rfl, canset_blk hpb3 rfl, fun h4 s4 => ?_⟩
  have hpb : h4[pb]? = some (.cells (planV (fixPorts P) (.slice A3 (fixPorts P).toNat c3) (.slice B3 (fixVlans P vls).length d3) (fixSz s) (fixTries tries) (fixRing ring) normal short).toArray 28 (0, 0)) := s4.put hpb3
  have x04 : Ext h h4 := (x02.trans x3).stored s4 (n1.ge (Ext.refl _))
  have pb2 : pb < h2.size := blk_lt hpb2
  have oR4 := oR3.other s4 fun b hb => by have := oR3.ge b hb; intro e; subst e; omega
  have oV4 := oV3.other s4 fun b hb => by have := oV3.ge b hb; intro e; subst e; omega
  have hrl : (fixRules P rules).length = (fixPorts P).toNat := by unfold fixRules; simp
  have pr := fixPorts_range P
  have vl8 := fixVlans_len P vls
  refine ⟨_, rfl, reads_all hpb, ?_⟩
  refine (l17To_spec (oR4.row encRu_len) hrl (oV4.row encVl_len) rfl (by omega) (by omega)).mono ?_
  rintro v h5 ⟨A5, c5, B5, d5, rfl, oR5, oV5, x5⟩
  refine (mNew_fix oR5 oV5 hrl rfl wf).mono ?_
  rintro v h6 ⟨m, D, rfl, H6, x6⟩
  refine (told17_spec).mono ?_
  rintro v h7 ⟨rfl, x7⟩
  have x47 : Ext h4 h7 := x5.trans (x6.trans x7)
  have x07 := x04.trans x47
  have hb5 : h.size ≤ h5.size := (x04.trans x5).size
  have H7 := H6.ext x7
  have hpb7 := x47.blk hpb
  have po := fixPl_ok P s tries ring normal short
  have N7 := fixVlans_nice (P := P) (tries := tries) (ring := ring) (normal := normal) (short := short) (s := s) wf
  obtain ⟨p, hp⟩ : ∃ p, fixPl P s tries ring normal short = p := ⟨_, rfl⟩
  have hpp : p.ports = fixPorts P := by rw [← hp]; rfl
  rw [hp] at H7 po N7
  have hpb5 := x5.blk hpb
  have x05 := x04.trans x5
  refine ⟨(Nat → Prop) × Md, fun z => [(2, .int .i64 vid), (3, .pointer (some ⟨pb, 0, none⟩)), (7, .pointer (some ⟨m, 0, none⟩))], fun z h' => Nice p z.2 ∧ MdP h5.size z.1 h' m D p z.2 ∧ Ext h5 h', ?_, ?_⟩
  · refine ⟨Nat × (Nat → Prop) × Md, fun z => [(1, .slice O ops.length co), (2, .int .i64 vid), (3, .pointer (some ⟨pb, 0, none⟩)), (7, .pointer (some ⟨m, 0, none⟩)), (9, .int .i64 z.1)],
      fun z h' => z.1 ≤ ops.length ∧ Nice p z.2.2 ∧ MdP h5.size z.2.1 h' m D p z.2.2 ∧ Ext h5 h', fun z => ops.length - z.1, (0, fun _ => False, _), ⟨rfl, rfl, rfl, rfl, rfl, trivial⟩, ⟨Nat.zero_le _, N7, H7, x6.trans x7⟩, ?_⟩
    rintro ⟨i, F, M⟩ h8 ⟨hi, N8, H8, x8⟩
    simp only at hi N8 H8
    refine xif_of (fun hlt => ?_) (fun _ => ⟨(F, M), ⟨rfl, rfl, rfl, trivial⟩, N8, H8, x8⟩)
    have hlt : (i : Int) < ops.length := of_decide_eq_true hlt
    refine xif_of (fun hlt2 => ?_) (fun _ => ⟨(F, M), ⟨rfl, rfl, rfl, trivial⟩, N8, H8, x8⟩)
    have hlt2 : (i : Int) < 100 := of_decide_eq_true hlt2
    obtain ⟨y, hy⟩ : ∃ y, ops[i]? = some y := ⟨ops[i]'(by omega), List.getElem?_eq_getElem (by omega)⟩
    have wy := wo y (List.mem_of_getElem? hy)
    obtain ⟨ya, hO, hrd⟩ := ((x05.trans x8).row hro) i y hy
    refine ⟨ya, hO, (by show (0 : Int) ≤ i; omega), hlt, encO17 y, rfl, hrd, ?_⟩
    refine (l17Op_spec y).mono ?_
    rintro v h11 ⟨rfl, x11⟩
    have H11 := H8.ext x11
    refine (mDo_spec po N8.ok (by have := N8.few; omega) H11 wy).mono ?_
    rintro v h12 ⟨rfl, d12⟩
    have x12 := d12.ext0 H11 (x8.trans x11) (Nat.le_refl _)
    obtain ⟨F', _, H12, _⟩ := d12
    exact ⟨(i + 1, F', (do17 p M y).1), ⟨rfl, rfl, rfl, rfl, slot_inc (by omega), trivial⟩, ⟨by show i + 1 ≤ ops.length; omega, nice_do po N8 wy, H12, x12⟩, by show ops.length - (i + 1) < ops.length - i; omega⟩
  rintro ⟨F, M⟩ h8 ⟨N8, H8, x8⟩
  simp only at N8 H8
  have few := N8.few
  refine (mVlans_spec H8 (by omega)).mono ?_
  rintro v h9 ⟨VA, vc, rfl, oV9, x9⟩
  have hva : ∀ b, VA = some ⟨b, 0, none⟩ → D.va ≠ some ⟨b, 0, none⟩ := by
    intro b e1 e2
    have hg := oV9.ge b e1
    have := H8.vlans
    rw [e2] at this
    obtain ⟨cy, hy⟩ := own_blk this
    have := blk_lt hy
    omega
  obtain ⟨N, hN⟩ : ∃ N : Nat, fixPorts P = N := ⟨(fixPorts P).toNat, by omega⟩
  refine ⟨Nat × (Nat → Prop), fun z => [(2, .int .i64 vid), (3, .pointer (some ⟨pb, 0, none⟩)), (7, .pointer (some ⟨m, 0, none⟩)), (10, .slice VA M.vlans.length vc), (11, .int .i64 z.1)],
    fun z h' => z.1 ≤ N ∧ MdP h5.size z.2 h' m D p M ∧ OwnA encVl 3 67 h8.size h' VA vc M.vlans ∧ Ext h5 h', fun z => N - z.1, (0, F), ⟨rfl, rfl, rfl, rfl, rfl, trivial⟩, ⟨Nat.zero_le _, H8.ext x9, oV9, x8.trans x9⟩, ?_⟩
  rintro ⟨q, F1⟩ h10 ⟨hq, H10, oV10, x10⟩
  simp only at hq H10
  have hpb10 := x10.blk hpb5
  refine ⟨_, cell_blk hpb10 rfl, ?_⟩
  refine xif_of (fun hlt => ?_) (fun _ => ⟨rfl, x05.trans x10⟩)
  have hlt : (q : Int) < fixPorts P := of_decide_eq_true hlt
  have hiq : inP p q := ⟨by omega, by rw [hpp]; omega⟩
  obtain ⟨W, hW⟩ : ∃ W, wantV q vid M.vlans 1 = W := ⟨_, rfl⟩
  refine ⟨Nat × Int, fun z => [(2, .int .i64 vid), (3, .pointer (some ⟨pb, 0, none⟩)), (7, .pointer (some ⟨m, 0, none⟩)), (10, .slice VA M.vlans.length vc), (11, .int .i64 q), (12, .int .i64 z.2), (13, .int .i64 z.1)],
    fun z h' => z.1 ≤ M.vlans.length ∧ wantV q vid (M.vlans.drop z.1) z.2 = W ∧ h' = h10, fun z => M.vlans.length - z.1, (0, 1), ⟨rfl, rfl, rfl, rfl, rfl, rfl, rfl, trivial⟩, ⟨Nat.zero_le _, hW, rfl⟩, ?_⟩
  rintro ⟨k, w⟩ h11 ⟨hk, hw, rfl⟩
  simp only at hk hw
  refine xif_of (fun hlt3 => ?_) (fun hge => ?_)
  · have hlt3 : (k : Int) < M.vlans.length := of_decide_eq_true hlt3
    have k0 : (0 : Int) ≤ k := by omega
    obtain ⟨y, hy⟩ : ∃ y, M.vlans[k]? = some y := ⟨M.vlans[k]'(by omega), List.getElem?_eq_getElem (by omega)⟩
    have wy := N8.ok.vl y (List.mem_of_getElem? hy)
    obtain ⟨ya, hO, hrd⟩ := (oV10.row encVl_len) k y hy
    have hd : M.vlans.drop k = y :: M.vlans.drop (k + 1) := by
      obtain ⟨hi', e⟩ := List.getElem?_eq_some_iff.1 hy
      rw [List.drop_eq_getElem_cons hi', e]
    rw [hd, wantV] at hw
    refine ⟨ya, hO, k0, hlt3, _, hrd.get 0 rfl, ?_⟩
    have dec : M.vlans.length - (k + 1) < M.vlans.length - k := by omega
    refine xif_of (fun e1 => ?_) (fun e1 => ?_)
    · have e1 : y.vid = vid := by simpa using e1
      refine ⟨ya, hO, k0, hlt3, _, hrd.get 1 rfl, ?_⟩
      refine (r3Has_spec wy.1).mono ?_
      rintro v h12 ⟨rfl, rfl⟩
      refine xif_of (fun e2 => ?_) (fun e2 => ?_)
      · refine ⟨ya, hO, k0, hlt3, _, hrd.get 2 rfl, ?_⟩
        refine (r3Has_spec wy.2).mono ?_
        rintro v h13 ⟨rfl, rfl⟩
        rw [if_pos ⟨e1, e2⟩] at hw
        refine xif_of (fun e3 => ?_) (fun e3 => ?_)
        · rw [if_pos e3] at hw
          exact ⟨(k + 1, 2), ⟨rfl, rfl, rfl, rfl, rfl, rfl, slot_inc (i := k) (by omega), trivial⟩, ⟨by show k + 1 ≤ M.vlans.length; omega, hw, rfl⟩, dec⟩
        · rw [if_neg (by rw [e3]; decide)] at hw
          exact ⟨(k + 1, 3), ⟨rfl, rfl, rfl, rfl, rfl, rfl, slot_inc (i := k) (by omega), trivial⟩, ⟨by show k + 1 ≤ M.vlans.length; omega, hw, rfl⟩, dec⟩
      · rw [if_neg (fun q => by rw [e2] at q; cases q.2)] at hw
        exact ⟨(k + 1, w), ⟨rfl, rfl, rfl, rfl, rfl, rfl, slot_inc (i := k) (by omega), trivial⟩, ⟨by show k + 1 ≤ M.vlans.length; omega, hw, rfl⟩, dec⟩
    · have e1 : ¬ y.vid = vid := by simpa using e1
      rw [if_neg (fun q => e1 q.1)] at hw
      exact ⟨(k + 1, w), ⟨rfl, rfl, rfl, rfl, rfl, rfl, slot_inc (i := k) (by omega), trivial⟩, ⟨by show k + 1 ≤ M.vlans.length; omega, hw, rfl⟩, dec⟩
  have hge : ¬ (k : Int) < M.vlans.length := of_decide_eq_false hge
  rw [List.drop_of_length_le (by omega), wantV] at hw
  subst hw
  refine (mStand_spec N8.ok (by have := po.hi; omega) H10 q).mono ?_
  rintro v h12 ⟨rfl, x12⟩
  rw [if_pos hiq]
  obtain ⟨st, hst⟩ : ∃ st, M.stands.getD (q : Int).toNat ⟨0, 0⟩ = st := ⟨_, rfl⟩
  rw [hst]
  intro sb h13 n13
  refine ⟨rfl, rfl, canset_blk n13.this rfl, fun h14 s14 => ?_⟩
  have hsb : h14[sb]? = some (.cells (encSn st).toArray 62 (0, 0)) := s14.put n13.this
  have x1014 : Ext h11 h14 := (x12.trans n13.ext).stored s14 (n13.ge x12)
  have H14 := H10.ext x1014
  have hsend := send_want N8 q vid
  rw [hst, hW] at hsend
  refine ⟨Int, fun z => [(2, .int .i64 vid), (3, .pointer (some ⟨pb, 0, none⟩)), (7, .pointer (some ⟨m, 0, none⟩)), (10, .slice VA M.vlans.length vc), (11, .int .i64 q), (12, .int .i64 z), (14, .pointer (some ⟨sb, 0, none⟩))],
    fun z h' => sendM M q vid = z ∧ h' = h14, ?_, ?_⟩
  · refine ⟨_, cell_blk hsb rfl, ?_⟩
    refine xif_of (fun e => ?_) (fun e => ?_)
    · have e : ¬ st.st = 4 := by simpa using e
      rw [if_pos e] at hsend
      exact ⟨0, ⟨rfl, rfl, rfl, rfl, rfl, rfl, rfl, trivial⟩, hsend, rfl⟩
    · have e : st.st = 4 := by simpa using e
      rw [if_neg (fun n => n e)] at hsend
      exact ⟨w, ⟨rfl, rfl, rfl, rfl, rfl, rfl, rfl, trivial⟩, hsend, rfl⟩
  rintro z h15 ⟨hz, rfl⟩
  have hstr : rightSt st.st = true := by
    rw [List.getD_eq_getElem?_getD] at hst
    have hl := N8.ok.st
    have h1 := hiq.2
    have hm : M.stands[(q : Int).toNat]? = some (M.stands[(q : Int).toNat]'(by omega)) := List.getElem?_eq_getElem (by omega)
    rw [hm] at hst
    exact N8.st st (hst ▸ List.getElem_mem _)
  refine ⟨_, cell_blk hsb rfl, ?_⟩
  refine (r16Right_spec _).mono ?_
  rintro v h16 ⟨rfl, rfl⟩
  rw [hstr]
  refine (mDo_spec (o := opZ 12 0 q vid 0) po N8.ok (by omega) H14 (opZ_wf ..)).mono ?_
  rintro v h17 ⟨rfl, d17⟩
  rw [do_send (x := opZ 12 0 q vid 0) hiq rfl] at d17 ⊢
  have er : sendM M (opZ 12 0 q vid 0).to (opZ 12 0 q vid 0).vid = z := hz
  rw [er]
  have x17 := d17.ext0 H14 (x10.trans x1014) (Nat.le_refl _)
  obtain ⟨F17, _, H17, fr17⟩ := d17
  refine xif_of (fun e => absurd e (by simp)) (fun _ => ?_)
  have oV14 := oV10.ext x1014
  refine ⟨(q + 1, F17), ⟨rfl, rfl, rfl, rfl, slot_inc (i := q) (by omega), trivial⟩, ⟨by show q + 1 ≤ N; omega, H17, oV14.fr fr17 (MdAt.notV H14 oV14 hva), x17⟩, by show N - (q + 1) < N - q; omega⟩
end
end Go.Proofs.YtgiofdiifkahoaaE
