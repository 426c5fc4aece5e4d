/- What is asked of the program's model, and helpers of the laws. Conditions: the arguments are of their types. -/
import Derived.Test.YtgiofdiifkahoaaGreatXP1
import Derived.Test.YtgiofdiifkahoaaGreatXN8
set_option linter.unusedVariables false
set_option linter.unusedSimpArgs false
set_option maxRecDepth 100000
namespace Go.Proofs.YtgiofdiifkahoaaGreatE
open Go Go.Proofs
def env_l3Ints : Nat → Ann
  | 6 => ⟨.op 0 [] <| .op 1 [] <| .op 2 [] <| .op 3 [] <| .op 4 [] <| .op 5 [] <| .op 6 [] <| .op 7 [] <| .op 8 [] <| .nil, [0, 0, 3, 7, 0, 0, 48, 112, 255], false⟩
  | 8 => ⟨.nil, [], true⟩
  | _ => ⟨.nil, [], false⟩
section
variable {base : Nat} {F : Nat → Prop} {h h1 h' : Heap} {m : Nat} {D : Dat} {p : Pl} {M M' : Md}
theorem r16Right_spec (s : Int) : HCalls Tryz.prog 112 #[.int .i64 s] h (fun v h' => v = .bool (rightSt s) ∧ h' = h) := by
  refine xcalls env0 Tryz.func112 rfl (by kernel_rfl) rfl (by kernel_rfl) ?_
  refine xif_of (fun q => ?_) (fun q => ?_)
  · have q : s ≥ 0 := of_decide_eq_true q
    refine ⟨congrArg Value.bool ?_, rfl⟩
    unfold rightSt
    rw [Bool.eq_iff_iff, decide_eq_true_iff, decide_eq_true_iff]; omega
  · have q : ¬ s ≥ 0 := of_decide_eq_false q
    exact ⟨congrArg Value.bool (decide_eq_false fun hh => q hh.1).symm, rfl⟩
theorem mVlans_spec (H : MdP base F h m D p M) (hn : M.vlans.length ≤ 100000) : HCalls Tryz.prog 65 #[.pointer (some ⟨m, 0, none⟩)] h (fun v h' => ∃ A c, v = .slice A M.vlans.length c ∧ OwnA encVl 3 116 h.size h' A c M.vlans ∧ Ext h h') := by
  refine xcalls env0 Tryz.func65 rfl (by kernel_rfl) rfl (by kernel_rfl) ?_
  refine ⟨_, cell_blk H.blk rfl, ?_⟩
  refine (vlClone_spec H.vlans rfl hn).mono ?_
  rintro v h2 ⟨A, c, rfl, o, x⟩
  exact ⟨A, c, rfl, o, x⟩
theorem mStand_spec (K : MdOk p M) (hp : p.ports ≤ 64) (H : MdP base F h m D p M) (n : Int) : HCalls Tryz.prog 18 #[.pointer (some ⟨m, 0, none⟩), .int .i64 n] h (fun v h' => v = .agg (encSn (if inP p n then M.stands.getD n.toNat ⟨0, 0⟩ else ⟨0, 0⟩)).toArray ∧ Ext h h') := by
  refine xcalls env0 Tryz.func18 rfl (by kernel_rfl) rfl (by kernel_rfl) ?_
  intro rb h1 n1
  have H1 := H.ext n1.ext
  refine (mHas_spec H1 n).mono ?_
  rintro v h2 ⟨rfl, rfl⟩
  refine xif_of (fun q => ?_) (fun q => ?_)
  · have q : ¬ inP p n := by simpa using q
    rw [if_neg q]
    refine ⟨rfl, rfl, canset_blk n1.this rfl, fun h3 s3 => ?_⟩
    have hr : h3[rb]? = some (.cells (encSn ⟨0, 0⟩).toArray 60 (0, 0)) := s3.put n1.this
    exact ⟨_, rfl, reads_all hr, rfl, n1.ext.stored s3 (n1.ge (Ext.refl _))⟩
  · have q : inP p n := by simpa using q
    rw [if_pos q]
    obtain ⟨j, hj⟩ : ∃ j : Nat, n = j := ⟨n.toNat, (Int.toNat_of_nonneg q.1).symm⟩
    subst hj
    have hst := K.st
    have q1 := q.2
    have hjl : j < M.stands.length := by omega
    obtain ⟨w, hw⟩ : ∃ w, M.stands[j]? = some w := ⟨M.stands[j], List.getElem?_eq_getElem hjl⟩
    obtain ⟨a, ha, hrd⟩ := (H1.stands.row encSn_len) j w hw
    refine ⟨_, cell_blk H1.blk rfl, a, ha, q.1, by omega, _, rfl, hrd, rfl, rfl, canset_blk n1.this rfl, fun h3 s3 => ?_⟩
    have hr : h3[rb]? = some (.cells (encSn w).toArray 60 (0, 0)) := s3.put n1.this
    rw [Int.toNat_natCast, List.getD_eq_getElem?_getD, hw]
    exact ⟨_, rfl, reads_all hr, rfl, n1.ext.stored s3 (n1.ge (Ext.refl _))⟩
theorem mQueue_spec (po : p.Ok) (K : MdOk p M) (H : MdP base F h m D p M) (a b : Int) :
    HCalls Tryz.prog 19 #[.pointer (some ⟨m, 0, none⟩), .int .i64 a, .int .i64 b] h (fun v h' => ∃ A c, v = .slice A (if inP p a ∧ inP p b then M.queues a b else []).length c ∧ OwnA encI 1 3 h.size h' A c (if inP p a ∧ inP p b then M.queues a b else []) ∧ Ext h h') := by
  refine xcalls env0 Tryz.func19 rfl (by kernel_rfl) rfl (by kernel_rfl) ?_
  refine (mHas_spec H a).mono ?_
  rintro v h2 ⟨rfl, rfl⟩
  refine xif_of (fun q => ?_) (fun q => ?_)
  · have q : ¬ inP p a := by simpa using q
    rw [if_neg (fun e => q e.1)]
    exact ⟨none, 0, rfl, .inl ⟨rfl, rfl, rfl⟩, Ext.refl _⟩
  have q : inP p a := by simpa using q
  refine (mHas_spec H b).mono ?_
  rintro v h2 ⟨rfl, rfl⟩
  refine xif_of (fun q2 => ?_) (fun q2 => ?_)
  · have q2 : ¬ inP p b := by simpa using q2
    rw [if_neg (fun e => q2 e.2)]
    exact ⟨none, 0, rfl, .inl ⟨rfl, rfl, rfl⟩, Ext.refl _⟩
  have q2 : inP p b := by simpa using q2
  rw [if_pos ⟨q, q2⟩]
  obtain ⟨es, hm, Q⟩ := H.queues
  obtain ⟨r, hr, rn, ro, ra⟩ := qents_at Q a b
  refine ⟨_, cell_blk H.blk rfl, ?_⟩
  refine xlookup_def (encV := encQv) (z := ⟨none, 0, 0⟩) pairLaw Tryz.underlying130 mapQTy mapQZero hm (a, b) fun Fc => ?_
  rw [hr]
  obtain ⟨rA, rN, rC⟩ := r
  simp only at rn ro ra
  have hq64 := K.q a b
  have hr64 := po.ring1
  refine (iClone_spec (ro.row encI_len) ?_ rn.symm (by omega)).mono ?_
  · rintro rfl
    rcases ro with ⟨_, e, _⟩ | ⟨b, _, e, _⟩
    · exact e
    · cases e
  rintro v h3 ⟨A, c, rfl, o, _, x⟩
  rw [rn]
  exact ⟨A, c, rfl, o, x⟩
theorem l3Ints_spec {A B : Option Addr} {na ca nb cb : Nat} {l k : List Int} (hr : Row encI 1 h A l) (hs : Row encI 1 h B k) (hl : l.length = na) (hk : k.length = nb) (hn : na ≤ 1000000) (hn2 : nb ≤ 1000000) : HCalls Tryz.prog 27 #[.slice A na ca, .slice B nb cb] h (fun v h' => v = .bool (decide (l = k)) ∧ Ext h h') := by
  subst hl hk
  refine xcalls env_l3Ints Tryz.func27 rfl (by kernel_rfl) rfl (by kernel_rfl) ?_
  refine xif_of (fun q => ?_) (fun q => ?_)
  · have q : (l.length : Int) ≠ k.length := by simpa using q
    exact ⟨congrArg Value.bool (decide_eq_false fun e => q (by rw [e])).symm, Ext.refl _⟩
  have q : (l.length : Int) = k.length := by simpa using q
  have q : l.length = k.length := by omega
  refine ⟨Unit, fun _ => [], fun _ h' => l = k ∧ Ext h h', ?_, ?_⟩
  · refine ⟨Nat, fun i => [(0, .slice A l.length ca), (1, .slice B k.length cb), (5, .int .i64 i)], fun i h' => (i ≤ l.length ∧ ∀ j < i, l[j]? = k[j]?) ∧ Ext h h', fun i => l.length - i, 0, ⟨rfl, rfl, rfl, trivial⟩, ⟨⟨Nat.zero_le _, fun j hj => absurd hj (Nat.not_lt_zero _)⟩, Ext.refl _⟩, ?_⟩
    rintro i h2 ⟨⟨hi, he⟩, x2⟩
    refine xif_of (fun hlt => ?_) (fun hge => ?_)
    · have hlt : (i : Int) < l.length := of_decide_eq_true hlt
      have h1 : l[i]? = some (l[i]'(by omega)) := List.getElem?_eq_getElem (by omega)
      have h2' : k[i]? = some (k[i]'(by omega)) := List.getElem?_eq_getElem (by omega)
      obtain ⟨x, hx⟩ : ∃ x, l[i]? = some x := ⟨_, h1⟩
      obtain ⟨y, hy⟩ : ∃ y, k[i]? = some y := ⟨_, h2'⟩
      obtain ⟨a, rfl, ra⟩ := (x2.row hr) i x hx
      obtain ⟨b, rfl, rb⟩ := (x2.row hs) i y hy
      have q0 : (0 : Int) ≤ i := by omega
      refine ⟨_, rfl, q0, by omega, _, ra.get 0 rfl, _, rfl, q0, by omega, _, rb.get 0 rfl, ?_⟩
      refine xif_of (fun d => ?_) (fun d => ?_)
      · have d : x ≠ y := by simpa using d
        exact ⟨congrArg Value.bool (decide_eq_false fun e => d (by rw [e, hy] at hx; exact (Option.some.inj hx).symm)).symm, x2⟩
      · have d : x = y := by simpa using d
        exact ⟨i + 1, ⟨rfl, rfl, slot_inc (by omega), trivial⟩, ⟨⟨by omega, fun j hj => by rcases Nat.lt_succ_iff_lt_or_eq.1 hj with h | rfl; exact he j h; rw [hx, hy, d]⟩, x2⟩, by show l.length - (i + 1) < l.length - i; omega⟩
    · have hge : ¬ (i : Int) < l.length := of_decide_eq_false hge
      refine ⟨(), trivial, List.ext_getElem? fun j => ?_, x2⟩
      by_cases hj : j < i
      · exact he j hj
      · rw [List.getElem?_eq_none (by omega), List.getElem?_eq_none (by omega)]
  · rintro _ h2 ⟨rfl, x2⟩
    exact ⟨congrArg Value.bool (decide_eq_true rfl).symm, x2⟩
/-- A model of a plan that is made out of any one. -/
theorem mNew_fix {A B : Option Addr} {ca cb na nb : Nat} {rules : List Ru} {vls : List Vl} {P tries ring normal short : Int} {s : Sz} (ora : OwnA encRu 2 113 base h A ca (fixRules P rules)) (orb : OwnA encVl 3 116 base h B cb (fixVlans P vls)) (hna : (fixRules P rules).length = na) (hnb : (fixVlans P vls).length = nb) (wf : ∀ v ∈ vls, SetWf v.mem ∧ SetWf v.unt) :
    HCalls Tryz.prog 10 #[.agg (planV (fixPorts P) (.slice A na ca) (.slice B nb cb) (fixSz s) (fixTries tries) (fixRing ring) normal short).toArray] h (fun v h' => ∃ m D, v = .tuple #[.pointer (some ⟨m, 0, none⟩), .int .i64 0] ∧ MdP h.size (fun _ => False) h' m D (fixPl P s tries ring normal short) (newM (fixPl P s tries ring normal short) (fixVlans P vls)) ∧ Ext h h') := by
  have hp := fixPorts_range P
  have hl := fixVlans_len P vls
  have hr : (fixRules P rules).length = (fixPorts P).toNat := by unfold fixRules; simp
  exact mNew_ok ora hna orb hnb (by omega) (by omega) (fun v hv => fixVl_wf _ _ (fun v hv => wf v (List.mem_of_mem_take hv)) v hv) (fix_check P rules vls s tries ring) ⟨hp.1, by omega⟩ (fixSz_ok s)
theorem fixVlans_nice {P tries ring normal short : Int} {s : Sz} {vls : List Vl} (wf : ∀ v ∈ vls, SetWf v.mem ∧ SetWf v.unt) : Nice (fixPl P s tries ring normal short) (newM (fixPl P s tries ring normal short) (fixVlans P vls)) :=
  nice_new (fixPl_ok ..) (fun v hv => fixVl_wf _ _ (fun v hv => wf v (List.mem_of_mem_take hv)) v hv) (fixVlans_len P vls) (fixVl_nodup _ _)
theorem Did.ext0 {h0 : Heap} (d : Did base F h m D p M' h') (H : MdP base F h m D p M) (x : Ext h0 h) (hb : h0.size ≤ base) : Ext h0 h' := by
  obtain ⟨F', _, _, f⟩ := d
  exact f.ext x fun k hk => Nat.le_trans hb (H.geX k hk)
def opZ (kind port to vid state : Int) : Op17 := ⟨kind, port, to, vid, state, 0, 0, 0, 0, 0, 0, 0, 0, 0⟩
theorem opZ_wf (kind port to vid state : Int) : (opZ kind port to vid state).Wf := by
  refine ⟨⟨?_, ?_, ?_, ?_⟩, ⟨?_, ?_⟩, ⟨?_, ?_⟩, ?_, ?_⟩ <;> simp [opZ]
def toldP : Pl := fixPl 0 ⟨0, 0, 0⟩ 0 0 0 0
def toldM : Md := newM toldP (fixVlans 0 [⟨0, 2, 0⟩])
theorem told17_1 : (do17 toldP toldM (opZ 8 1 0 0 4)).2 = 1 := by decide +kernel
theorem told17_2 : (do17 toldP (do17 toldP toldM (opZ 8 1 0 0 4)).1 (opZ 12 0 1 1 0)).2 = 3 := by decide +kernel
theorem told17_3 : (do17 toldP (do17 toldP toldM (opZ 8 1 0 0 4)).1 (opZ 12 0 0 1 0)).2 = 0 := by decide +kernel
theorem told17_4 : (do17 toldP (do17 toldP toldM (opZ 8 1 0 0 4)).1 (opZ 13 0 0 0 0)).2 = -1 := by decide +kernel
theorem told17_5 {x : Op17} (h : x.kind = 12 ∨ x.kind = 13) (p : Pl) (M : Md) : (do17 p M x).1 = M := by
  refine ite_q (Q := fun m : Md => m = M) (α := Md) (β := Int) (fun _ => rfl) fun _ => ?_
  rw [if_neg (by omega), if_neg (by omega), if_neg (by omega), if_neg (by omega), if_neg (by omega), if_neg (by omega), if_neg (by omega), if_neg (by omega), if_neg (by omega), if_neg (by omega), if_neg (by omega), if_neg (by omega)]
  split <;> rfl
theorem told17_spec : HCalls Tryz.prog 12 #[] h (fun v h' => v = .bool true ∧ Ext h h') := by
  refine xcalls env0 Tryz.func12 rfl (by kernel_rfl) rfl (by kernel_rfl) ?_
  intro b h1 n1
  have hb : h1[b]? = some (.cells (encVl ⟨0, 2, 0⟩).toArray 105 (0, 0)) := n1.this
  have row1 : Row encVl 3 h1 (some ⟨b, 0, none⟩) [⟨0, 2, 0⟩] := row_blk (rest := []) hb fun _ _ => rfl
  have wf : ∀ v ∈ [(⟨0, 2, 0⟩ : Vl)], SetWf v.mem ∧ SetWf v.unt := fun v hv => by
    obtain rfl := List.mem_singleton.1 hv
    exact ⟨⟨by decide, by decide⟩, ⟨by decide, by decide⟩⟩
  refine (rPFix_spec (rules := []) (vls := [⟨0, 2, 0⟩]) (s := ⟨0, 0, 0⟩) Row.nil rfl row1 rfl wf).mono ?_
  rintro v h2 ⟨A, c, B, d, rfl, oR, oV, x2⟩
  have oR : OwnA encRu 2 _ h1.size h2 A c (fixRules 0 []) := oR
  have oV : OwnA encVl 3 _ h1.size h2 B d (fixVlans 0 [⟨0, 2, 0⟩]) := oV
  intro pb h3 n3
  refine ⟨rfl, rfl, canset_blk n3.this rfl, fun h4 s4 => ?_⟩
  have hpb : h4[pb]? = some (.cells (planV 2 (.slice A 2 c) (.slice B 1 d) (fixSz ⟨0, 0, 0⟩) 1 1 0 0).toArray 28 (0, 0)) := s4.put n3.this
  have x24 : Ext h2 h4 := n3.ext.stored s4 (n3.ge (Ext.refl _))
  refine ⟨_, rfl, reads_all hpb, ?_⟩
  refine (l17To_spec ((oR.ext x24).row encRu_len) rfl ((oV.ext x24).row encVl_len) rfl (by decide) (by decide)).mono ?_
  rintro v h5 ⟨A2, c2, B2, d2, rfl, oR5, oV5, x5⟩
  refine (mNew_fix (P := 0) (tries := 0) (ring := 0) oR5 oV5 rfl rfl wf).mono ?_
  rintro v h6 ⟨m, D, rfl, H6, x6⟩
  have x06 : Ext h h6 := n1.ext.trans (x2.trans (x24.trans (x5.trans x6)))
  have hb6 : h.size ≤ h5.size := (n1.ext.trans (x2.trans (x24.trans x5))).size
  have po : toldP.Ok := fixPl_ok 0 ⟨0, 0, 0⟩ 0 0 0 0
  have N0 : Nice toldP toldM := fixVlans_nice wf
  have H6 : MdP h5.size (fun _ => False) h6 m D toldP toldM := H6
  refine (mDo_spec (o := opZ 8 1 0 0 4) po N0.ok (by have := N0.few; omega) H6 (opZ_wf ..)).mono ?_
  rintro v h7 ⟨rfl, d7⟩
  have N1 := nice_do po N0 (opZ_wf 8 1 0 0 4)
  have x07 := d7.ext0 H6 x06 hb6
  obtain ⟨F7, _, H7, _⟩ := d7
  rw [told17_1]
  refine (mDo_spec (o := opZ 12 0 1 1 0) po N1.ok (by have := N1.few; omega) H7 (opZ_wf ..)).mono ?_
  rintro v h8 ⟨rfl, d8⟩
  have x08 := d8.ext0 H7 x07 hb6
  obtain ⟨F8, _, H8, _⟩ := d8
  rw [told17_2]
  rw [told17_5 (.inl rfl)] at H8
  refine (mDo_spec (o := opZ 12 0 0 1 0) po N1.ok (by have := N1.few; omega) H8 (opZ_wf ..)).mono ?_
  rintro v h9 ⟨rfl, d9⟩
  have x09 := d9.ext0 H8 x08 hb6
  obtain ⟨F9, _, H9, _⟩ := d9
  rw [told17_3]
  rw [told17_5 (.inl rfl)] at H9
  refine (mDo_spec (o := opZ 13 0 0 0 0) po N1.ok (by have := N1.few; omega) H9 (opZ_wf ..)).mono ?_
  rintro v h10 ⟨rfl, d10⟩
  have x010 := d10.ext0 H9 x09 hb6
  rw [told17_4]
  exact ⟨rfl, x010⟩
end
end Go.Proofs.YtgiofdiifkahoaaGreatE
