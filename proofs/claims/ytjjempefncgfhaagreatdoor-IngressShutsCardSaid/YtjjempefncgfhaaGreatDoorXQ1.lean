/- What the document says of plans: may they be? Conditions: the arguments are of their types. -/
import Derived.Test.YtjjempefncgfhaaGreatDoorXN8
import Derived.Test.YtjjempefncgfhaaGreatDoorXN3
import Derived.Test.YtjjempefncgfhaaGreatDoorXB4
set_option linter.unusedVariables false
set_option linter.unusedSimpArgs false
set_option maxRecDepth 100000
namespace Go.Proofs.YtjjempefncgfhaaGreatDoorE
open Go Go.Proofs
def env_r3Check : Nat → Ann
  | 8 => ⟨.op 0 [] <| .op 1 [] <| .op 2 [] <| .op 3 [] <| .op 4 [] <| .op 5 [] <| .op 6 [] <| .op 7 [] <| .op 8 [] <| .op 9 [] <| .op 10 [] <| .op 11 [] <| .op 12 [] <| .op 13 [] <| .op 14 [] <| .op 15 [] <| .op 16 [] <| .op 17 [] <| .op 18 [] <| .op 19 [] <| .op 20 [] <| .op 21 [] <| .op 22 [] <| .op 23 [] <| .op 24 [] <| .op 25 [] <| .op 26 [] <| .op 27 [] <| .op 28 [] <| .op 29 [] <| .op 30 [] <| .op 31 [] <| .nil, [0, 0, 3, 7, 15, 31, 63, 127, 127, 511, 1023, 2047, 4095, 8191, 16383, 32767, 65535, 131071, 262143, 262143, 1048575, 2097151, 4194303, 262143, 262143, 17039359, 58982399, 126091263, 260308991, 536870911, 1073741823, 2147483647], false⟩
  | 10 => ⟨.op 0 [] <| .op 1 [] <| .op 2 [] <| .op 3 [] <| .op 4 [] <| .op 5 [] <| .op 6 [4] <| .op 7 [] <| .op 8 [] <| .nil, [0, 0, 3, 7, 15, 0, 32, 127, 255], false⟩
  | 12 => ⟨.op 0 [] <| .op 1 [] <| .op 2 [] <| .op 3 [] <| .op 4 [] <| .op 5 [] <| .op 6 [] <| .op 7 [] <| .op 8 [] <| .op 9 [] <| .op 10 [] <| .op 11 [] <| .nil, [0, 0, 3, 7, 15, 0, 0, 96, 224, 480, 1023, 2047], false⟩
  | _ => ⟨.nil, [], false⟩
section
variable {h : Heap}
theorem within_iff {a b : Int} (wa : SetWf a) (wb : SetWf b) : withinM a b = true ↔ ∀ p : Nat, p < 64 → hasM a p = true → hasM b p = true := by
  have h1 := wa.hi
  have h2 := wa.lo
  unfold withinM
  rw [beq_iff_eq, sub_bits (show a.toNat < 2 ^ 64 by omega)]
  constructor
  · intro H p hp ha
    have d : decide ((0 : Int) ≤ p ∧ (p : Int) < 64) = true := decide_eq_true (by omega)
    unfold hasM at ha ⊢
    rw [d, Bool.true_and, Int.toNat_natCast] at ha ⊢
    exact H p hp ha
  · intro H p hp ha
    have d : decide ((0 : Int) ≤ p ∧ (p : Int) < 64) = true := decide_eq_true (by omega)
    have := H p hp
    unfold hasM at this
    rw [d, Bool.true_and, Int.toNat_natCast, Bool.true_and] at this
    exact this ha
theorem r3Within_spec {a b : Int} (wa : SetWf a) (wb : SetWf b) : HCalls Tryz.prog 202 #[.int .u64 a, .int .u64 b] h (fun v h' => v = .bool (withinM a b) ∧ h' = h) := by
  refine xcalls env0 Tryz.func202 rfl (by kernel_rfl) rfl (by kernel_rfl) ?_
  refine ⟨Nat, fun i => [(0, .int .u64 a), (1, .int .u64 b), (5, .int .i64 i)], fun i h' => (i ≤ 64 ∧ ∀ p : Nat, p < i → hasM a p = true → hasM b p = true) ∧ h' = h, fun i => 64 - i, 0, ⟨rfl, rfl, rfl, trivial⟩, ⟨⟨Nat.zero_le _, fun p hp => by omega⟩, rfl⟩, ?_⟩
  rintro i h2 ⟨⟨hi, hf⟩, rfl⟩
  refine xif_of (fun hlt => ?_) (fun hge => ?_)
  · have hlt : (i : Int) < 64 := of_decide_eq_true hlt
    have next : (hasM a i = true → hasM b i = true) → ∀ p : Nat, p < i + 1 → hasM a p = true → hasM b p = true := by
      intro hn p hp
      by_cases e : p = i
      · subst e; exact hn
      · exact hf p (by omega)
    refine (r3Has_spec wa).mono ?_
    rintro v h3 ⟨rfl, rfl⟩
    refine xif_of (fun q => ?_) (fun q => ?_)
    · refine (r3Has_spec wb).mono ?_
      rintro v h4 ⟨rfl, rfl⟩
      refine xif_of (fun q2 => ?_) (fun q2 => ?_)
      · have q2 : hasM b i = false := by simpa using q2
        refine ⟨congrArg Value.bool ?_, rfl⟩
        cases hw : withinM a b with
        | false => rfl
        | true =>
          have := (within_iff wa wb).1 hw i (by omega) q
          rw [q2] at this; cases this
      · have q2 : hasM b i = true := by simpa using q2
        exact ⟨i + 1, ⟨rfl, rfl, slot_inc (by omega), trivial⟩, ⟨⟨by omega, next fun _ => q2⟩, rfl⟩, by show 64 - (i + 1) < 64 - i; omega⟩
    · exact ⟨i + 1, ⟨rfl, rfl, slot_inc (by omega), trivial⟩, ⟨⟨by omega, next fun e => by rw [q] at e; cases e⟩, rfl⟩, by show 64 - (i + 1) < 64 - i; omega⟩
  · have hge : ¬ (i : Int) < 64 := of_decide_eq_false hge
    exact ⟨congrArg Value.bool ((within_iff wa wb).2 fun p hp => hf p (by omega)).symm, rfl⟩
theorem r3Right_spec (r : Ru) : HCalls Tryz.prog 146 #[.agg (encRu r).toArray] h (fun v h' => v = .bool (rightR r) ∧ Ext h h') := by
  unfold rightR
  refine xcalls env0 Tryz.func146 rfl (by kernel_rfl) rfl (by kernel_rfl) ?_
  intro b h1 n1
  have hb : h1[b]? = some (.cells (encRu r).toArray 117 (0, 0)) := n1.this
  refine ⟨_, cell_blk hb rfl, ?_⟩
  refine xif_of (fun q => ?_) (fun q => ?_)
  rotate_left
  · have q : ¬ r.pvid ≥ 1 := of_decide_eq_false q
    exact ⟨congrArg Value.bool (by rw [decide_eq_false (show ¬ (1 ≤ r.pvid ∧ r.pvid ≤ 4094) by omega)]; rfl), n1.ext⟩
  have q : r.pvid ≥ 1 := of_decide_eq_true q
  refine ⟨_, cell_blk hb rfl, ?_⟩
  refine xif_of (fun q2 => ?_) (fun q2 => ?_)
  rotate_left
  · have q2 : ¬ r.pvid ≤ 4094 := of_decide_eq_false q2
    exact ⟨congrArg Value.bool (by rw [decide_eq_false (show ¬ (1 ≤ r.pvid ∧ r.pvid ≤ 4094) by omega)]; rfl), n1.ext⟩
  have q2 : r.pvid ≤ 4094 := of_decide_eq_true q2
  rw [decide_eq_true (show 1 ≤ r.pvid ∧ r.pvid ≤ 4094 by omega), Bool.true_and]
  refine ⟨_, cell_blk hb rfl, ?_⟩
  refine xif_of (fun q3 => ?_) (fun q3 => ?_)
  rotate_left
  · have q3 : ¬ r.acc ≥ 0 := of_decide_eq_false q3
    exact ⟨congrArg Value.bool (decide_eq_false (by omega)).symm, n1.ext⟩
  have q3 : r.acc ≥ 0 := of_decide_eq_true q3
  refine ⟨_, cell_blk hb rfl, congrArg Value.bool ?_, n1.ext⟩
  rw [Bool.eq_iff_iff, decide_eq_true_iff, decide_eq_true_iff]; omega
theorem r3Check_spec {A : Option Addr} {c n : Nat} {l : List Vl} {ports : Int} (hr : Row encVl 3 h A l) (wf : ∀ v ∈ l, SetWf v.mem ∧ SetWf v.unt) (hl : l.length = n) (hn : n ≤ 9223372036854775807) : HCalls Tryz.prog 145 #[.slice A n c, .int .i64 ports] h (fun v h' => v = .int .i64 (vCheckM l ports) ∧ h' = h) := by
  subst hl
  unfold vCheckM
  have wall := allM_wf ports
  refine xcalls env_r3Check Tryz.func145 rfl (by kernel_rfl) rfl (by kernel_rfl) ?_
  refine xif_of (fun q => ?_) (fun q => ?_)
  · have q : ports < 2 := of_decide_eq_true q
    exact ⟨by rw [if_pos (.inl q)]; rfl, rfl⟩
  have q : ¬ ports < 2 := of_decide_eq_false q
  refine xif_of (fun q2 => ?_) (fun q2 => ?_)
  · have q2 : ports > 64 := of_decide_eq_true q2
    exact ⟨by rw [if_pos (.inr q2)]; rfl, rfl⟩
  have q2 : ¬ ports > 64 := of_decide_eq_false q2
  rw [if_neg (by omega)]
  refine xif_of (fun q3 => ?_) (fun q3 => ?_)
  · have q3 : (l.length : Int) > 16 := of_decide_eq_true q3
    exact ⟨by rw [if_pos (by omega)]; rfl, rfl⟩
  have q3 : ¬ (l.length : Int) > 16 := of_decide_eq_false q3
  rw [if_neg (by omega)]
  refine ⟨Nat, fun i => [(0, .slice A l.length c), (1, .int .i64 ports), (5, .int .i64 i)], fun i h' => (i ≤ l.length ∧ vChk (allM ports) (l.drop i) (if i = 0 then 0 else (l.getD (i - 1) ⟨0, 0, 0⟩).vid) = vChk (allM ports) l 0) ∧ h' = h, fun i => l.length - i, 0, ⟨rfl, rfl, rfl, trivial⟩, ⟨⟨Nat.zero_le _, rfl⟩, rfl⟩, ?_⟩
  rintro i h2 ⟨⟨hi, hf⟩, rfl⟩
  refine xif_of (fun hlt => ?_) (fun hge => ?_)
  rotate_left
  · have hge : ¬ (i : Int) < l.length := of_decide_eq_false hge
    rw [List.drop_eq_nil_of_le (by omega)] at hf
    exact ⟨congrArg (Value.int .i64) hf, rfl⟩
  have hlt : (i : Int) < l.length := of_decide_eq_true hlt
  have i0 : (0 : Int) ≤ i := by omega
  obtain ⟨v, hv⟩ : ∃ v, l[i]? = some v := ⟨l[i]'(by omega), List.getElem?_eq_getElem (by omega)⟩
  have wv := wf v (List.mem_of_getElem? hv)
  have hd : l.drop i = v :: l.drop (i + 1) := by
    obtain ⟨hil, he⟩ := List.getElem?_eq_some_iff.1 hv
    rw [List.drop_eq_getElem_cons hil, he]
  rw [hd, vChk] at hf
  obtain ⟨last, hlast⟩ : ∃ last, (if i = 0 then 0 else (l.getD (i - 1) ⟨0, 0, 0⟩).vid) = last := ⟨_, rfl⟩
  rw [hlast] at hf
  obtain ⟨a, hA, hrd⟩ := hr i v hv
  refine ⟨a, hA, i0, hlt, _, hrd.get 0 rfl, ?_⟩
  refine xif_of (fun c1 => ?_) (fun c1 => ?_)
  · have c1 : v.vid < 1 := of_decide_eq_true c1
    rw [if_pos (.inl (by omega))] at hf
    exact ⟨congrArg (Value.int .i64) hf, rfl⟩
  have c1 : ¬ v.vid < 1 := of_decide_eq_false c1
  refine ⟨a, hA, i0, hlt, _, hrd.get 0 rfl, ?_⟩
  refine xif_of (fun c2 => ?_) (fun c2 => ?_)
  · have c2 : v.vid > 4094 := of_decide_eq_true c2
    rw [if_pos (.inl (by omega))] at hf
    exact ⟨congrArg (Value.int .i64) hf, rfl⟩
  have c2 : ¬ v.vid > 4094 := of_decide_eq_false c2
  have nextv : (if i + 1 = 0 then (0 : Int) else (l.getD (i + 1 - 1) ⟨0, 0, 0⟩).vid) = v.vid := by
    rw [if_neg (by omega), Nat.add_sub_cancel, List.getD_eq_getElem?_getD, hv]; rfl
  refine xif_of (fun c3 => ?a) (fun c3 => ?b)
  case' a =>
    have c3 : (i : Int) > 0 := of_decide_eq_true c3
    have ei : IntKind.i64.wrap ((i : Int) - 1) = ((i - 1 : Nat) : Int) := by rw [wrap_i64 (by omega) (by omega)]; omega
    obtain ⟨u, hu⟩ : ∃ u, l[i - 1]? = some u := ⟨l[i - 1]'(by omega), List.getElem?_eq_getElem (by omega)⟩
    have hl : last = u.vid := by rw [← hlast, if_neg (by omega), List.getD_eq_getElem?_getD, hu]; rfl
    obtain ⟨a2, hA2, hrd2⟩ := hr (i - 1) u hu
    have rd2 : cell h2 ((a2.add ((IntKind.i64.wrap ((i : Int) - 1)).toNat * 3)).add 0) = some (.int .i64 u.vid) := by rw [ei, Int.toNat_natCast]; exact hrd2.get 0 rfl
    refine ⟨a, hA, i0, hlt, _, hrd.get 0 rfl, a2, hA2, by rw [ei]; omega, by rw [ei]; omega, _, rd2, ?_⟩
    refine xif_of (fun c4 => ?_) (fun c4 => ?_)
    · have c4 : v.vid ≤ u.vid := of_decide_eq_true c4
      rw [if_pos (.inr (by omega))] at hf
      exact ⟨congrArg (Value.int .i64) hf, rfl⟩
    have c4 : ¬ v.vid ≤ u.vid := of_decide_eq_false c4
    have hn : ¬ v.vid ≤ last := by omega
  case' b =>
    have c3 : ¬ (i : Int) > 0 := of_decide_eq_false c3
    have hn : ¬ v.vid ≤ last := by rw [← hlast, if_pos (by omega)]; omega
  all_goals
    rw [if_neg (by omega)] at hf
    refine ⟨a, hA, i0, hlt, _, hrd.get 1 rfl, ?_⟩
    refine (r3All_spec ports).mono ?_
    rintro w h3 ⟨rfl, rfl⟩
    refine ⟨⟨hrd.get 1 rfl, trivial⟩, ?_⟩
    refine (r3Within_spec wv.1 wall).mono ?_
    rintro w h4 ⟨rfl, rfl⟩
    refine xif_of (fun c5 => ?_) (fun c5 => ?_)
    · rw [if_pos (by simpa using c5)] at hf
      exact ⟨congrArg (Value.int .i64) hf, rfl⟩
    rw [if_neg (by simpa using c5)] at hf
    refine ⟨a, hA, i0, hlt, _, hrd.get 2 rfl, a, hA, i0, hlt, _, hrd.get 1 rfl, ?_⟩
    refine (r3Within_spec wv.2 wv.1).mono ?_
    rintro w h5 ⟨rfl, rfl⟩
    refine xif_of (fun c6 => ?_) (fun c6 => ?_)
    · rw [if_pos (by simpa using c6)] at hf
      exact ⟨congrArg (Value.int .i64) hf, rfl⟩
    rw [if_neg (by simpa using c6)] at hf
    exact ⟨i + 1, ⟨rfl, rfl, slot_inc (by omega), trivial⟩, ⟨⟨by omega, by rw [nextv]; exact hf⟩, rfl⟩, by show l.length - (i + 1) < l.length - i; omega⟩
theorem r17Check_spec {A B : Option Addr} {na ca nb cb : Nat} {rules : List Ru} {vls : List Vl} {ports tries ring normal short : Int} {s : Sz} (hra : Row encRu 2 h A rules) (hla : rules.length = na) (hrb : Row encVl 3 h B vls) (hlb : vls.length = nb) (hn : na ≤ 9223372036854775807) (hn2 : nb ≤ 9223372036854775807) (wf : ∀ v ∈ vls, SetWf v.mem ∧ SetWf v.unt) :
    HCalls Tryz.prog 86 #[.agg (planV ports (.slice A na ca) (.slice B nb cb) s tries ring normal short).toArray] h (fun v h' => v = .int .i64 (mCheckM ports rules vls s tries ring) ∧ Ext h h') := by
  subst hla hlb
  unfold mCheckM
  refine xcalls env0 Tryz.func86 rfl (by kernel_rfl) rfl (by kernel_rfl) ?_
  intro ib h1 n1
  have hib : h1[ib]? = some (.cells (planV ports (.slice A rules.length ca) (.slice B vls.length cb) s tries ring normal short).toArray 28 (0, 0)) := n1.this
  refine ⟨_, cell_blk hib rfl, _, cell_blk hib rfl, ?_⟩
  refine (r3Check_spec (n1.ext.row hrb) wf rfl hn2).mono ?_
  rintro v h2 ⟨rfl, rfl⟩
  refine xif_of (fun q => ?_) (fun q => ?_)
  · have q : vCheckM vls ports ≠ 0 := by simpa using q
    exact ⟨by rw [if_pos q]; rfl, n1.ext⟩
  have q : ¬ vCheckM vls ports ≠ 0 := by simpa using q
  rw [if_neg q]
  refine ⟨_, cell_blk hib rfl, _, cell_blk hib rfl, ?_⟩
  refine xif_of (fun c1 => ?_) (fun c1 => ?_)
  · have c1 : (rules.length : Int) ≠ ports := by simpa using c1
    exact ⟨by rw [if_pos (.inl c1)]; rfl, n1.ext⟩
  have c1 : (rules.length : Int) = ports := by simpa using c1
  refine ⟨[.int .i64 s.sh, .int .i64 s.bk, .int .i64 s.sl], rfl, reads_at hib rfl, ?_⟩
  refine (rbRight_spec s).mono ?_
  rintro v h3 ⟨rfl, x3⟩
  have hib3 := x3.blk hib
  have x03 := n1.ext.trans x3
  refine xif_of (fun c3 => ?_) (fun c3 => ?_)
  · have c3 : rightM s = false := by simpa using c3
    exact ⟨by rw [if_pos (.inr (.inr c3))]; rfl, x03⟩
  have c3 : rightM s = true := by simpa using c3
  have hone : ∀ {c : Prop} {inst : Decidable c} {t : Prop} {inst2 : Decidable t}, t → @ite Int c inst 1 (@ite Int t inst2 1 0) = 1 := by
    intro c inst t inst2 ht; by_cases h : c
    · rw [if_pos h]
    · rw [if_neg h, if_pos ht]
  refine ⟨_, cell_blk hib3 rfl, ?_⟩
  refine xif_of (fun d1 => ?_) (fun d1 => ?_)
  · have d1 : tries < 1 := of_decide_eq_true d1
    exact ⟨by rw [hone (by omega)]; rfl, x03⟩
  have d1 : ¬ tries < 1 := of_decide_eq_false d1
  refine ⟨_, cell_blk hib3 rfl, ?_⟩
  refine xif_of (fun d2 => ?_) (fun d2 => ?_)
  · have d2 : tries > 8 := of_decide_eq_true d2
    exact ⟨by rw [hone (by omega)]; rfl, x03⟩
  have d2 : ¬ tries > 8 := of_decide_eq_false d2
  refine ⟨_, cell_blk hib3 rfl, ?_⟩
  refine xif_of (fun d3 => ?_) (fun d3 => ?_)
  · have d3 : ring < 1 := of_decide_eq_true d3
    exact ⟨by rw [hone (by omega)]; rfl, x03⟩
  have d3 : ¬ ring < 1 := of_decide_eq_false d3
  refine ⟨_, cell_blk hib3 rfl, ?_⟩
  refine xif_of (fun d4 => ?_) (fun d4 => ?_)
  · have d4 : ring > 64 := of_decide_eq_true d4
    exact ⟨by rw [hone (by omega)]; rfl, x03⟩
  have d4 : ¬ ring > 64 := of_decide_eq_false d4
  have p64 : ¬ (ports < 2 ∨ 64 < ports) := fun g => q (by unfold vCheckM; rw [if_pos g]; decide)
  rw [if_neg (show ¬ (tries < 1 ∨ 8 < tries ∨ ring < 1 ∨ 64 < ring) by omega)]
  refine ⟨Nat, fun i => [(1, .pointer (some ⟨ib, 0, none⟩)), (4, .int .i64 i)], fun i h' => (i ≤ rules.length ∧ ((rules.take i).any fun r => !rightR r) = false) ∧ Ext h3 h', fun i => rules.length - i, 0, ⟨rfl, rfl, trivial⟩, ⟨⟨Nat.zero_le _, rfl⟩, Ext.refl _⟩, ?_⟩
  rintro i h4 ⟨⟨hi, hf⟩, x4⟩
  have hib4 := x4.blk hib3
  have x04 := x03.trans x4
  refine ⟨_, cell_blk hib4 rfl, ?_⟩
  refine xif_of (fun hlt => ?_) (fun hge => ?_)
  rotate_left
  · have hge : ¬ (i : Int) < rules.length := of_decide_eq_false hge
    rw [List.take_of_length_le (by omega)] at hf
    exact ⟨by rw [if_neg (by rw [hf, c1, c3]; simp)]; rfl, x04⟩
  have hlt : (i : Int) < rules.length := of_decide_eq_true hlt
  obtain ⟨r, hr⟩ : ∃ r, rules[i]? = some r := ⟨rules[i]'(by omega), List.getElem?_eq_getElem (by omega)⟩
  obtain ⟨a, hA, hrd⟩ := (x04.row hra) i r hr
  refine ⟨_, cell_blk hib4 rfl, a, hA, (by omega), hlt, encRu r, rfl, hrd, ?_⟩
  refine (r3Right_spec r).mono ?_
  rintro v h5 ⟨rfl, x5⟩
  refine xif_of (fun e => ?_) (fun e => ?_)
  · have e : rightR r = false := by simpa using e
    have : (rules.any fun r => !rightR r) = true := List.any_eq_true.2 ⟨r, List.mem_of_getElem? hr, by rw [e]; rfl⟩
    exact ⟨by rw [if_pos (.inr (.inl this))]; rfl, x04.trans x5⟩
  have e : rightR r = true := by simpa using e
  refine ⟨i + 1, ⟨rfl, slot_inc (by omega), trivial⟩, ⟨⟨by omega, ?_⟩, x4.trans x5⟩, by show rules.length - (i + 1) < rules.length - i; omega⟩
  rw [← take_next hr, List.any_append, hf]
  simp [e]
end
end Go.Proofs.YtjjempefncgfhaaGreatDoorE
