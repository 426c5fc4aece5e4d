/- Histories: what takes effect in order, by the document; which entries may be. Conditions: the arguments are of their types, and not too many. -/
import Derived.Test.YtgiofdiifkahoaaXH4
set_option linter.unusedVariables false
set_option linter.unusedSimpArgs false
set_option maxRecDepth 100000
namespace Go.Proofs.YtgiofdiifkahoaaE
open Go Go.Proofs
section
variable {h : Heap}
theorem swap_back {α : Type} {P R : List α} {x z : α} {n : Nat} (hP : P.length = n) : ((P ++ x :: z :: R).set n z).set (n + 1) x = P ++ z :: x :: R := swap_next' hP
/-! ### Which entries may be -/
def timelyM (e : He) : Bool := !(decide (e.beg < 0 ∨ e.mark < 0 ∨ e.fin < 0)) && (!decide (0 < e.mark ∧ e.mark ≤ e.beg) && !decide (0 < e.fin ∧ (e.mark = 0 ∨ e.fin < e.mark)))
def againstM (x a : He) : Bool := decide (0 < x.mark ∧ x.mark = a.mark) || decide (x.who = a.who ∧ (a.fin = 0 ∨ x.beg < a.fin))
set_option maxHeartbeats 1000000 in
theorem hTimely_spec (e : He) : HCalls Try.prog 88 #[.agg (encHe e).toArray] h (fun v h' => v = .bool (timelyM e) ∧ Ext h h') := by
  unfold timelyM
  refine xcalls env0 Try.func88 rfl (by kernel_rfl) rfl (by kernel_rfl) ?_
  intro b h1 n1
  have hb : h1[b]? = some (.cells (encHe e).toArray 130 (0, 0)) := n1.this
  refine ⟨_, cell_blk hb rfl, ?_⟩
  refine xif_of (fun q => ?_) (fun q => ?_)
  · refine xif_true q ?_
    have q : e.beg < 0 := of_decide_eq_true q
    exact ⟨by rw [decide_eq_true (.inl q)]; rfl, n1.ext⟩
  have q : ¬ e.beg < 0 := of_decide_eq_false q
  refine ⟨_, cell_blk hb rfl, ?_⟩
  refine xif_of (fun q2 => ?_) (fun q2 => ?_)
  · refine xif_true q2 ?_
    have q2 : e.mark < 0 := of_decide_eq_true q2
    exact ⟨by rw [decide_eq_true (.inr (.inl q2))]; rfl, n1.ext⟩
  have q2 : ¬ e.mark < 0 := of_decide_eq_false q2
  refine ⟨_, cell_blk hb rfl, ?_⟩
  refine xif_of (fun q3 => ?_) (fun q3 => ?_)
  · have q3 : e.fin < 0 := of_decide_eq_true q3
    exact ⟨by rw [decide_eq_true (.inr (.inr q3))]; rfl, n1.ext⟩
  have q3 : ¬ e.fin < 0 := of_decide_eq_false q3
  rw [decide_eq_false (show ¬ (e.beg < 0 ∨ e.mark < 0 ∨ e.fin < 0) by omega)]
  refine ⟨_, cell_blk hb rfl, ?_⟩
  have c1 : ∀ t : Bool, (∃ (_ : decide (0 < e.mark ∧ e.mark ≤ e.beg) = false), t = (!decide (0 < e.fin ∧ (e.mark = 0 ∨ e.fin < e.mark)))) → t = ((!false) && (!decide (0 < e.mark ∧ e.mark ≤ e.beg) && !decide (0 < e.fin ∧ (e.mark = 0 ∨ e.fin < e.mark)))) := by
    rintro t ⟨k, rfl⟩; rw [k]; rfl
  refine xif_of (fun a => ?a) (fun a => ?b)
  case' a =>
    have a : e.mark > 0 := of_decide_eq_true a
    refine ⟨_, cell_blk hb rfl, _, cell_blk hb rfl, ?_⟩
    refine xif_of (fun a2 => ?_) (fun a2 => ?_)
    · have a2 : e.mark ≤ e.beg := of_decide_eq_true a2
      exact ⟨by rw [decide_eq_true (show 0 < e.mark ∧ e.mark ≤ e.beg by omega)]; rfl, n1.ext⟩
    have a2 : ¬ e.mark ≤ e.beg := of_decide_eq_false a2
    have d1 : decide (0 < e.mark ∧ e.mark ≤ e.beg) = false := decide_eq_false (by omega)
  case' b =>
    have a : ¬ e.mark > 0 := of_decide_eq_false a
    have d1 : decide (0 < e.mark ∧ e.mark ≤ e.beg) = false := decide_eq_false (by omega)
  all_goals
    refine ⟨_, cell_blk hb rfl, ?_⟩
    refine xif_of (fun b1 => ?_) (fun b1 => ?_)
    rotate_left
    · have b1 : ¬ e.fin > 0 := of_decide_eq_false b1
      exact ⟨congrArg Value.bool (c1 _ ⟨d1, by rw [decide_eq_false (show ¬ (0 < e.fin ∧ (e.mark = 0 ∨ e.fin < e.mark)) by omega)]; rfl⟩), n1.ext⟩
    have b1 : e.fin > 0 := of_decide_eq_true b1
    refine ⟨_, cell_blk hb rfl, ?_⟩
    refine xif_of (fun b2 => ?_) (fun b2 => ?_)
    · have b2 : e.mark = 0 := by simpa using b2
      exact ⟨congrArg Value.bool (c1 _ ⟨d1, by rw [decide_eq_true (show 0 < e.fin ∧ (e.mark = 0 ∨ e.fin < e.mark) by omega)]; rfl⟩), n1.ext⟩
    have b2 : ¬ e.mark = 0 := by simpa using b2
    refine ⟨_, cell_blk hb rfl, _, cell_blk hb rfl, ?_⟩
    refine xif_of (fun b3 => ?_) (fun b3 => ?_)
    · have b3 : e.fin < e.mark := of_decide_eq_true b3
      exact ⟨congrArg Value.bool (c1 _ ⟨d1, by rw [decide_eq_true (show 0 < e.fin ∧ (e.mark = 0 ∨ e.fin < e.mark) by omega)]; rfl⟩), n1.ext⟩
    · have b3 : ¬ e.fin < e.mark := of_decide_eq_false b3
      exact ⟨congrArg Value.bool (c1 _ ⟨d1, by rw [decide_eq_false (show ¬ (0 < e.fin ∧ (e.mark = 0 ∨ e.fin < e.mark)) by omega)]; rfl⟩), n1.ext⟩
theorem hCheck1_spec (e : He) : HCalls Try.prog 87 #[.agg (encHe e).toArray] h (fun v h' => v = .bool (!timelyM e) ∧ Ext h h') := by
  refine xcalls env0 Try.func87 rfl (by kernel_rfl) rfl (by kernel_rfl) ?_
  intro b h1 n1
  have hb : h1[b]? = some (.cells (encHe e).toArray 130 (0, 0)) := n1.this
  refine ⟨_, rfl, reads_all hb, ?_⟩
  refine (hTimely_spec e).mono ?_
  rintro v h2 ⟨rfl, x2⟩
  exact ⟨rfl, n1.ext.trans x2⟩
theorem hAgainst_spec (x a : He) : HCalls Try.prog 90 #[.agg (encHe x).toArray, .agg (encHe a).toArray] h (fun v h' => v = .bool (againstM x a) ∧ Ext h h') := by
  unfold againstM
  refine xcalls env0 Try.func90 rfl (by kernel_rfl) rfl (by kernel_rfl) ?_
  intro b1 h1 n1 b2 h2 n2
  have hb1 : h2[b1]? = some (.cells (encHe x).toArray 130 (0, 0)) := n2.ext.blk n1.this
  have hb2 : h2[b2]? = some (.cells (encHe a).toArray 130 (0, 0)) := n2.this
  have x02 := n1.ext.trans n2.ext
  refine ⟨_, cell_blk hb1 rfl, ?_⟩
  refine xif_of (fun q => ?a) (fun q => ?b)
  case' a =>
    have q : x.mark > 0 := of_decide_eq_true q
    refine ⟨_, cell_blk hb1 rfl, _, cell_blk hb2 rfl, ?_⟩
    refine xif_of (fun q2 => ?_) (fun q2 => ?_)
    · have q2 : x.mark = a.mark := by simpa using q2
      exact ⟨by rw [decide_eq_true (show 0 < x.mark ∧ x.mark = a.mark by omega)]; rfl, x02⟩
    have q2 : ¬ x.mark = a.mark := by simpa using q2
    have d1 : decide (0 < x.mark ∧ x.mark = a.mark) = false := decide_eq_false (by omega)
  case' b =>
    have q : ¬ x.mark > 0 := of_decide_eq_false q
    have d1 : decide (0 < x.mark ∧ x.mark = a.mark) = false := decide_eq_false (by omega)
  all_goals
    rw [d1, Bool.false_or]
    refine ⟨_, cell_blk hb1 rfl, _, cell_blk hb2 rfl, ?_⟩
    refine xif_of (fun c1 => ?_) (fun c1 => ?_)
    rotate_left
    · have c1 : ¬ x.who = a.who := by simpa using c1
      exact ⟨congrArg Value.bool (decide_eq_false (by omega)).symm, x02⟩
    have c1 : x.who = a.who := by simpa using c1
    refine ⟨_, cell_blk hb2 rfl, ?_⟩
    refine xif_of (fun c2 => ?_) (fun c2 => ?_)
    · have c2 : a.fin = 0 := by simpa using c2
      exact ⟨congrArg Value.bool (decide_eq_true (by omega)).symm, x02⟩
    have c2 : ¬ a.fin = 0 := by simpa using c2
    have e3 : decide (a.fin > x.beg) = decide (x.who = a.who ∧ (a.fin = 0 ∨ x.beg < a.fin)) := by
      rw [Bool.eq_iff_iff, decide_eq_true_iff, decide_eq_true_iff]; omega
    exact ⟨_, cell_blk hb2 rfl, _, cell_blk hb1 rfl, congrArg Value.bool e3, x02⟩
/-- The first place at which something holds; -1: there is none. -/
def idxP (P : He → Bool) : List He → Nat → Int
  | [], _ => -1
  | e :: l, i => if P e = true then (i : Int) else idxP P l (i + 1)
theorem idxP_none {P : He → Bool} : ∀ {l : List He} {i : Nat}, idxP P l i = -1 ↔ l.any P = false
  | [], i => by simp [idxP]
  | e :: l, i => by
    rw [idxP, List.any_cons]
    cases hp : P e with
    | true => simp
    | false => simp only [Bool.false_or, if_neg (show ¬ (false = true) by decide)]; exact idxP_none
theorem idxP_ge {P : He → Bool} : ∀ {l : List He} {i : Nat}, 0 ≤ idxP P l i ↔ l.any P = true
  | [], i => by simp [idxP]
  | e :: l, i => by
    rw [idxP, List.any_cons]
    cases hp : P e with
    | true => simp
    | false => simp only [Bool.false_or, if_neg (show ¬ (false = true) by decide)]; exact idxP_ge
theorem idxP_range {P : He → Bool} : ∀ {l : List He} {i : Nat}, idxP P l i = -1 ∨ ((i : Int) ≤ idxP P l i ∧ idxP P l i < i + l.length)
  | [], i => .inl rfl
  | e :: l, i => by
    rw [idxP, List.length_cons]
    split
    · exact .inr (by omega)
    · rcases idxP_range (P := P) (l := l) (i := i + 1) with h | h
      · exact .inl h
      · exact .inr (by omega)
theorem heIndex_spec {A : Option Addr} {c n : Nat} {l : List He} {P : He → Bool} {f : FuncId} {fst : List Value} (hr : Row encHe 19 h A l) (hl : l.length = n) (hn : n ≤ 1000000)
    (hP : ∀ h' e, Ext h h' → e ∈ l → HCalls Try.prog f (fst ++ [Value.agg (encHe e).toArray] ++ []).toArray h' (fun v h'' => v = .bool (P e) ∧ Ext h' h'')) :
    HCalls Try.prog 86 #[.slice A n c, .func (.func f) fst.toArray #[]] h (fun v h' => v = .int .i64 (idxP P l 0) ∧ Ext h h') := by
  subst hl
  refine xcalls env0 Try.func86 rfl (by kernel_rfl) rfl (by kernel_rfl) ?_
  refine ⟨Nat, fun i => [(0, .slice A l.length c), (1, .func (.func f) fst.toArray #[]), (7, .int .i64 l.length), (8, .int .i64 i)], fun i h' => (i ≤ l.length ∧ idxP P (l.drop i) i = idxP P l 0) ∧ Ext h h', fun i => l.length - i, 0, ⟨rfl, rfl, rfl, rfl, trivial⟩, ⟨⟨Nat.zero_le _, rfl⟩, Ext.refl _⟩, ?_⟩
  rintro i h2 ⟨⟨hi, hf⟩, x2⟩
  refine xif_of (fun hlt => ?_) (fun hge => ?_)
  · have hlt : (i : Int) < l.length := of_decide_eq_true hlt
    obtain ⟨v, hv⟩ : ∃ v, l[i]? = some v := ⟨l[i]'(by omega), List.getElem?_eq_getElem (by omega)⟩
    obtain ⟨a, hA, hrd⟩ := (x2.row hr) i v hv
    have hd : l.drop i = v :: l.drop (i + 1) := by
      obtain ⟨hil, he⟩ := List.getElem?_eq_some_iff.1 hv
      rw [List.drop_eq_getElem_cons hil, he]
    rw [hd, idxP] at hf
    refine ⟨a, hA, by omega, hlt, encHe v, rfl, hrd, ?_⟩
    refine (hP h2 v x2 (List.mem_of_getElem? hv)).mono ?_
    rintro w h3 ⟨rfl, x3⟩
    refine xif_of (fun q => ?_) (fun q => ?_)
    · rw [if_pos q] at hf
      exact ⟨congrArg (Value.int .i64) hf, x2.trans x3⟩
    · rw [if_neg (by rw [q]; decide)] at hf
      exact ⟨i + 1, ⟨rfl, rfl, rfl, slot_inc (by omega), trivial⟩, ⟨⟨by omega, hf⟩, x2.trans x3⟩, by show l.length - (i + 1) < l.length - i; omega⟩
  · have hge : ¬ (i : Int) < l.length := of_decide_eq_false hge
    rw [List.drop_eq_nil_of_le (by omega)] at hf
    exact ⟨congrArg (Value.int .i64) hf, x2⟩
theorem heContains_spec {A : Option Addr} {c n : Nat} {l : List He} {P : He → Bool} {f : FuncId} {fst : List Value} (hr : Row encHe 19 h A l) (hl : l.length = n) (hn : n ≤ 1000000)
    (hP : ∀ h' e, Ext h h' → e ∈ l → HCalls Try.prog f (fst ++ [Value.agg (encHe e).toArray] ++ []).toArray h' (fun v h'' => v = .bool (P e) ∧ Ext h' h'')) :
    HCalls Try.prog 89 #[.slice A n c, .func (.func f) fst.toArray #[]] h (fun v h' => v = .bool (l.any P) ∧ Ext h h') := by
  refine xcalls env0 Try.func89 rfl (by kernel_rfl) rfl (by kernel_rfl) ?_
  refine (heIndex_spec hr hl hn hP).mono ?_
  rintro v h2 ⟨rfl, x2⟩
  refine ⟨congrArg Value.bool ?_, x2⟩
  rw [Bool.eq_iff_iff, decide_eq_true_iff]
  exact idxP_ge
end
end Go.Proofs.YtgiofdiifkahoaaE
