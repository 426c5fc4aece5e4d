/- Histories: what takes effect in order, by the document; which entries may be. Conditions: the arguments are of their types, and not too many. -/
import Derived.Test.YtcjoenkpibhmoaaGreatXH3
set_option linter.unusedVariables false
set_option linter.unusedSimpArgs false
set_option maxRecDepth 100000
namespace Go.Proofs.YtcjoenkpibhmoaaGreatE
open Go Go.Proofs
def env_rOrder18 : Nat → Ann
  | 8 => ⟨.op 0 [] <| .op 1 [] <| .op 2 [] <| .op 3 [] <| .op 4 [] <| .op 5 [] <| .op 6 [] <| .op 7 [] <| .op 8 [] <| .op 9 [] <| .op 10 [] <| .op 11 [] <| .op 12 [] <| .op 13 [] <| .op 14 [] <| .op 15 [] <| .op 16 [] <| .op 17 [] <| .op 18 [] <| .op 19 [] <| .op 20 [] <| .op 21 [] <| .nil, [0, 1, 3, 7, 7, 7, 39, 119, 247, 511, 1023, 2047, 7, 7, 7, 24583, 57351, 126983, 258055, 520199, 1048575, 2097151], false⟩
  | 10 => ⟨.op 0 [] <| .op 1 [] <| .op 2 [] <| .op 3 [] <| .op 4 [] <| .op 5 [] <| .op 6 [] <| .op 7 [] <| .op 8 [] <| .op 9 [] <| .op 10 [] <| .op 11 [] <| .op 12 [] <| .op 13 [] <| .op 14 [] <| .op 15 [] <| .op 16 [] <| .op 17 [] <| .nil, [0, 0, 2, 0, 0, 0, 0, 96, 224, 0, 0, 1024, 3584, 7680, 16359, 32743, 65535, 131071], false⟩
  | _ => ⟨.nil, [], false⟩
section
variable {h : Heap}
theorem swap_back {α : Type} {P R : List α} {x z : α} {n : Nat} (hP : P.length = n) : ((P ++ x :: z :: R).set n z).set (n + 1) x = P ++ z :: x :: R := swap_next' hP
theorem rOrder18_spec {A : Option Addr} {n c : Nat} {l : List He} (hr : Row encHe 19 h A l) (hl : l.length = n) (hn : n ≤ 2000) :
    HCalls Tryz.prog 93 #[.slice A n c] h (fun v h' => ∃ A' c' O, v = .slice A' O.length c' ∧ IsOrd l n O ∧ OwnA encI 1 3 h.size h' A' c' O ∧ Ext h h') := by
  refine xcalls env_rOrder18 Tryz.func93 rfl (by kernel_rfl) rfl (by kernel_rfl) ?_
  refine ⟨Nat × Option Addr × Nat × Nat × List Int, fun z => [(0, .slice A n c), (3, .slice z.2.1 z.2.2.2.1 z.2.2.1), (4, .int .i64 z.1)],
    fun z h' => (z.1 ≤ n ∧ z.2.2.2.2.length = z.2.2.2.1) ∧ IsOrd l z.1 z.2.2.2.2 ∧ Lst h h' z.2.1 z.2.2.1 z.2.2.2.2, fun z => n - z.1, (0, none, 0, 0, []), ⟨rfl, rfl, rfl, trivial⟩, ⟨⟨Nat.zero_le _, rfl⟩, ⟨List.Perm.refl _, List.Pairwise.nil⟩, .inl ⟨rfl, rfl, rfl⟩, Ext.refl _⟩, ?_⟩
  rintro ⟨i, B, d, k, O⟩ h2 ⟨⟨hi, hk⟩, hO, H2⟩
  simp only at hi hk hO H2
  refine xif_of (fun hlt => ?_) (fun hge => ?_)
  rotate_left
  · have hge : ¬ (i : Int) < n := of_decide_eq_false hge
    obtain rfl : i = n := by omega
    exact ⟨B, d, O, by rw [hk]; rfl, hO, H2.own, H2.ext⟩
  have hlt : (i : Int) < n := of_decide_eq_true hlt
  obtain ⟨u, hu⟩ : ∃ u, l[i]? = some u := ⟨l[i]'(by omega), List.getElem?_eq_getElem (by omega)⟩
  obtain ⟨a1, hA1, r1⟩ := (H2.ext.row hr) i u hu
  have m1 := mkI_at hu
  refine ⟨a1, hA1, by omega, hlt, _, r1.get 2 rfl, ?_⟩
  refine xif_of (fun q => ?_) (fun q => ?_)
  · have q : u.mark ≤ 0 := of_decide_eq_true q
    have e : plcN l (i + 1) = plcN l i := by rw [plcN, m1, if_neg (by omega), List.append_nil]
    exact ⟨(i + 1, B, d, k, O), ⟨rfl, rfl, slot_inc (by omega), trivial⟩, ⟨⟨by show i + 1 ≤ n; omega, hk⟩, ⟨by show O.Perm (plcN l (i + 1)); rw [e]; exact hO.perm, hO.sorted⟩, H2⟩, by show n - (i + 1) < n - i; omega⟩
  have q : ¬ u.mark ≤ 0 := of_decide_eq_false q
  have e : plcN l (i + 1) = plcN l i ++ [(i : Int)] := by rw [plcN, m1, if_pos (by omega)]
  have hOl := hO.len
  intro bs h3 n3
  refine xappend_one (x := (i : Int)) intInfo intZero rfl (by decide) encI_len encI_one H2.own n3 hk (by show (k + 1) * 8 ≤ _; omega) H2.ext.size fun B' d' h4 o4 k4 => ?_
  have H4 : Lst h h4 B' d' (O ++ [(i : Int)]) := ⟨o4, k4.ext H2.ext fun b hb => H2.own.ge b hb⟩
  have ek : IntKind.i64.wrap (((k + 1 : Nat) : Int) - 1) = (k : Int) := by rw [wrap_i64 (by omega) (by omega)]; omega
  have fin : ∀ (X Y : List Int), O = X ++ Y → (∀ t ∈ Y, ltM l (i : Int) t) → (∀ y, X.getLast? = some y → ¬ ltM l (i : Int) y) → IsOrd l (i + 1) (X ++ (i : Int) :: Y) := by
    intro X Y e1 e2 e3
    refine ⟨?_, pw_insert (ltM_swo l) (e1 ▸ hO.sorted) e2 e3 fun t ht => ?_⟩
    · rw [e]
      exact List.perm_middle.trans ((List.Perm.cons (i : Int) (e1 ▸ hO.perm)).trans (List.perm_append_comm (l₁ := [(i : Int)])))
    · have := (hO.mem (x := t) (by rw [e1]; exact List.mem_append_left _ ht)).2.1
      unfold bfM; omega
  refine ⟨Nat × List Int × List Int, fun y => [(0, .slice A n c), (3, .slice B' (k + 1) d'), (4, .int .i64 i), (5, .int .i64 y.1)],
    fun y h' => y.2.1.length = y.1 ∧ O = y.2.1 ++ y.2.2 ∧ (∀ t ∈ y.2.2, ltM l (i : Int) t) ∧ Lst h h' B' d' (y.2.1 ++ (i : Int) :: y.2.2), fun y => y.1,
    (k, O, []), ⟨rfl, rfl, rfl, congrArg (fun x => some (Value.int .i64 x)) ek, trivial⟩, ⟨hk, (List.append_nil _).symm, (fun t ht => by cases ht), H4⟩, ?_⟩
  rintro ⟨j, X, Y⟩ h5 ⟨j1, hX, hY, H5⟩
  simp only at j1 hX hY H5
  have hXl : O.length = X.length + Y.length := by rw [hX, List.length_append]
  have done : IsOrd l (i + 1) (X ++ (i : Int) :: Y) → (X ++ (i : Int) :: Y).length = k + 1 := fun _ => by rw [List.length_append, List.length_cons]; omega
  refine xif_of (fun hgt => ?_) (fun hgt => ?_)
  rotate_left
  · have hgt : ¬ (j : Int) > 0 := of_decide_eq_false hgt
    obtain rfl : X = [] := List.length_eq_zero_iff.1 (by omega)
    have f := fin [] Y hX hY (fun y e => by cases e)
    exact ⟨(i + 1, B', d', k + 1, [] ++ (i : Int) :: Y), ⟨rfl, rfl, slot_inc (by omega), trivial⟩, ⟨⟨by show i + 1 ≤ n; omega, done f⟩, f, H5⟩, by show n - (i + 1) < n - i; omega⟩
  have hgt : (j : Int) > 0 := of_decide_eq_true hgt
  obtain ⟨X', y, rfl⟩ : ∃ X' y, X = X' ++ [y] := by
    rcases List.eq_nil_or_concat X with rfl | ⟨X', y, h⟩
    · simp only [List.length_nil] at j1; omega
    · exact ⟨X', y, by rw [h, List.concat_eq_append]⟩
  rw [List.length_append, List.length_singleton] at j1 hXl
  have shape : X' ++ [y] ++ (i : Int) :: Y = X' ++ y :: (i : Int) :: Y := by simp
  have H5' := H5
  rw [shape] at H5'
  have hlen : (X' ++ y :: (i : Int) :: Y).length = k + 1 := by simp only [List.length_append, List.length_cons]; omega
  have ej : IntKind.i64.wrap ((j : Int) - 1) = ((j - 1 : Nat) : Int) := by rw [wrap_i64 (by omega) (by omega)]; omega
  have g1 : (X' ++ y :: (i : Int) :: Y)[j - 1]? = some y := by rw [show j - 1 = X'.length by omega]; exact mem_len
  have g2 : (X' ++ y :: (i : Int) :: Y)[j]? = some (i : Int) := by rw [← shape, show j = (X' ++ [y]).length by rw [List.length_append, List.length_singleton]; omega]; exact mem_len
  obtain ⟨b1, hB1, l1, u1, c1⟩ := H5'.rd ej g1
  obtain ⟨b2, hB2, l2, u2, c2⟩ := H5'.rd (z := (j : Int)) rfl g2
  rw [hlen] at u1 u2
  have hy := hO.mem (x := y) (by rw [hX]; simp)
  obtain ⟨ny, rfl⟩ : ∃ ny : Nat, y = ny := ⟨y.toNat, (Int.toNat_of_nonneg hy.1).symm⟩
  obtain ⟨w, hw⟩ : ∃ w, l[ny]? = some w := ⟨l[ny]'(by omega), List.getElem?_eq_getElem (by omega)⟩
  obtain ⟨a2, hA2, r2⟩ := (H5.ext.row hr) ny w hw
  obtain ⟨a3, hA3, r3⟩ := (H5.ext.row hr) i u hu
  have m2 := mkI_at hw
  refine ⟨b1, hB1, l1, u1, _, c1, a2, hA2, by omega, by omega, _, r2.get 2 rfl, b2, hB2, l2, u2, _, c2, a3, hA3, by omega, hlt, _, r3.get 2 rfl, ?_⟩
  refine xif_of (fun hlt2 => ?_) (fun hge2 => ?_)
  rotate_left
  · have hge2 : ¬ w.mark > u.mark := of_decide_eq_false hge2
    have f := fin (X' ++ [(ny : Int)]) Y hX hY (fun y' e => by rw [List.getLast?_concat] at e; cases e; unfold ltM; rw [m1, m2]; omega)
    exact ⟨(i + 1, B', d', k + 1, X' ++ [(ny : Int)] ++ (i : Int) :: Y), ⟨rfl, rfl, slot_inc (by omega), trivial⟩, ⟨⟨by show i + 1 ≤ n; omega, done f⟩, f, H5⟩, by show n - (i + 1) < n - i; omega⟩
  have hlt2 : w.mark > u.mark := of_decide_eq_true hlt2
  refine ⟨b2, hB2, l2, u2, _, c2, b1, hB1, l1, u1, _, c1, ?_⟩
  obtain ⟨b3, hB3, l3, u3, cs3, H6⟩ := H5'.wr ej (by rw [hlen]; omega) (i : Int)
  rw [hlen] at u3
  refine ⟨b3, hB3, l3, u3, rfl, rfl, cs3, fun h6 s6 => ?_⟩
  have H6 := H6 h6 s6
  obtain ⟨b4, hB4, l4, u4, cs4, H7⟩ := H6.wr (z := (j : Int)) (i := j) rfl (by rw [List.length_set, hlen]; omega) (ny : Int)
  rw [List.length_set, hlen] at u4
  refine ⟨b4, hB4, l4, u4, rfl, rfl, cs4, fun h7 s7 => ?_⟩
  have H7 := H7 h7 s7
  have es := swap_next' (R := Y) (x := (ny : Int)) (z := (i : Int)) (show X'.length = j - 1 by omega)
  rw [show j - 1 + 1 = j by omega] at es
  rw [es] at H7
  refine ⟨(j - 1, X', (ny : Int) :: Y), ⟨rfl, rfl, rfl, congrArg (fun x => some (Value.int .i64 x)) ej, trivial⟩, ⟨by show X'.length = j - 1; omega, by rw [hX]; simp, (fun t ht => ?_), H7⟩, by show j - 1 < j; omega⟩
  rcases List.mem_cons.1 ht with rfl | ht
  · unfold ltM; rw [m1, m2]; omega
  · exact hY t ht
/-! ### Which entries may be -/
def timelyM (e : He) : Bool := !(decide (e.beg < 0 ∨ e.mark < 0 ∨ e.fin < 0)) && (!decide (0 < e.mark ∧ e.mark ≤ e.beg) && !decide (0 < e.fin ∧ (e.mark = 0 ∨ e.fin < e.mark)))
def againstM (x a : He) : Bool := decide (0 < x.mark ∧ x.mark = a.mark) || decide (x.who = a.who ∧ (a.fin = 0 ∨ x.beg < a.fin))
set_option maxHeartbeats 1000000 in
theorem hTimely_spec (e : He) : HCalls Tryz.prog 69 #[.agg (encHe e).toArray] h (fun v h' => v = .bool (timelyM e) ∧ Ext h h') := by
  unfold timelyM
  refine xcalls env0 Tryz.func69 rfl (by kernel_rfl) rfl (by kernel_rfl) ?_
  intro b h1 n1
  have hb : h1[b]? = some (.cells (encHe e).toArray 116 (0, 0)) := n1.this
  refine ⟨_, cell_blk hb rfl, ?_⟩
  refine xif_of (fun q => ?_) (fun q => ?_)
  · refine xif_true q ?_
    have q : e.beg < 0 := of_decide_eq_true q
    exact ⟨by rw [decide_eq_true (.inl q)]; rfl, n1.ext⟩
  have q : ¬ e.beg < 0 := of_decide_eq_false q
  refine ⟨_, cell_blk hb rfl, ?_⟩
  refine xif_of (fun q2 => ?_) (fun q2 => ?_)
  · refine xif_true q2 ?_
    have q2 : e.mark < 0 := of_decide_eq_true q2
    exact ⟨by rw [decide_eq_true (.inr (.inl q2))]; rfl, n1.ext⟩
  have q2 : ¬ e.mark < 0 := of_decide_eq_false q2
  refine ⟨_, cell_blk hb rfl, ?_⟩
  refine xif_of (fun q3 => ?_) (fun q3 => ?_)
  · have q3 : e.fin < 0 := of_decide_eq_true q3
    exact ⟨by rw [decide_eq_true (.inr (.inr q3))]; rfl, n1.ext⟩
  have q3 : ¬ e.fin < 0 := of_decide_eq_false q3
  rw [decide_eq_false (show ¬ (e.beg < 0 ∨ e.mark < 0 ∨ e.fin < 0) by omega)]
  refine ⟨_, cell_blk hb rfl, ?_⟩
  have c1 : ∀ t : Bool, (∃ (_ : decide (0 < e.mark ∧ e.mark ≤ e.beg) = false), t = (!decide (0 < e.fin ∧ (e.mark = 0 ∨ e.fin < e.mark)))) → t = ((!false) && (!decide (0 < e.mark ∧ e.mark ≤ e.beg) && !decide (0 < e.fin ∧ (e.mark = 0 ∨ e.fin < e.mark)))) := by
    rintro t ⟨k, rfl⟩; rw [k]; rfl
  refine xif_of (fun a => ?a) (fun a => ?b)
  case' a =>
    have a : e.mark > 0 := of_decide_eq_true a
    refine ⟨_, cell_blk hb rfl, _, cell_blk hb rfl, ?_⟩
    refine xif_of (fun a2 => ?_) (fun a2 => ?_)
    · have a2 : e.mark ≤ e.beg := of_decide_eq_true a2
      exact ⟨by rw [decide_eq_true (show 0 < e.mark ∧ e.mark ≤ e.beg by omega)]; rfl, n1.ext⟩
    have a2 : ¬ e.mark ≤ e.beg := of_decide_eq_false a2
    have d1 : decide (0 < e.mark ∧ e.mark ≤ e.beg) = false := decide_eq_false (by omega)
  case' b =>
    have a : ¬ e.mark > 0 := of_decide_eq_false a
    have d1 : decide (0 < e.mark ∧ e.mark ≤ e.beg) = false := decide_eq_false (by omega)
  all_goals
    refine ⟨_, cell_blk hb rfl, ?_⟩
    refine xif_of (fun b1 => ?_) (fun b1 => ?_)
    rotate_left
    · have b1 : ¬ e.fin > 0 := of_decide_eq_false b1
      exact ⟨congrArg Value.bool (c1 _ ⟨d1, by rw [decide_eq_false (show ¬ (0 < e.fin ∧ (e.mark = 0 ∨ e.fin < e.mark)) by omega)]; rfl⟩), n1.ext⟩
    have b1 : e.fin > 0 := of_decide_eq_true b1
    refine ⟨_, cell_blk hb rfl, ?_⟩
    refine xif_of (fun b2 => ?_) (fun b2 => ?_)
    · have b2 : e.mark = 0 := by simpa using b2
      exact ⟨congrArg Value.bool (c1 _ ⟨d1, by rw [decide_eq_true (show 0 < e.fin ∧ (e.mark = 0 ∨ e.fin < e.mark) by omega)]; rfl⟩), n1.ext⟩
    have b2 : ¬ e.mark = 0 := by simpa using b2
    refine ⟨_, cell_blk hb rfl, _, cell_blk hb rfl, ?_⟩
    refine xif_of (fun b3 => ?_) (fun b3 => ?_)
    · have b3 : e.fin < e.mark := of_decide_eq_true b3
      exact ⟨congrArg Value.bool (c1 _ ⟨d1, by rw [decide_eq_true (show 0 < e.fin ∧ (e.mark = 0 ∨ e.fin < e.mark) by omega)]; rfl⟩), n1.ext⟩
    · have b3 : ¬ e.fin < e.mark := of_decide_eq_false b3
      exact ⟨congrArg Value.bool (c1 _ ⟨d1, by rw [decide_eq_false (show ¬ (0 < e.fin ∧ (e.mark = 0 ∨ e.fin < e.mark)) by omega)]; rfl⟩), n1.ext⟩
theorem hCheck1_spec (e : He) : HCalls Tryz.prog 68 #[.agg (encHe e).toArray] h (fun v h' => v = .bool (!timelyM e) ∧ Ext h h') := by
  refine xcalls env0 Tryz.func68 rfl (by kernel_rfl) rfl (by kernel_rfl) ?_
  intro b h1 n1
  have hb : h1[b]? = some (.cells (encHe e).toArray 116 (0, 0)) := n1.this
  refine ⟨_, rfl, reads_all hb, ?_⟩
  refine (hTimely_spec e).mono ?_
  rintro v h2 ⟨rfl, x2⟩
  exact ⟨rfl, n1.ext.trans x2⟩
theorem hAgainst_spec (x a : He) : HCalls Tryz.prog 71 #[.agg (encHe x).toArray, .agg (encHe a).toArray] h (fun v h' => v = .bool (againstM x a) ∧ Ext h h') := by
  unfold againstM
  refine xcalls env0 Tryz.func71 rfl (by kernel_rfl) rfl (by kernel_rfl) ?_
  intro b1 h1 n1 b2 h2 n2
  have hb1 : h2[b1]? = some (.cells (encHe x).toArray 116 (0, 0)) := n2.ext.blk n1.this
  have hb2 : h2[b2]? = some (.cells (encHe a).toArray 116 (0, 0)) := n2.this
  have x02 := n1.ext.trans n2.ext
  refine ⟨_, cell_blk hb1 rfl, ?_⟩
  refine xif_of (fun q => ?a) (fun q => ?b)
  case' a =>
    have q : x.mark > 0 := of_decide_eq_true q
    refine ⟨_, cell_blk hb1 rfl, _, cell_blk hb2 rfl, ?_⟩
    refine xif_of (fun q2 => ?_) (fun q2 => ?_)
    · have q2 : x.mark = a.mark := by simpa using q2
      exact ⟨by rw [decide_eq_true (show 0 < x.mark ∧ x.mark = a.mark by omega)]; rfl, x02⟩
    have q2 : ¬ x.mark = a.mark := by simpa using q2
    have d1 : decide (0 < x.mark ∧ x.mark = a.mark) = false := decide_eq_false (by omega)
  case' b =>
    have q : ¬ x.mark > 0 := of_decide_eq_false q
    have d1 : decide (0 < x.mark ∧ x.mark = a.mark) = false := decide_eq_false (by omega)
  all_goals
    rw [d1, Bool.false_or]
    refine ⟨_, cell_blk hb1 rfl, _, cell_blk hb2 rfl, ?_⟩
    refine xif_of (fun c1 => ?_) (fun c1 => ?_)
    rotate_left
    · have c1 : ¬ x.who = a.who := by simpa using c1
      exact ⟨congrArg Value.bool (decide_eq_false (by omega)).symm, x02⟩
    have c1 : x.who = a.who := by simpa using c1
    refine ⟨_, cell_blk hb2 rfl, ?_⟩
    refine xif_of (fun c2 => ?_) (fun c2 => ?_)
    · have c2 : a.fin = 0 := by simpa using c2
      exact ⟨congrArg Value.bool (decide_eq_true (by omega)).symm, x02⟩
    have c2 : ¬ a.fin = 0 := by simpa using c2
    have e3 : decide (a.fin > x.beg) = decide (x.who = a.who ∧ (a.fin = 0 ∨ x.beg < a.fin)) := by
      rw [Bool.eq_iff_iff, decide_eq_true_iff, decide_eq_true_iff]; omega
    exact ⟨_, cell_blk hb2 rfl, _, cell_blk hb1 rfl, congrArg Value.bool e3, x02⟩
/-- The first place at which something holds; -1: there is none. -/
def idxP (P : He → Bool) : List He → Nat → Int
  | [], _ => -1
  | e :: l, i => if P e = true then (i : Int) else idxP P l (i + 1)
theorem idxP_none {P : He → Bool} : ∀ {l : List He} {i : Nat}, idxP P l i = -1 ↔ l.any P = false
  | [], i => by simp [idxP]
  | e :: l, i => by
    rw [idxP, List.any_cons]
    cases hp : P e with
    | true => simp
    | false => simp only [Bool.false_or, if_neg (show ¬ (false = true) by decide)]; exact idxP_none
theorem idxP_ge {P : He → Bool} : ∀ {l : List He} {i : Nat}, 0 ≤ idxP P l i ↔ l.any P = true
  | [], i => by simp [idxP]
  | e :: l, i => by
    rw [idxP, List.any_cons]
    cases hp : P e with
    | true => simp
    | false => simp only [Bool.false_or, if_neg (show ¬ (false = true) by decide)]; exact idxP_ge
theorem idxP_range {P : He → Bool} : ∀ {l : List He} {i : Nat}, idxP P l i = -1 ∨ ((i : Int) ≤ idxP P l i ∧ idxP P l i < i + l.length)
  | [], i => .inl rfl
  | e :: l, i => by
    rw [idxP, List.length_cons]
    split
    · exact .inr (by omega)
    · rcases idxP_range (P := P) (l := l) (i := i + 1) with h | h
      · exact .inl h
      · exact .inr (by omega)
theorem heIndex_spec {A : Option Addr} {c n : Nat} {l : List He} {P : He → Bool} {f : FuncId} {fst : List Value} (hr : Row encHe 19 h A l) (hl : l.length = n) (hn : n ≤ 1000000)
    (hP : ∀ h' e, Ext h h' → e ∈ l → HCalls Tryz.prog f (fst ++ [Value.agg (encHe e).toArray] ++ []).toArray h' (fun v h'' => v = .bool (P e) ∧ Ext h' h'')) :
    HCalls Tryz.prog 67 #[.slice A n c, .func (.func f) fst.toArray #[]] h (fun v h' => v = .int .i64 (idxP P l 0) ∧ Ext h h') := by
  subst hl
  refine xcalls env0 Tryz.func67 rfl (by kernel_rfl) rfl (by kernel_rfl) ?_
  refine ⟨Nat, fun i => [(0, .slice A l.length c), (1, .func (.func f) fst.toArray #[]), (7, .int .i64 l.length), (8, .int .i64 i)], fun i h' => (i ≤ l.length ∧ idxP P (l.drop i) i = idxP P l 0) ∧ Ext h h', fun i => l.length - i, 0, ⟨rfl, rfl, rfl, rfl, trivial⟩, ⟨⟨Nat.zero_le _, rfl⟩, Ext.refl _⟩, ?_⟩
  rintro i h2 ⟨⟨hi, hf⟩, x2⟩
  refine xif_of (fun hlt => ?_) (fun hge => ?_)
  · have hlt : (i : Int) < l.length := of_decide_eq_true hlt
    obtain ⟨v, hv⟩ : ∃ v, l[i]? = some v := ⟨l[i]'(by omega), List.getElem?_eq_getElem (by omega)⟩
    obtain ⟨a, hA, hrd⟩ := (x2.row hr) i v hv
    have hd : l.drop i = v :: l.drop (i + 1) := by
      obtain ⟨hil, he⟩ := List.getElem?_eq_some_iff.1 hv
      rw [List.drop_eq_getElem_cons hil, he]
    rw [hd, idxP] at hf
    refine ⟨a, hA, by omega, hlt, encHe v, rfl, hrd, ?_⟩
    refine (hP h2 v x2 (List.mem_of_getElem? hv)).mono ?_
    rintro w h3 ⟨rfl, x3⟩
    refine xif_of (fun q => ?_) (fun q => ?_)
    · rw [if_pos q] at hf
      exact ⟨congrArg (Value.int .i64) hf, x2.trans x3⟩
    · rw [if_neg (by rw [q]; decide)] at hf
      exact ⟨i + 1, ⟨rfl, rfl, rfl, slot_inc (by omega), trivial⟩, ⟨⟨by omega, hf⟩, x2.trans x3⟩, by show l.length - (i + 1) < l.length - i; omega⟩
  · have hge : ¬ (i : Int) < l.length := of_decide_eq_false hge
    rw [List.drop_eq_nil_of_le (by omega)] at hf
    exact ⟨congrArg (Value.int .i64) hf, x2⟩
theorem heContains_spec {A : Option Addr} {c n : Nat} {l : List He} {P : He → Bool} {f : FuncId} {fst : List Value} (hr : Row encHe 19 h A l) (hl : l.length = n) (hn : n ≤ 1000000)
    (hP : ∀ h' e, Ext h h' → e ∈ l → HCalls Tryz.prog f (fst ++ [Value.agg (encHe e).toArray] ++ []).toArray h' (fun v h'' => v = .bool (P e) ∧ Ext h' h'')) :
    HCalls Tryz.prog 70 #[.slice A n c, .func (.func f) fst.toArray #[]] h (fun v h' => v = .bool (l.any P) ∧ Ext h h') := by
  refine xcalls env0 Tryz.func70 rfl (by kernel_rfl) rfl (by kernel_rfl) ?_
  refine (heIndex_spec hr hl hn hP).mono ?_
  rintro v h2 ⟨rfl, x2⟩
  refine ⟨congrArg Value.bool ?_, x2⟩
  rw [Bool.eq_iff_iff, decide_eq_true_iff]
  exact idxP_ge
end
end Go.Proofs.YtcjoenkpibhmoaaGreatE
