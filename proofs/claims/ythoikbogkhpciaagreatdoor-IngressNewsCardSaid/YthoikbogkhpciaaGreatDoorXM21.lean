/- Numbers that are put in turn at rings and taken so: how many of each ring, where they lie. Conditions: none; plain law. -/
import Derived.Test.YthoikbogkhpciaaGreatDoorXM12
set_option linter.unusedVariables false
set_option linter.unusedSimpArgs false
namespace Go.Proofs.YthoikbogkhpciaaGreatDoorE
open Go
/-! ### Numbers that are put in turn at P rings, and taken so -/
/-- How many of the first n numbers are of ring j. -/
def cN (P j n : Nat) : Nat := n / P + if j < n % P then 1 else 0
theorem cN_zero (P j : Nat) : cN P j 0 = 0 := by simp [cN]
theorem cN_at (P n : Nat) : cN P (n % P) n = n / P := by simp [cN]
theorem cN_succ {P j : Nat} (hj : j < P) (n : Nat) : cN P j (n + 1) = cN P j n + if j = n % P then 1 else 0 := by
  have hP : 0 < P := by omega
  have hm := Nat.mod_lt n hP
  have e := Nat.div_add_mod n P
  rcases Nat.lt_or_ge (n % P + 1) P with h | h
  · have e1 : (n + 1) / P = n / P := by
      rw [Nat.div_eq_iff hP]
      have : P * (n / P) = n / P * P := Nat.mul_comm ..
      omega
    have e2 : (n + 1) % P = n % P + 1 := by rw [Nat.add_mod, Nat.mod_eq_of_lt (show 1 < P by omega)]; exact Nat.mod_eq_of_lt h
    unfold cN
    rw [e1, e2]
    repeat' split
    all_goals omega
  · have e1 : (n + 1) / P = n / P + 1 := by
      rw [Nat.div_eq_iff hP]
      have : P * (n / P) = n / P * P := Nat.mul_comm ..
      have : (n / P + 1) * P = n / P * P + P := by rw [Nat.add_mul, Nat.one_mul]
      omega
    have e2 : (n + 1) % P = 0 := by
      have e3 := Nat.div_add_mod (n + 1) P
      rw [e1, Nat.mul_add] at e3
      omega
    unfold cN
    rw [e1, e2]
    repeat' split
    all_goals omega
theorem cN_le {P j n k : Nat} (hP : 0 < P) (h : n ≤ k * P) : cN P j n ≤ k := by
  unfold cN
  have e := Nat.div_add_mod n P
  have h1 : n / P ≤ k := Nat.div_le_of_le_mul (by rw [Nat.mul_comm]; exact h)
  split
  · rcases Nat.lt_or_ge (n / P) k with h2 | h2
    · omega
    · have : n / P = k := by omega
      rw [this, Nat.mul_comm] at e
      omega
  · omega
theorem cN_mono {P j : Nat} (hj : j < P) {n : Nat} : ∀ {m : Nat}, n ≤ m → cN P j n ≤ cN P j m := by
  intro m h
  induction m with
  | zero => rw [Nat.le_zero.1 h]; exact Nat.le_refl _
  | succ m ih =>
    rcases Nat.lt_or_ge n (m + 1) with h2 | h2
    · have := ih (by omega); have := cN_succ hj m; omega
    · rw [show n = m + 1 by omega]; exact Nat.le_refl _
theorem cN_lt {P t N : Nat} (hP : 0 < P) (h : t < N) : cN P (t % P) t < cN P (t % P) N := by
  have hm := Nat.mod_lt t hP
  have := cN_succ hm t
  rw [if_pos rfl] at this
  have := cN_mono hm (show t + 1 ≤ N from h)
  omega
theorem cN_bound {P j n : Nat} (hP : 0 < P) : cN P j n ≤ n := cN_le hP (Nat.le_mul_of_pos_right n hP)
/-- Where ring j's cells begin (to port q). -/
def bs (b0 P S q j : Nat) : Nat := b0 + (j * P + q) * (S + 2)
theorem bs_in {b0 P S q j o : Nat} (hj : j < P) (hq : q < P) (ho : o < S + 2) : bs b0 P S q j + o < b0 + P * P * (S + 2) := by
  unfold bs
  have h1 : (j + 1) * P ≤ P * P := Nat.mul_le_mul_right _ hj
  rw [Nat.add_mul, Nat.one_mul] at h1
  have h2 : (j * P + q + 1) * (S + 2) ≤ P * P * (S + 2) := Nat.mul_le_mul_right _ (by omega)
  rw [Nat.add_mul, Nat.one_mul] at h2
  omega
theorem bs_ne {b0 P S q j j' o o' : Nat} (hq : q < P) (h : j ≠ j') (ho : o < S + 2) (ho' : o' < S + 2) : bs b0 P S q j + o ≠ bs b0 P S q j' + o' := by
  unfold bs
  have key : ∀ a b : Nat, a < b → (a * P + q) * (S + 2) + (S + 2) ≤ (b * P + q) * (S + 2) := by
    intro a b hab
    have h1 : (a + 1) * P ≤ b * P := Nat.mul_le_mul_right _ hab
    rw [Nat.add_mul, Nat.one_mul] at h1
    have h2 : (a * P + q + 1) * (S + 2) ≤ (b * P + q) * (S + 2) := Nat.mul_le_mul_right _ (by omega)
    rw [Nat.add_mul, Nat.one_mul] at h2
    exact h2
  rcases Nat.lt_or_gt_of_ne h with h1 | h1
  · have := key _ _ h1; omega
  · have := key _ _ h1; omega
/-- A ticket of number i, with VLAN v. -/
def tik (v i : Nat) : Int := (i : Int) * 4096 + v
/-- The cells when n numbers were put at port q, and t taken. -/
structure CellsOk (b0 P S q v : Nat) (L : List Int) (n t : Nat) : Prop where
  len : b0 + P * P * (S + 2) ≤ L.length
  low : P ≤ b0
  fit : n ≤ S * P
  st : ∀ p, p < P → L[p]? = some 0
  put : ∀ j, j < P → L[bs b0 P S q j]? = some ((cN P j n : Nat) : Int)
  tak : ∀ j, j < P → L[bs b0 P S q j + 1]? = some ((cN P j t : Nat) : Int)
  val : ∀ i, i < n → L[bs b0 P S q (i % P) + (2 + i / P)]? = some (tik v i)
section
variable {b0 P S q v n t : Nat} {L : List Int}
theorem CellsOk.place (C : CellsOk b0 P S q v L n t) (hP : 0 < P) (hq : q < P) {k : Nat} (hk : k < S) {j : Nat} (hj : j < P) : bs b0 P S q j + (2 + k) < L.length :=
  Nat.lt_of_lt_of_le (bs_in hj hq (by omega)) C.len
/-- A number is laid in its place. -/
theorem CellsOk.lay (C : CellsOk b0 P S q v L n t) (hP : 0 < P) (hq : q < P) (hS : n / P < S) (x : Int) : CellsOk b0 P S q v (L.set (bs b0 P S q (n % P) + (2 + n / P)) x) n t := by
  have hm := Nat.mod_lt n hP
  have ne : ∀ j o, j < P → o < S + 2 → (j = n % P → o ≠ 2 + n / P) → bs b0 P S q (n % P) + (2 + n / P) ≠ bs b0 P S q j + o := by
    intro j o hj ho h e
    by_cases e' : j = n % P
    · subst e'; have := h rfl; omega
    · exact bs_ne hq (Ne.symm e') (by omega) ho e
  have lo : ∀ p, p < P → bs b0 P S q (n % P) + (2 + n / P) ≠ p := by intro p hp; have := C.low; have := Nat.zero_le (n / P); unfold bs; omega
  refine ⟨by rw [List.length_set]; exact C.len, C.low, C.fit, fun p hp => ?_, fun j hj => ?_, fun j hj => ?_, fun i hi => ?_⟩
  · rw [List.getElem?_set_ne (lo p hp)]; exact C.st p hp
  · rw [List.getElem?_set_ne (by have := ne j 0 hj (by omega) (fun _ => by have := Nat.zero_le (n / P); omega); simpa using this)]; exact C.put j hj
  · rw [List.getElem?_set_ne (ne j 1 hj (by omega) (fun _ => by have := Nat.zero_le (n / P); omega))]; exact C.tak j hj
  · have h1 : i / P ≤ n / P := Nat.div_le_div_right (by omega)
    have e1 := Nat.div_add_mod i P
    have e2 := Nat.div_add_mod n P
    rw [List.getElem?_set_ne (ne _ _ (Nat.mod_lt i hP) (by omega) ?_)]
    · exact C.val i hi
    · intro e e3
      have : i / P = n / P := by omega
      rw [this, e] at e1
      omega
/-- It is told that one more was put. -/
theorem CellsOk.tell (C : CellsOk b0 P S q v L n t) (hP : 0 < P) (hq : q < P) (hF : n + 1 ≤ S * P) (hx : L[bs b0 P S q (n % P) + (2 + n / P)]? = some (tik v n)) :
    CellsOk b0 P S q v (L.set (bs b0 P S q (n % P)) ((cN P (n % P) n + 1 : Nat) : Int)) (n + 1) t := by
  have hS : n / P < S := (Nat.div_lt_iff_lt_mul hP).2 hF
  have hm := Nat.mod_lt n hP
  have lo : ∀ p, p < P → bs b0 P S q (n % P) ≠ p := by intro p hp; have := C.low; unfold bs; omega
  have ne : ∀ j o, j < P → o < S + 2 → (j = n % P → o ≠ 0) → bs b0 P S q (n % P) ≠ bs b0 P S q j + o := by
    intro j o hj ho h e
    by_cases e' : j = n % P
    · subst e'; have := h rfl; omega
    · exact bs_ne (o := 0) hq (Ne.symm e') (by omega) ho e
  have hl : bs b0 P S q (n % P) < L.length := Nat.lt_of_lt_of_le (bs_in (o := 0) hm hq (by omega)) C.len
  refine ⟨by rw [List.length_set]; exact C.len, C.low, hF, fun p hp => ?_, fun j hj => ?_, fun j hj => ?_, fun i hi => ?_⟩
  · rw [List.getElem?_set_ne (lo p hp)]; exact C.st p hp
  · rw [cN_succ hj]
    by_cases e : j = n % P
    · subst e; rw [if_pos rfl, List.getElem?_set_self hl]
    · rw [if_neg e, List.getElem?_set_ne (by have := ne j 0 hj (by omega) (fun h => absurd h e); simpa using this)]; exact C.put j hj
  · rw [List.getElem?_set_ne (ne j 1 hj (by omega) (fun _ => by omega))]; exact C.tak j hj
  · have h1 : i / P ≤ n / P := Nat.div_le_div_right (by omega)
    rw [List.getElem?_set_ne (ne _ _ (Nat.mod_lt i hP) (by omega) (fun _ => by have := Nat.zero_le (i / P); omega))]
    rcases Nat.lt_or_ge i n with h | h
    · exact C.val i h
    · rw [show i = n by omega]; exact hx
/-- It is told that one more was taken. -/
theorem CellsOk.leave (C : CellsOk b0 P S q v L n t) (hP : 0 < P) (hq : q < P) :
    CellsOk b0 P S q v (L.set (bs b0 P S q (t % P) + 1) ((cN P (t % P) t + 1 : Nat) : Int)) n (t + 1) := by
  have hm := Nat.mod_lt t hP
  have lo : ∀ p, p < P → bs b0 P S q (t % P) + 1 ≠ p := by intro p hp; have := C.low; unfold bs; omega
  have ne : ∀ j o, j < P → (j = t % P → o ≠ 1) → o < S + 2 → bs b0 P S q (t % P) + 1 ≠ bs b0 P S q j + o := by
    intro j o hj h ho e
    by_cases e' : j = t % P
    · subst e'; have := h rfl; omega
    · exact bs_ne (o := 1) hq (Ne.symm e') (by omega) ho e
  have hl : bs b0 P S q (t % P) + 1 < L.length := Nat.lt_of_lt_of_le (bs_in (o := 1) hm hq (by omega)) C.len
  refine ⟨by rw [List.length_set]; exact C.len, C.low, C.fit, fun p hp => ?_, fun j hj => ?_, fun j hj => ?_, fun i hi => ?_⟩
  · rw [List.getElem?_set_ne (lo p hp)]; exact C.st p hp
  · rw [List.getElem?_set_ne (by have := ne j 0 hj (by omega) (by omega); simpa using this)]; exact C.put j hj
  · rw [cN_succ hj]
    by_cases e : j = t % P
    · subst e; rw [if_pos rfl, List.getElem?_set_self hl]
    · rw [if_neg e, List.getElem?_set_ne (ne j 1 hj (fun h => absurd h e) (by omega))]; exact C.tak j hj
  · have hs : i / P < S := (Nat.div_lt_iff_lt_mul hP).2 (Nat.lt_of_lt_of_le hi C.fit)
    rw [List.getElem?_set_ne (ne _ _ (Nat.mod_lt i hP) (fun _ => by have := Nat.zero_le (i / P); omega) (by omega))]
    exact C.val i hi
end
end Go.Proofs.YthoikbogkhpciaaGreatDoorE
