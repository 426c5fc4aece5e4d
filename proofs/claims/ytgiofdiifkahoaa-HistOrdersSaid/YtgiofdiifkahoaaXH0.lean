/- Sorting that keeps the order of equals, over lists. Conditions: none. -/
import Derived.Test.YtgiofdiifkahoaaXOwn
set_option linter.unusedVariables false
set_option linter.unusedSimpArgs false
namespace Go.Proofs.YtgiofdiifkahoaaE
open Go
/-- A strict weak order. -/
structure Swo {α : Type} (lt : α → α → Prop) : Prop where
  asym : ∀ x y, lt x y → ¬ lt y x
  negt : ∀ x y z, ¬ lt y x → ¬ lt z y → ¬ lt z x
/-- One stands ahead of another one: it is less, or it is alike and was ahead. -/
def Lx {α : Type} (lt bf : α → α → Prop) (x y : α) : Prop := lt x y ∨ (¬ lt y x ∧ bf x y)
section
variable {α : Type} {lt bf : α → α → Prop}
theorem Swo.ltle (S : Swo lt) {x y z : α} (h1 : lt x y) (h2 : ¬ lt z y) : lt x z := Classical.byContradiction fun n => S.negt y z x h2 n h1
theorem Swo.lelt (S : Swo lt) {x y z : α} (h1 : ¬ lt y x) (h2 : lt y z) : lt x z := Classical.byContradiction fun n => S.negt z x y n h1 h2
theorem Lx.le (S : Swo lt) {x y : α} (h : Lx lt bf x y) : ¬ lt y x := h.elim (S.asym x y) fun h => h.1
theorem Lx.of_lt {x y : α} (h : lt x y) : Lx lt bf x y := .inl h
theorem Lx.of_le {x y : α} (h : ¬ lt y x) (b : bf x y) : Lx lt bf x y := .inr ⟨h, b⟩
/-- Two lists that are in order, one of them ahead of the other one. -/
theorem pw_app {U V : List α} (hu : U.Pairwise (Lx lt bf)) (hv : V.Pairwise (Lx lt bf)) (h : ∀ x ∈ U, ∀ y ∈ V, Lx lt bf x y) : (U ++ V).Pairwise (Lx lt bf) := List.pairwise_append.2 ⟨hu, hv, h⟩
/-- What is merged out of four parts. -/
theorem pw_four (S : Swo lt) {U1 U2 V1 V2 W1 W2 : List α} (hu : (U1 ++ U2).Pairwise (Lx lt bf)) (hv : (V1 ++ V2).Pairwise (Lx lt bf)) (hb : ∀ x ∈ U1 ++ U2, ∀ y ∈ V1 ++ V2, bf x y)
    (h12 : ∀ x ∈ U1, ∀ y ∈ V2, ¬ lt y x) (h21 : ∀ x ∈ V1, ∀ y ∈ U2, lt x y) (p1 : W1.Perm (U1 ++ V1)) (p2 : W2.Perm (U2 ++ V2)) (s1 : W1.Pairwise (Lx lt bf)) (s2 : W2.Pairwise (Lx lt bf)) : (W1 ++ W2).Pairwise (Lx lt bf) := by
  refine pw_app s1 s2 fun x hx y hy => ?_
  have hx := p1.mem_iff.1 hx
  have hy := p2.mem_iff.1 hy
  rw [List.mem_append] at hx hy
  rcases hx with hx | hx <;> rcases hy with hy | hy
  · exact (List.pairwise_append.1 hu).2.2 x hx y hy
  · exact Lx.of_le (h12 x hx y hy) (hb x (List.mem_append_left _ hx) y (List.mem_append_right _ hy))
  · exact Lx.of_lt (h21 x hx y hy)
  · exact (List.pairwise_append.1 hv).2.2 x hx y hy
/-- Elements in order, by their places. -/
theorem pw_at {U : List α} (hu : U.Pairwise (Lx lt bf)) {i j : Nat} {x y : α} (hi : U[i]? = some x) (hj : U[j]? = some y) (h : i < j) : Lx lt bf x y := by
  obtain ⟨h1, rfl⟩ := List.getElem?_eq_some_iff.1 hi
  obtain ⟨h2, rfl⟩ := List.getElem?_eq_some_iff.1 hj
  exact List.pairwise_iff_getElem.1 hu i j h1 h2 h
theorem le_at (S : Swo lt) {U : List α} (hu : U.Pairwise (Lx lt bf)) {i j : Nat} {x y : α} (hi : U[i]? = some x) (hj : U[j]? = some y) (h : i ≤ j) : ¬ lt y x := by
  rcases Nat.lt_or_eq_of_le h with h | rfl
  · exact (pw_at hu hi hj h).le S
  · rw [hi] at hj; cases hj
    exact fun e => S.asym _ _ e e
/-- In order, and the same elements: the same list. -/
theorem pw_unique (S : Swo lt) (hb : ∀ x y, bf x y → ¬ bf y x) : ∀ {U V : List α}, U.Perm V → U.Pairwise (Lx lt bf) → V.Pairwise (Lx lt bf) → U = V := by
  have anti : ∀ x y, Lx lt bf x y → Lx lt bf y x → False := by
    intro x y h1 h2
    rcases h1 with h1 | ⟨n1, b1⟩
    · exact h2.le S h1
    · rcases h2 with h2 | ⟨n2, b2⟩
      · exact n1 h2
      · exact hb _ _ b1 b2
  intro U
  induction U with
  | nil => intro V p _ _; exact (List.nil_perm.1 p).symm
  | cons x U ih =>
    intro V p hu hv
    cases V with
    | nil => exact absurd p (by simp)
    | cons y V =>
      have hxy : x = y := by
        by_cases e : x = y
        · exact e
        · have hx : x ∈ y :: V := p.mem_iff.1 (List.mem_cons_self ..)
          have hy : y ∈ x :: U := p.mem_iff.2 (List.mem_cons_self ..)
          have hx : x ∈ V := (List.mem_cons.1 hx).resolve_left e
          have hy : y ∈ U := (List.mem_cons.1 hy).resolve_left (fun q => e q.symm)
          exact (anti x y ((List.pairwise_cons.1 hu).1 y hy) ((List.pairwise_cons.1 hv).1 x hx)).elim
      subst hxy
      rw [ih (p.cons_inv) (List.pairwise_cons.1 hu).2 (List.pairwise_cons.1 hv).2]
/-- One more, put in its place. -/
theorem pw_insert (S : Swo lt) {T1 T2 : List α} {z : α} (h : (T1 ++ T2).Pairwise (Lx lt bf)) (h2 : ∀ t ∈ T2, lt z t) (h1 : ∀ y, T1.getLast? = some y → ¬ lt z y) (hb : ∀ t ∈ T1, bf t z) : (T1 ++ z :: T2).Pairwise (Lx lt bf) := by
  obtain ⟨a, b, c⟩ := List.pairwise_append.1 h
  refine pw_app a (List.pairwise_cons.2 ⟨fun t ht => Lx.of_lt (h2 t ht), b⟩) fun x hx y hy => ?_
  rcases List.mem_cons.1 hy with rfl | hy
  · refine Lx.of_le ?_ (hb x hx)
    cases hl : T1.getLast? with
    | none => rw [List.getLast?_eq_none_iff] at hl; subst hl; cases hx
    | some w =>
      obtain ⟨i, hi⟩ := List.getElem?_of_mem hx
      rw [List.getLast?_eq_getElem?] at hl
      have := (List.getElem?_eq_some_iff.1 hi).1
      have hle := le_at S a hi hl (by omega)
      exact S.negt x w y hle (h1 w (by rw [List.getLast?_eq_getElem?]; exact hl))
  · exact c x hx y hy
/-- A part of a list. -/
def seg (a b : Nat) (L : List α) : List α := (L.take b).drop a
theorem seg_len (a b : Nat) (L : List α) (h : b ≤ L.length) : (seg a b L).length = b - a := by
  unfold seg; rw [List.length_drop, List.length_take]; omega
theorem seg_get {a b i : Nat} {L : List α} (h : a + i < b) : (seg a b L)[i]? = L[a + i]? := by
  unfold seg
  rw [List.getElem?_drop, List.getElem?_take, if_pos h]
theorem cut3 {a b : Nat} {L : List α} (h1 : a ≤ b) (h2 : b ≤ L.length) : L = L.take a ++ (seg a b L ++ L.drop b) := by
  unfold seg
  have e : L.take a = (L.take b).take a := by rw [List.take_take, Nat.min_eq_left h1]
  rw [e, ← List.append_assoc, List.take_append_drop, List.take_append_drop]
theorem seg_split {a m b : Nat} {L : List α} (h1 : a ≤ m) (h2 : m ≤ b) : seg a b L = seg a m L ++ seg m b L := by
  unfold seg
  have e : L.take m = (L.take b).take m := by rw [List.take_take, Nat.min_eq_left h2]
  rw [e]
  generalize L.take b = K
  have : K.drop a = (K.drop a).take (m - a) ++ (K.drop a).drop (m - a) := (List.take_append_drop ..).symm
  rw [this, List.drop_drop, List.drop_take, show a + (m - a) = m by omega]
theorem seg_app {P W Q : List α} {a b : Nat} (h1 : P.length = a) (h2 : a + W.length = b) : seg a b (P ++ (W ++ Q)) = W := by
  unfold seg
  rw [List.take_append, List.take_of_length_le (by omega), List.drop_append, List.drop_eq_nil_of_le (by omega), List.nil_append, show a - P.length = 0 by omega, List.drop_zero, List.take_append, List.take_of_length_le (by omega), show b - P.length - W.length = 0 by omega]
  simp
end
end Go.Proofs.YtgiofdiifkahoaaE
