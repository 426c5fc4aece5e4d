/- What the cells of an argument are, slices and arrays within it too. Conditions: none. -/
import Derived.Test.YtgiofdiifkahoaaXLaw
set_option linter.unusedVariables false
set_option linter.unusedSimpArgs false
namespace Go.Proofs.YtgiofdiifkahoaaE
open Go Go.ChangeShapes Go.WideShapes Go.ChangeAt Go.RowKit
/-- What the cells of a value of a type are, in a world: numbers in their ranges, bools, strings, structs, arrays and slices of those. -/
def DecW (P : Program) (W : World) : Nat → TypeId → List Value → Prop
  | 0 => fun _ _ => True
  | n + 1 => fun t cs => match P.underlying t with
    | some (.int k) => ∃ z, cs = [.int k z] ∧ (Lit.int k z).wf = true
    | some .bool => ∃ b, cs = [.bool b]
    | some .string => ∃ s : ByteArray, cs = [.string s] ∧ s.size ≤ maxLen
    | some (.struct fs) => cs.length = P.cellsOf t ∧ AllF (fun f => DecW P W n f.type ((cs.drop f.offset).take (P.cellsOf f.type))) fs.toList
    | some (.array k e) => cs.length = P.cellsOf t ∧ ∀ i, i < k → DecW P W n e ((cs.drop (i * P.cellsOf e)).take (P.cellsOf e))
    | some (.slice e) => ∃ (A : Option Addr) (len cap : Nat), cs = [.slice A len cap] ∧ len ≤ cap ∧ cap ≤ maxLen ∧
        ∀ i, i < len → ∃ (a : Addr) (cs' : List Value), A = some a ∧ Reads W.heap (a.add (i * P.cellsOf e)) cs' ∧ cs'.length = P.cellsOf e ∧ DecW P W n e cs'
    | _ => True
section
variable {H : Type} {enc : TypeId × Value → H} {P : Program} {W : World} {base : Nat} {spare : Nat → Bool} {held : Bool}
theorem decW_of_trod : ∀ (m : Nat) {fuel : Nat} {t : TypeId} {cs : List Value} {x : DataW H × List MemPlace}, DataW.trod enc P W base spare held fuel t cs = some x → DecW P W m t cs := by
  intro m
  induction m with
  | zero => intro fuel t cs x _; trivial
  | succ m ih =>
    intro fuel t cs x h
    unfold DecW
    split
    · rename_i k hk
      obtain ⟨z, hz, _, hw⟩ := DataW.trod_int hk h
      exact ⟨z, hz, hw⟩
    · rename_i hk
      obtain ⟨b, hb, _⟩ := DataW.trod_bool hk h
      exact ⟨b, hb⟩
    · rename_i hk
      obtain ⟨s, hs, _, hm⟩ := DataW.trod_string hk h
      exact ⟨s, hs, hm⟩
    · rename_i fs hk
      obtain ⟨xs, n, _, _, hl, hlen, hf⟩ := DataW.trod_struct hk h
      refine ⟨hl, allF_of fun f hf' => ?_⟩
      obtain ⟨i, hi⟩ := List.getElem?_of_mem hf'
      have hi' : fs[i]? = some f := by rw [← Array.getElem?_toList]; exact hi
      have h1 := hf i f hi'
      have hlt : i < xs.length := by
        rw [hlen, ← Array.length_toList]
        exact (List.getElem?_eq_some_iff.1 hi).1
      rw [List.getElem?_eq_getElem hlt] at h1
      exact ih h1
    · rename_i k e hk
      obtain ⟨xs, n, _, _, hl, hlen, hf⟩ := DataW.trod_array hk h
      refine ⟨hl, fun i hi => ?_⟩
      have h1 := hf i hi
      rw [List.getElem?_eq_getElem (by omega)] at h1
      exact ih h1
    · rename_i e hk
      rcases Go.Deep.open_slice hk h with ⟨hcs, _⟩ | ⟨a, len, cap, mm, k, D, Pl, hcs, _, hl, hm, hmm, _, hx⟩
      · exact ⟨none, 0, 0, hcs, Nat.le_refl _, Nat.zero_le _, fun i hi => absurd hi (Nat.not_lt_zero _)⟩
      · refine ⟨some a, len, cap, hcs, hl, hm, fun i hi => ?_⟩
        have hle : len ≤ mm := by rw [hmm]; split <;> omega
        obtain ⟨cs', h1, h2⟩ := hx i (by omega)
        obtain ⟨_, h3, h4⟩ := World.cells?_some h1
        refine ⟨a, cs', rfl, fun j v hj => ?_, h3, ih h2⟩
        have hjl : j < P.cellsOf e := by rw [← h3]; exact (List.getElem?_eq_some_iff.1 hj).1
        have := h4 j hjl
        rw [hj] at this
        exact this
    · trivial
theorem decW_of_arg {m : Nat} {t : TypeId} {v : Value} {d : DataW H} {ps : List MemPlace} (hd : DataW.Trod enc P W base spare held t v d ps) : DecW P W m t v.cells.toList := by
  obtain ⟨fuel, hf⟩ := hd
  exact decW_of_trod m hf
end
/-- A slice, its elements decoded. -/
theorem row_of_dec {P : Program} {W : World} {α : Type} {enc' : α → List Value} {Wf : α → Prop} {sz m : Nat} {e : TypeId} (hsz : P.cellsOf e = sz)
    (hdec : ∀ cs, DecW P W m e cs → ∃ x, cs = enc' x ∧ Wf x) {A : Option Addr} {n : Nat} (hx : ∀ i, i < n → ∃ (a : Addr) (cs' : List Value), A = some a ∧ Reads W.heap (a.add (i * P.cellsOf e)) cs' ∧ cs'.length = P.cellsOf e ∧ DecW P W m e cs') :
    ∃ xs : List α, xs.length = n ∧ Row enc' sz W.heap A xs ∧ ∀ x ∈ xs, Wf x := by
  have key : ∀ i, i < n → ∃ x, Wf x ∧ ∃ a, A = some a ∧ Reads W.heap (a.add (i * sz)) (enc' x) := fun i hi => by
    obtain ⟨a, cs', h1, h2, h3, h4⟩ := hx i hi
    obtain ⟨x, rfl, hw⟩ := hdec cs' h4
    rw [hsz] at h2
    exact ⟨x, hw, a, h1, h2⟩
  have hlist : ∀ k, k ≤ n → ∃ xs : List α, xs.length = k ∧ ∀ i x, xs[i]? = some x → Wf x ∧ ∃ a, A = some a ∧ Reads W.heap (a.add (i * sz)) (enc' x) := by
    intro k
    induction k with
    | zero => intro _; exact ⟨[], rfl, fun i x hi => by simp at hi⟩
    | succ k ih =>
      intro hk
      obtain ⟨xs, h1, h2⟩ := ih (by omega)
      obtain ⟨x, h3⟩ := key k (by omega)
      refine ⟨xs ++ [x], by simp [h1], fun i y hy => ?_⟩
      by_cases e : i < k
      · rw [List.getElem?_append_left (by omega)] at hy; exact h2 i y hy
      · have hl := (List.getElem?_eq_some_iff.1 hy).1
        have e : i = k := by simp [h1] at hl; omega
        subst e
        rw [List.getElem?_append_right (by omega), h1, Nat.sub_self] at hy
        cases hy
        exact h3
  obtain ⟨xs, h1, h2⟩ := hlist n (Nat.le_refl _)
  refine ⟨xs, h1, fun i x hi => (h2 i x hi).2, fun x hx => ?_⟩
  obtain ⟨i, hi⟩ := List.getElem?_of_mem hx
  exact (h2 i x hi).1
end Go.Proofs.YtgiofdiifkahoaaE
