/- A range over a map that stays as it is: its iterator, a step, the entry. Conditions: none. -/
import Derived.Test.YtgiofdiifkahoaaGreatXMap
import Derived.Laws.IdiomRangeMap
set_option linter.unusedVariables false
set_option linter.unusedSimpArgs false
namespace Go.Proofs.YtgiofdiifkahoaaGreatE
open Go
/-- An iterator over the map at b, which is as it was when the loop began; which of its entries were seen. -/
structure ItAt (h : Heap) (it b : Nat) (E : List MapEntry) (clock : Nat) (seen : Array Nat) : Prop where
  map : h[b]? = some (.map E.toArray clock)
  it : h[it]? = some (.mapIter (some b) clock seen clock)
def leftE (E : List MapEntry) (seen : Array Nat) : List MapEntry := E.filter fun e => !seen.contains e.born
section
variable {P : Program} {h : Heap} {it b clock : Nat} {E : List MapEntry} {seen : Array Nat} {K : Value → Heap → Prop}
theorem xrange_ok {T kt vt : TypeId} (hT : P.underlying T = some (.map kt vt)) (hm : h[b]? = some (.map E.toArray clock)) (hk : ∀ it h', New h h' it (.mapIter (some b) clock #[] clock) → K (.pointer (some ⟨it, 0, none⟩)) h') :
    XRun P (Instr.range T (.map (some b))) h K := by
  refine ⟨fun w hw => ?_⟩
  subst hw
  exact ⟨_, _, run_range_map w T kt vt b E.toArray clock hT hm, ⟨rfl, rfl, rfl⟩, hk _ _ (new_push _ _)⟩
theorem xnext_ok (I : ItAt h it b E clock seen) (S : Stamped E clock) {ty : TypeId} (h0 : leftE E seen = [] → K (.tuple #[.bool false]) h)
    (h1 : ∀ e, e ∈ leftE E seen → ∀ h', Remapped h it h' → ItAt h' it b E clock (seen.push e.born) → K (.tuple #[.bool true, e.key, e.val]) h') :
    XRun P (Instr.next (.pointer (some ⟨it, 0, none⟩)) false ty) h K := by
  refine ⟨fun w hw => ?_⟩
  subst hw
  have hold : ∀ x ∈ E.toArray.toList, x.born < clock := fun x hx => S.1 x hx
  have hlt := blk_lt I.it
  have hbl := blk_lt I.map
  simp only [Instr.next, getObj, Sem.run_bind, Sem.run, I.it, I.map, Result.andThen, next_test_false seen E.toArray clock clock hold (Nat.le_refl _), Bool.false_eq_true, if_false]
  have hf : Array.filter (fun e => !seen.contains e.born) E.toArray = (leftE E seen).toArray := by unfold leftE; simp
  rw [hf]
  have hmem : ∀ x ∈ (leftE E seen), x.born < clock := fun x hx => S.1 x (List.mem_filter.1 hx).1
  have hE : ∀ x ∈ leftE E seen, x ∈ E := fun x hx => (List.mem_filter.1 hx).1
  generalize leftE E seen = L at hmem h0 h1 hE ⊢
  have e1 : (L.toArray).filter (fun x => decide (x.born < clock)) = L.toArray := Array.filter_eq_self.2 (fun x hx => by simpa using hmem x (by simpa using hx))
  have e2 : (L.toArray).filter (fun x => decide (x.born ≥ clock)) = #[] := by
    rw [Array.filter_eq_empty_iff]
    intro x hx
    have := hmem x (by simpa using hx)
    simp
    omega
  simp only [e1, e2, Array.append_empty]
  cases L with
  | nil =>
    exact ⟨_, w, by simp [choose, Sem.run, Question.forced], ⟨rfl, rfl, rfl⟩, h0 rfl⟩
  | cons x0 L0 =>
    obtain ⟨L, hL⟩ : ∃ L, x0 :: L0 = L := ⟨_, rfl⟩
    have hpos : 0 < L.length := by rw [← hL]; simp
    rw [hL] at h1 hE ⊢
    have hne : L.toArray.isEmpty = false := by rw [← hL]; rfl
    simp only [hne, Bool.false_eq_true, if_false, Array.empty_append, Array.size_map]
    have hch : ∃ (j : Nat) (w1 : World), j < L.toArray.size ∧ w1.heap = w.heap ∧ SameOut w w1 ∧ (choose (Question.mapNext L.toArray.size)).run P w = .ok j w1 := by
      by_cases hf : L.toArray.size ≤ 1
      · exact ⟨0, w, by simpa using hpos, rfl, ⟨rfl, rfl, rfl⟩, by simp [choose, Sem.run, Question.forced]; intro q; simp at hf; omega⟩
      · exact ⟨_, w.drew, Nat.mod_lt _ (by omega), rfl, ⟨rfl, rfl, rfl⟩, by
          simp only [choose, Sem.run, Question.forced, decide_eq_true_eq, hf, if_false, Question.cut]
          rfl⟩
    obtain ⟨j, w1, hj, hh, hso, hrun⟩ := hch
    have hjl : j < L.length := by simpa using hj
    have hw1 : w1.heap[it]? = some (.mapIter (some b) clock seen clock) := by rw [hh]; exact I.it
    refine ⟨_, { w1 with heap := w1.heap.setIfInBounds it (.mapIter (some b) clock (seen.push L[j].born) clock) }, ?_, ⟨hso.os, hso.tape, hso.output⟩, h1 L[j] (List.getElem_mem _) _ ⟨by simp [hh], fun k hk => by simp only; rw [Array.getElem?_setIfInBounds_ne (Ne.symm hk), hh]⟩ ⟨?_, ?_⟩⟩
    · simp only [hrun, Array.getElem?_map, Array.getElem?_eq_getElem hj, Option.map_some, Sem.run_bind, setObj, Sem.run, hw1, Result.andThen]
      rfl
    · have hne2 : it ≠ b := by
        rintro rfl
        have := I.map
        rw [I.it] at this
        cases this
      show (w1.heap.setIfInBounds it _)[b]? = _
      rw [Array.getElem?_setIfInBounds_ne hne2, hh]; exact I.map
    · show (w1.heap.setIfInBounds it _)[it]? = _
      simp [hh, hlt]
theorem xentry_ok {e : MapEntry} (I : ItAt h it b E clock (seen.push e.born)) (S : Stamped E clock) (he : e ∈ E) (hk : K (.tuple #[e.key, e.val]) h) : XRun P (Instr.entry (.pointer (some ⟨it, 0, none⟩))) h K := by
  refine ⟨fun w hw => ?_⟩
  subst hw
  have hf : E.toArray.find? (·.born == e.born) = some e := by rw [← Array.find?_toList]; exact find_born e E S.2 he
  refine ⟨_, w, ?_, ⟨rfl, rfl, rfl⟩, hk⟩
  simp only [Instr.entry, getObj, Sem.run_bind, Sem.run, I.it, I.map, Result.andThen, Array.back?_push, bne_self_eq_false, Bool.false_eq_true, if_false, hf]
  rfl
end
end Go.Proofs.YtgiofdiifkahoaaGreatE
