/- What the reference's functions of layers 8 to 10 answer. Conditions: the arguments are of their types. -/
import Derived.Test.YthoikbogkhpciaaGreatDoorXLib
import Derived.Test.YthoikbogkhpciaaGreatDoorXA1
set_option linter.unusedVariables false
set_option linter.unusedSimpArgs false
set_option maxRecDepth 100000
namespace Go.Proofs.YthoikbogkhpciaaGreatDoorE
open Go Go.Proofs
theorem encP_one (p : Place) : (encP p).all Value.oneCell' = true := rfl
theorem Reads.cellAt {h : Heap} {a : Addr} {o k : Nat} {vs : List Value} {v : Value} (H : Reads h (a.add o) vs) (j : Nat) (hk : k = o + j) (hv : nth vs j = some v) : cell h (a.add k) = some v := by
  rw [hk, ← add_add]; exact H.get j (by rw [nth_eq] at hv; exact hv)
theorem clean_wfR {xs : List Place} (h : ∀ p ∈ xs, p.Wf) : ∀ p ∈ xs.map cleanP, p.Wf := by
  intro p hp
  obtain ⟨q, hq, rfl⟩ := List.mem_map.1 hp
  unfold cleanP
  split
  · exact h q hq
  · exact none_wf
theorem Place.decEq' (p q : Place) : ((p.used == q.used) && ((((p.vid == q.vid) && ((p.mac == q.mac) && true)) && ((p.port == q.port) && ((p.static == q.static) && ((p.stamp == q.stamp) && true)))) && true)) = decide (p = q) := by
  obtain ⟨a, b, c, d, e, f⟩ := p
  obtain ⟨a', b', c', d', e', f'⟩ := q
  rw [Bool.eq_iff_iff]
  simp [and_assoc]
theorem wo_step {cl : List Place} (f : Place → Place) (q : Place → Bool) {i : Nat} {p : Place} (hp : cl[i]? = some p) :
    ((cl.take i).map f ++ cl.drop i)[i]? = some p ∧ cl.drop i = p :: cl.drop (i + 1) ∧ ((cl.take i).map f ++ cl.drop i).set i (f p) = (cl.take (i + 1)).map f ++ cl.drop (i + 1) ∧
      (cl.take (i + 1)).countP q = (cl.take i).countP q + (if q p = true then 1 else 0) ∧ (cl.take i).countP q ≤ i := by
  obtain ⟨hlt, hpi⟩ := List.getElem?_eq_some_iff.1 hp
  have hdrop : cl.drop i = p :: cl.drop (i + 1) := by rw [List.drop_eq_getElem_cons hlt, hpi]
  refine ⟨?_, hdrop, ?_, ?_, Nat.le_trans List.countP_le_length (List.length_take_le _ _)⟩
  · rw [List.getElem?_append_right (by simp; omega)]
    simp [Nat.min_eq_left (Nat.le_of_lt hlt), hp]
  · rw [List.set_append_right _ _ (by simp; omega), List.take_succ_eq_append_getElem hlt, hpi, hdrop]
    simp [Nat.min_eq_left (Nat.le_of_lt hlt)]
  · rw [List.take_succ_eq_append_getElem hlt, hpi, List.countP_append]
    simp [List.countP_cons]
end Go.Proofs.YthoikbogkhpciaaGreatDoorE
