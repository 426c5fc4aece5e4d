/- What the laws' helpers of layers 8 to 10 answer. Conditions: the arguments are of their types. -/
import Derived.Test.YthoikbogkhpciaaGreatDoorXA2
import Derived.Test.YthoikbogkhpciaaGreatDoorXA3
set_option linter.unusedVariables false
set_option linter.unusedSimpArgs false
set_option maxRecDepth 100000
namespace Go.Proofs.YthoikbogkhpciaaGreatDoorE
open Go Go.Proofs
theorem infoPlace : (Tryz.prog.info? 200).map (fun i => (i.size, i.bytes)) = some (6, 40) := by kernel_rfl
theorem zeroPlace : xzero Tryz.prog 200 = some (encP Place.none) := by kernel_rfl
theorem take_next {α : Type} {l : List α} {i : Nat} {p : α} (hp : l[i]? = some p) : l.take i ++ [p] = l.take (i + 1) := by
  obtain ⟨hi, rfl⟩ := List.getElem?_eq_some_iff.1 hp
  rw [List.take_succ_eq_append_getElem hi]
theorem told10_1 : learnM [Place.none] 1 2 1 5 = ([⟨true, 1, 2, 1, false, 5⟩], 3) := by decide
theorem told10_2 : learnM [⟨true, 1, 2, 1, false, 5⟩] 1 2 2 6 = ([⟨true, 1, 2, 2, false, 6⟩], 2) := by decide
theorem told10_3 : learnM [⟨true, 1, 2, 2, false, 6⟩] 1 4 2 9 = ([⟨true, 1, 4, 2, false, 9⟩], 4) := by decide
end Go.Proofs.YthoikbogkhpciaaGreatDoorE
/- What the laws of layer 10 answer: yes. Conditions: the arguments are of their types. -/
set_option linter.unusedVariables false
set_option linter.unusedSimpArgs false
set_option maxRecDepth 100000
namespace Go.Proofs.YthoikbogkhpciaaGreatDoorE
open Go Go.Proofs
theorem putM_len (xs : List Place) (e : Place) (now : Int) : (putM xs e now).1.length = xs.length := by
  unfold putM
  split <;> simp
theorem learnM_len (xs : List Place) (vid mac port now : Int) : (learnM xs vid mac port now).1.length = xs.length := by
  unfold learnM
  simp only
  split
  · simp
  · split
    · simp [putM_len]
    · split <;> simp
theorem orderM_len (xs : List Place) (vid mac port now : Int) : (orderM xs vid mac port now).1.length = xs.length := by
  unfold orderM
  simp only
  split
  · simp
  · split
    · simp [putM_len]
    · split <;> simp
theorem dropM_len (xs : List Place) (vid mac : Int) : (dropM xs vid mac).1.length = xs.length := by
  unfold dropM
  simp only
  split
  · simp
  · split <;> simp
theorem withoutM_len (gone : Place → Bool) (xs : List Place) : (withoutM gone xs).1.length = xs.length := by
  simp [withoutM]
theorem roomP_spot {now : Int} : ∀ (xs : List Place) (k : Nat) (best did g : Int), (roomP now xs k best did g).1 = best ∨ ∃ m p, (roomP now xs k best did g).1 = ((k + m : Nat) : Int) ∧ xs[m]? = some p ∧ (p.used = false ∨ p.static = false) := by
  intro xs
  induction xs with
  | nil => intro k best did g; exact .inl rfl
  | cons p ps ih =>
    intro k best did g
    simp only [roomP]
    split
    · rename_i hu
      exact .inr ⟨0, p, by simp, rfl, .inl hu⟩
    · split
      · rcases ih (k + 1) best did g with h | ⟨m, q, h1, h2, h3⟩
        · exact .inl h
        · exact .inr ⟨m + 1, q, by rw [h1]; congr 1; omega, by simpa using h2, h3⟩
      · rename_i hu hs
        split
        · rcases ih (k + 1) k 4 (ageM now p.stamp) with h | ⟨m, q, h1, h2, h3⟩
          · exact .inr ⟨0, p, by rw [h]; simp, rfl, .inr (by simpa using hs)⟩
          · exact .inr ⟨m + 1, q, by rw [h1]; congr 1; omega, by simpa using h2, h3⟩
        · rcases ih (k + 1) best did g with h | ⟨m, q, h1, h2, h3⟩
          · exact .inl h
          · exact .inr ⟨m + 1, q, by rw [h1]; congr 1; omega, by simpa using h2, h3⟩
theorem putM_keeps {xs : List Place} {e : Place} {now : Int} {i : Nat} {p : Place} (hp : xs[i]? = some p) (hu : p.used = true) (hs : p.static = true) : (putM xs e now).1[i]? = some p := by
  unfold putM
  split
  · rename_i hge
    rcases roomP_spot (now := now) xs 0 (-1) 5 0 with h | ⟨m, q, h1, h2, h3⟩
    · rw [roomM, h] at hge; omega
    · simp only
      rw [roomM, h1, Int.toNat_natCast, Nat.zero_add, List.getElem?_set_ne]
      · exact hp
      · intro hm
        subst hm
        rw [hp] at h2
        cases h2
        rcases h3 with h3 | h3
        · rw [hu] at h3; cases h3
        · rw [hs] at h3; cases h3
  · exact hp
theorem cleanP_used {p : Place} (hu : p.used = true) : cleanP p = p := by simp [cleanP, hu]
theorem learnM_keeps {xs : List Place} {vid mac port now : Int} {i : Nat} {p : Place} (hp : xs[i]? = some p) (hu : p.used = true) (hs : p.static = true) : (learnM xs vid mac port now).1[i]? = some p := by
  have hc : (xs.map cleanP)[i]? = some p := by rw [List.getElem?_map, hp]; simp [cleanP_used hu]
  cases hm : mayM vid mac port with
  | false => rw [learnM_no hm]; exact hc
  | true =>
    rcases findN_range (vid := vid) (mac := mac) (xs.map cleanP) 0 with hf | ⟨hf0, hf1⟩
    · rw [learnM_new hm hf]; exact putM_keeps hc hu hs
    · obtain ⟨j, hj⟩ : ∃ j : Nat, findN vid mac (xs.map cleanP) 0 = j := ⟨(findN vid mac (xs.map cleanP) 0).toNat, by omega⟩
      have hjl : j < (xs.map cleanP).length := by omega
      obtain ⟨w, hw⟩ : ∃ w, (xs.map cleanP)[j]? = some w := ⟨_, List.getElem?_eq_getElem hjl⟩
      rw [learnM_hit hm hj hw]
      split
      · exact hc
      · rename_i hws
        simp only
        rw [List.getElem?_set_ne]
        · exact hc
        · intro e
          subst e
          rw [hw] at hc
          cases hc
          exact hws hs
theorem withoutM_keeps {gone : Place → Bool} {xs : List Place} {i : Nat} {p : Place} (hp : xs[i]? = some p) (hu : p.used = true) (hg : gone p = false) : (withoutM gone xs).1[i]? = some p := by
  simp [withoutM, hp, cleanP_used hu, hg]
end Go.Proofs.YthoikbogkhpciaaGreatDoorE
