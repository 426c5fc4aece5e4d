/- What the program's book answers: where a bucket is, who is known, what is learned, ordered, dropped. Conditions: the arguments are of their types. -/
import Derived.Test.YtjjempefncgfhaaGreatDoorXBk
set_option linter.unusedVariables false
set_option linter.unusedSimpArgs false
set_option maxRecDepth 100000
namespace Go.Proofs.YtjjempefncgfhaaGreatDoorE
open Go Go.Proofs
section
variable {base b tb : Nat} {s : Sz} {L : List (List Place)} {h : Heap}
theorem cell_ix {h : Heap} {t k : Nat} {v : Value} (H : cell h ⟨t, k, none⟩ = some v) : cell h ((⟨t, 0, none⟩ : Addr).add ((k : Int).toNat * 1)) = some v := by rw [add_lit]; simpa using H
theorem canset_ix {h : Heap} {t k n : Nat} (H : CanSet h ⟨t, k, none⟩ n) : CanSet h ((⟨t, 0, none⟩ : Addr).add ((k : Int).toNat * 1)) n := by rw [add_lit]; simpa using H
theorem stored_ix {h h' : Heap} {t k : Nat} {vs : List Value} (s : Stored h ((⟨t, 0, none⟩ : Addr).add ((k : Int).toNat * 1)) vs h') : Stored h ⟨t, k, none⟩ vs h' := by rw [add_lit] at s; simpa using s
theorem sl_small (o : s.Ok) {l : List Place} (h : (l.length : Int) = s.sl) : l.length ≤ 8 := by have := o.sl2; omega
end
end Go.Proofs.YtjjempefncgfhaaGreatDoorE
/- What the program's book answers: what is flushed, a bucket, all entries, a copy, a new one. Conditions: the arguments are of their types. -/
set_option linter.unusedVariables false
set_option linter.unusedSimpArgs false
set_option maxRecDepth 100000
namespace Go.Proofs.YtjjempefncgfhaaGreatDoorE
open Go Go.Proofs
section
variable {base b tb : Nat} {s : Sz} {L : List (List Place)} {h : Heap}
theorem sum_step {f : List Place → Int} {L : List (List Place)} {i : Nat} {l : List Place} (hl : L[i]? = some l) : ((L.take (i + 1)).map f).sum = ((L.take i).map f).sum + f l := by
  obtain ⟨hi, rfl⟩ := List.getElem?_eq_some_iff.1 hl
  rw [List.take_succ_eq_append_getElem hi, List.map_append, List.sum_append]
  simp
theorem mix_set {f : List Place → List Place} {L : List (List Place)} {i : Nat} {l : List Place} (hl : L[i]? = some l) : ((L.take i).map f ++ L.drop i)[i]? = some l ∧ ((L.take i).map f ++ L.drop i).set i (f l) = (L.take (i + 1)).map f ++ L.drop (i + 1) := by
  obtain ⟨hi, rfl⟩ := List.getElem?_eq_some_iff.1 hl
  constructor
  · rw [List.getElem?_append_right (by simp; omega)]
    simp [Nat.min_eq_left (Nat.le_of_lt hi), hi]
  · have e : i - ((L.take i).map f).length = 0 := by simp; omega
    rw [List.set_append_right _ _ (by simp; omega), e, List.take_succ_eq_append_getElem hi, List.drop_eq_getElem_cons hi, List.set_cons_zero, List.map_append, List.append_assoc]
    rfl
theorem placeInfo : (Tryz.prog.info? 246).map (fun i => (i.size, i.bytes)) = some (6, 40) := by kernel_rfl
theorem placeZero : xzero Tryz.prog 246 = some (encP Place.none) := by kernel_rfl
theorem entInfo : (Tryz.prog.info? 244).map (fun i => (i.size, i.bytes)) = some (5, 32) := by kernel_rfl
theorem entZero : xzero Tryz.prog 244 = some (encE Place.none) := by kernel_rfl
theorem encE_one (p : Place) : (encE p).all Value.oneCell' = true := rfl
theorem listB_next {L : List (List Place)} {i : Nat} {l : List Place} (hl : L[i]? = some l) : listB (L.take (i + 1)) = listB (L.take i) ++ l.filter (fun p => p.used) := by
  obtain ⟨hi, rfl⟩ := List.getElem?_eq_some_iff.1 hl
  unfold listB
  rw [List.take_succ_eq_append_getElem hi, List.flatMap_append]
  simp only [List.flatMap_cons, List.flatMap_nil, List.append_nil]
theorem filt_next {l : List Place} {j : Nat} {p : Place} (hp : l[j]? = some p) : (l.take (j + 1)).filter (fun p => p.used) = (l.take j).filter (fun p => p.used) ++ (if p.used = true then [p] else []) := by
  obtain ⟨hi, rfl⟩ := List.getElem?_eq_some_iff.1 hp
  rw [List.take_succ_eq_append_getElem hi, List.filter_append]
  simp [List.filter_cons]
theorem kWithin_spec (n m : Int) (h : Heap) : HCalls Tryz.prog 173 #[.int .i64 n, .int .i64 m] h (fun v h' => v = .bool (decide (1 ≤ n ∧ n ≤ m)) ∧ h' = h) := by
  refine xcalls env0 Tryz.func173 rfl (by kernel_rfl) rfl (by kernel_rfl) ?_
  refine xif_of (fun q => ?_) (fun q => ?_)
  · have q : n ≥ 1 := of_decide_eq_true q
    exact ⟨congrArg Value.bool (by rw [Bool.eq_iff_iff]; simp; omega), rfl⟩
  · have q : ¬ n ≥ 1 := of_decide_eq_false q
    exact ⟨congrArg Value.bool (by rw [Bool.eq_iff_iff]; simp; omega), rfl⟩
def rightM (s : Sz) : Bool := decide (1 ≤ s.sh ∧ s.sh ≤ 8) && (decide (1 ≤ s.bk ∧ s.bk ≤ 16) && decide (1 ≤ s.sl ∧ s.sl ≤ 8))
theorem rightM_ok {s : Sz} : rightM s = true ↔ s.Ok := by
  simp only [rightM, Bool.and_eq_true, decide_eq_true_eq]
  exact ⟨fun ⟨⟨a, b⟩, ⟨c, d⟩, e, f⟩ => ⟨a, b, c, d, e, f⟩, fun o => ⟨⟨o.sh1, o.sh2⟩, ⟨o.bk1, o.bk2⟩, o.sl1, o.sl2⟩⟩
theorem kRight_spec (s : Sz) (h : Heap) : HCalls Tryz.prog 107 #[.agg #[.int .i64 s.sh, .int .i64 s.bk, .int .i64 s.sl]] h (fun v h' => v = .bool (rightM s) ∧ Ext h h') := by
  refine xcalls env0 Tryz.func107 rfl (by kernel_rfl) rfl (by kernel_rfl) ?_
  intro zb h1 n1
  refine ⟨_, cell_blk n1.this rfl, ?_⟩
  refine (kWithin_spec _ _ _).mono ?_
  rintro v h2 ⟨rfl, rfl⟩
  refine xif_of (fun q1 => ?_) (fun q1 => ?_)
  · refine ⟨_, cell_blk n1.this rfl, ?_⟩
    refine (kWithin_spec _ _ _).mono ?_
    rintro v h3 ⟨rfl, rfl⟩
    refine xif_of (fun q2 => ?_) (fun q2 => ?_)
    · refine ⟨_, cell_blk n1.this rfl, ?_⟩
      refine (kWithin_spec _ _ _).mono ?_
      rintro v h4 ⟨rfl, rfl⟩
      exact ⟨congrArg Value.bool (by rw [rightM, q1, q2]; rfl), n1.ext⟩
    · exact ⟨congrArg Value.bool (by rw [rightM, q1, q2]; rfl), n1.ext⟩
  · exact ⟨congrArg Value.bool (by rw [rightM, q1]; rfl), n1.ext⟩
theorem slInfo : (Tryz.prog.info? 173).map (fun i => (i.size, i.bytes)) = some (1, 24) := by kernel_rfl
theorem slZero : xzero Tryz.prog 173 = some [.slice none 0 0] := by kernel_rfl
end
end Go.Proofs.YtjjempefncgfhaaGreatDoorE
