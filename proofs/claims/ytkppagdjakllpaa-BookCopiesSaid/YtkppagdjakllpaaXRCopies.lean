/- BookCopies: for every size and whatever is done to a book and to its copy the law answers true and its arguments read as they did. Conditions: none. -/
import Derived.Test.YtkppagdjakllpaaRows
import Derived.Test.YtkppagdjakllpaaXDec11
import Derived.Test.YtkppagdjakllpaaXB8
set_option linter.unusedVariables false
set_option linter.unusedSimpArgs false
set_option maxRecDepth 100000
namespace Go.Proofs.YtkppagdjakllpaaE
open Go Go.Proofs Go.Proofs.Ytkppagdjakllpaa Go.ChangeShapes Go.WideShapes Go.ChangeAt Go.RowKit
theorem copies_lifted (os : Os) (started : os.Started) (H : Type) (enc : TypeId × Value → H) :
    ReturnsInHanded {} Try.checked os 10 .any (Rows.bookCopiesSpec.pre6 enc Try.prog Try.f10 Rows.bookCopiesRow.domain false) (Rows.bookCopiesSpec.post enc Try.prog Try.f10 false true false false) := by
  refine returnsInHanded_of_change_sized (C := Try.checked) own started (by kernel_rfl) Try.func10
    (ChangeSpec.witness6 (enc := enc) (C := Try.checked) false ⟨#[], #[.agg #[.int .i64 0, .int .i64 0, .int .i64 0], .slice none 0 0, .slice none 0 0], []⟩ 8 (by kernel_rfl) (by kernel_rfl) (by kernel_rfl) (by kernel_rfl)) ?_
  intro W base args ds gs before hval0 hW hcnd hsz0 _
  have hval : ∀ (j : Nat) t v, Try.f10.params[j]? = some t → args[j]? = some v → Value.okWide Try.prog W .any base t v := hval0
  have hsz1 : (DataW.weightsEach Try.prog (Try.f10.params.toList ++ Rows.bookCopiesSpec.plain.varTypes Try.prog) (ds ++ gs)).all (· ≤ reachBytes) = true := hsz0
  have hW' := hW
  obtain ⟨p, q, hA0, hV, rfl, hfz, hnd⟩ := hW
  have hA : DataW.TrodAll enc Try.prog W 0 (fun _ => true) true Try.f10.params.toList args.toList ds p := hA0
  rw [Try.params10] at hA hval hsz1
  obtain ⟨v0, v1, v2, d0, d1, d2, p0, p1, p2, rfl, rfl, rfl, h0, h1, h2⟩ := trodAll_three hA
  obtain ⟨rfl, rfl⟩ := trodVars_none hV
  obtain ⟨s0, hs0⟩ := dec_size (dec_of_arg h0)
  obtain rfl := agg_of hs0 (by show (3 : Nat) ≠ 1; omega)
  obtain ⟨A, n, c, rfl⟩ := okWide_slice (e := 82) (by kernel_rfl) (hval 1 _ v1 rfl rfl)
  obtain ⟨xs, hl, hr, wf, hnc, _, hsz⟩ := row_of_trod (by kernel_rfl) (by kernel_rfl) (fun cs h => dec_op h) h1
  have hsz := hsz (j := 1) hsz1 rfl rfl
  rw [opBytes] at hsz
  obtain ⟨A', n', c', rfl⟩ := okWide_slice (e := 82) (by kernel_rfl) (hval 2 _ v2 rfl rfl)
  obtain ⟨xs', hl', hr', wf', hnc', _, hsz'⟩ := row_of_trod (by kernel_rfl) (by kernel_rfl) (fun cs h => dec_op h) h2
  have hsz' := hsz' (j := 2) hsz1 rfl rfl
  rw [opBytes] at hsz'
  exact law_calls (lCopies_spec hr wf hr' wf' hl hl' (by omega) (by omega)) laidOut (by kernel_rfl) (by kernel_rfl) Try.underlying4 rfl hW' rfl rfl rfl
theorem copies_over : Rows.bookCopiesRow.holds Try.pinned (OpenSpec.ofChange Rows.bookCopiesSpec) :=
  OpenClaim.holds_of_wide 10 Try.f10 rfl rfl rfl rfl rfl rfl rfl ⟨rfl, rfl, rfl, rfl, rfl⟩ rfl rfl rfl rfl rfl (by kernel_rfl) Try.func10 (by kernel_rfl)
    (of_decide_eq_true (by kernel_rfl)) (by unfold Func.isWrapper; first | (rw [if_pos (by decide +kernel)]; kernel_rfl) | (rw [if_neg (by decide +kernel)]; exact ⟨rfl, rfl⟩))
    (fun os started H enc _ => copies_lifted os started H enc)
end Go.Proofs.YtkppagdjakllpaaE
namespace Go.Proofs.Ytkppagdjakllpaa
/-- The row: BookCopies. -/
theorem bookCopies_holds : Rows.BookCopiesSaid := YtkppagdjakllpaaE.copies_over
#print axioms bookCopies_holds
end Go.Proofs.Ytkppagdjakllpaa
