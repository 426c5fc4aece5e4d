/- BookNews: for every size and whatever is asked of a book that isn't there the law answers true and its arguments read as they did. Conditions: none. -/
import Derived.Test.YtkppagdjakllpaaRows
import Derived.Test.YtkppagdjakllpaaXDec11
import Derived.Test.YtkppagdjakllpaaXB8
set_option linter.unusedVariables false
set_option linter.unusedSimpArgs false
set_option maxRecDepth 100000
namespace Go.Proofs.YtkppagdjakllpaaE
open Go Go.Proofs Go.Proofs.Ytkppagdjakllpaa Go.ChangeShapes Go.WideShapes Go.ChangeAt Go.RowKit
theorem news_lifted (os : Os) (started : os.Started) (H : Type) (enc : TypeId × Value → H) :
    ReturnsInHanded {} Try.checked os 13 .any (Rows.bookNewsSpec.pre6 enc Try.prog Try.f13 Rows.bookNewsRow.domain false) (Rows.bookNewsSpec.post enc Try.prog Try.f13 false true false false) := by
  refine returnsInHanded_of_change_sized (C := Try.checked) own started (by kernel_rfl) Try.func13
    (ChangeSpec.witness6 (enc := enc) (C := Try.checked) false ⟨#[], #[.agg #[.int .i64 0, .int .i64 0, .int .i64 0], .agg #[.int .i64 0, .int .i64 0, .int .u64 0, .int .i64 0, .int .i64 0, .int .u32 0, .int .u32 0]], []⟩ 8 (by kernel_rfl) (by kernel_rfl) (by kernel_rfl) (by kernel_rfl)) ?_
  intro W base args ds gs before hval0 hW hcnd hsz0 _
  have hval : ∀ (j : Nat) t v, Try.f13.params[j]? = some t → args[j]? = some v → Value.okWide Try.prog W .any base t v := hval0
  have hsz1 : (DataW.weightsEach Try.prog (Try.f13.params.toList ++ Rows.bookNewsSpec.plain.varTypes Try.prog) (ds ++ gs)).all (· ≤ reachBytes) = true := hsz0
  have hW' := hW
  obtain ⟨p, q, hA0, hV, rfl, hfz, hnd⟩ := hW
  have hA : DataW.TrodAll enc Try.prog W 0 (fun _ => true) true Try.f13.params.toList args.toList ds p := hA0
  rw [Try.params13] at hA hval hsz1
  obtain ⟨v0, v1, d0, d1, p0, p1, rfl, rfl, rfl, h0, h1⟩ := trodAll_two hA
  obtain ⟨rfl, rfl⟩ := trodVars_none hV
  obtain ⟨s0, hs0⟩ := dec_size (dec_of_arg h0)
  obtain rfl := agg_of hs0 (by show (3 : Nat) ≠ 1; omega)
  obtain ⟨x, hx, w⟩ := dec_op (dec_of_arg h1)
  obtain rfl := agg_of hx (by show (7 : Nat) ≠ 1; omega)
  exact law_calls (lNews_spec (s := s0) w) laidOut (by kernel_rfl) (by kernel_rfl) Try.underlying4 rfl hW' rfl rfl rfl
theorem news_over : Rows.bookNewsRow.holds Try.pinned (OpenSpec.ofChange Rows.bookNewsSpec) :=
  OpenClaim.holds_of_wide 13 Try.f13 rfl rfl rfl rfl rfl rfl rfl ⟨rfl, rfl, rfl, rfl, rfl⟩ rfl rfl rfl rfl rfl (by kernel_rfl) Try.func13 (by kernel_rfl)
    (of_decide_eq_true (by kernel_rfl)) (by unfold Func.isWrapper; first | (rw [if_pos (by decide +kernel)]; kernel_rfl) | (rw [if_neg (by decide +kernel)]; exact ⟨rfl, rfl⟩))
    (fun os started H enc _ => news_lifted os started H enc)
end Go.Proofs.YtkppagdjakllpaaE
namespace Go.Proofs.Ytkppagdjakllpaa
/-- The row: BookNews. -/
theorem bookNews_holds : Rows.BookNewsSaid := YtkppagdjakllpaaE.news_over
#print axioms bookNews_holds
end Go.Proofs.Ytkppagdjakllpaa
