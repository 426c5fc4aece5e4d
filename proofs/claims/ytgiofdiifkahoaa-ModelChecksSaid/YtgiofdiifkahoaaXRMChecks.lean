/- ModelChecks: for every input the law answers true and its arguments read as they did. Conditions: none. -/
import Derived.Test.YtgiofdiifkahoaaRows
import Derived.Test.YtgiofdiifkahoaaXDec17
import Derived.Test.YtgiofdiifkahoaaXQ2
set_option linter.unusedVariables false
set_option linter.unusedSimpArgs false
set_option maxRecDepth 100000
namespace Go.Proofs.YtgiofdiifkahoaaE
open Go Go.Proofs Go.Proofs.Ytgiofdiifkahoaa Go.ChangeShapes Go.WideShapes Go.ChangeAt Go.RowKit
theorem modelChecks_lifted (os : Os) (started : os.Started) (H : Type) (enc : TypeId × Value → H) :
    ReturnsInHanded {} Try.checked os 6 .any (Rows.modelChecksSpec.pre6 enc Try.prog Try.f6 Rows.modelChecksRow.domain false) (Rows.modelChecksSpec.post enc Try.prog Try.f6 false true false false) := by
  refine returnsInHanded_of_change_sized (C := Try.checked) own started (by kernel_rfl) Try.func6
    (ChangeSpec.witness6 (enc := enc) (C := Try.checked) false ⟨#[], #[.agg #[.int .i64 0, .slice none 0 0, .slice none 0 0, .int .i64 0, .int .i64 0, .int .i64 0, .int .i64 0, .int .i64 0, .int .u32 0, .int .u32 0]], []⟩ 8 (by kernel_rfl) (by kernel_rfl) (by kernel_rfl) (by kernel_rfl)) ?_
  intro W base args ds gs before hval0 hW hcnd hsz0 _
  have hval : ∀ (j : Nat) t v, Try.f6.params[j]? = some t → args[j]? = some v → Value.okWide Try.prog W .any base t v := hval0
  have hW' := hW
  obtain ⟨p, q, hA0, hV, rfl, hfz, hnd⟩ := hW
  have hA : DataW.TrodAll enc Try.prog W 0 (fun _ => true) true Try.f6.params.toList args.toList ds p := hA0
  rw [Try.params6] at hA hval
  obtain ⟨v0, d0, rfl, rfl, h0⟩ := trodAll_one hA
  obtain ⟨rfl, rfl⟩ := trodVars_none hV
  obtain ⟨P, A, na, ca, B, nb, cb, s, tries, ring, normal, short, rules, vls, hp, hla, hra, hlb, hrb, wf, _, hca, _, hcb, _⟩ := dec_plan (decW_of_arg h0)
  obtain rfl := agg_of hp (planV_len _ _ _ _ _ _ _ _)
  exact law_calls (lChecks17_spec hra hla hca hrb hlb hcb wf) laidOut (by kernel_rfl) (by kernel_rfl) Try.underlying4 rfl hW' rfl rfl rfl
theorem modelChecks_over : Rows.modelChecksRow.holds Try.pinned (OpenSpec.ofChange Rows.modelChecksSpec) :=
  OpenClaim.holds_of_wide 6 Try.f6 rfl rfl rfl rfl rfl rfl rfl ⟨rfl, rfl, rfl, rfl, rfl⟩ rfl rfl rfl rfl rfl (by kernel_rfl) Try.func6 (by kernel_rfl)
    (of_decide_eq_true (by kernel_rfl)) (by unfold Func.isWrapper; first | (rw [if_pos (by decide +kernel)]; kernel_rfl) | (rw [if_neg (by decide +kernel)]; exact ⟨rfl, rfl⟩))
    (fun os started H enc _ => modelChecks_lifted os started H enc)
end Go.Proofs.YtgiofdiifkahoaaE
namespace Go.Proofs.Ytgiofdiifkahoaa
/-- The row: ModelChecks. -/
theorem modelChecks_holds : Rows.ModelChecksSaid := YtgiofdiifkahoaaE.modelChecks_over
#print axioms modelChecks_holds
end Go.Proofs.Ytgiofdiifkahoaa
