/- HistOrders: for every input the law answers true and its arguments read as they did. Conditions: none. -/
import Derived.Test.YtgiofdiifkahoaaRows
import Derived.Test.YtgiofdiifkahoaaXDec18
import Derived.Test.YtgiofdiifkahoaaXH8
set_option linter.unusedVariables false
set_option linter.unusedSimpArgs false
set_option maxRecDepth 100000
namespace Go.Proofs.YtgiofdiifkahoaaE
open Go Go.Proofs Go.Proofs.Ytgiofdiifkahoaa Go.ChangeShapes Go.WideShapes Go.ChangeAt Go.RowKit
theorem histOrders_lifted (os : Os) (started : os.Started) (H : Type) (enc : TypeId × Value → H) :
    ReturnsInHanded {} Try.checked os 7 .any (Rows.histOrdersSpec.pre6 enc Try.prog Try.f7 Rows.histOrdersRow.domain false) (Rows.histOrdersSpec.post enc Try.prog Try.f7 false true false false) := by
  refine returnsInHanded_of_change_sized (C := Try.checked) own started (by kernel_rfl) Try.func7
    (ChangeSpec.witness6 (enc := enc) (C := Try.checked) false ⟨#[], #[.slice none 0 0], []⟩ 8 (by kernel_rfl) (by kernel_rfl) (by kernel_rfl) (by kernel_rfl)) ?_
  intro W base args ds gs before hval0 hW hcnd hsz0 _
  have hval : ∀ (j : Nat) t v, Try.f7.params[j]? = some t → args[j]? = some v → Value.okWide Try.prog W .any base t v := hval0
  have hW' := hW
  obtain ⟨p, q, hA0, hV, rfl, hfz, hnd⟩ := hW
  have hA : DataW.TrodAll enc Try.prog W 0 (fun _ => true) true Try.f7.params.toList args.toList ds p := hA0
  rw [Try.params7] at hA hval
  obtain ⟨v0, d0, rfl, rfl, h0⟩ := trodAll_one hA
  obtain ⟨rfl, rfl⟩ := trodVars_none hV
  obtain ⟨C0, n0, c0, rfl⟩ := okWide_slice (e := 90) (by kernel_rfl) (hval 0 _ v0 rfl rfl)
  obtain ⟨C', n', c', e1, hcap0, _, hc⟩ := decW_of_arg (m := 6) h0
  cases e1
  obtain ⟨hes0, hlo0, hro0, wo0⟩ := row_of_dec (enc' := encHe) (sz := 19) (by kernel_rfl) (fun cs h => dec_he h) hc
  exact law_calls (lHOrders_spec hro0 hlo0 hcap0) laidOut (by kernel_rfl) (by kernel_rfl) Try.underlying4 rfl hW' rfl rfl rfl
theorem histOrders_over : Rows.histOrdersRow.holds Try.pinned (OpenSpec.ofChange Rows.histOrdersSpec) :=
  OpenClaim.holds_of_wide 7 Try.f7 rfl rfl rfl rfl rfl rfl rfl ⟨rfl, rfl, rfl, rfl, rfl⟩ rfl rfl rfl rfl rfl (by kernel_rfl) Try.func7 (by kernel_rfl)
    (of_decide_eq_true (by kernel_rfl)) (by unfold Func.isWrapper; first | (rw [if_pos (by decide +kernel)]; kernel_rfl) | (rw [if_neg (by decide +kernel)]; exact ⟨rfl, rfl⟩))
    (fun os started H enc _ => histOrders_lifted os started H enc)
end Go.Proofs.YtgiofdiifkahoaaE
namespace Go.Proofs.Ytgiofdiifkahoaa
/-- The row: HistOrders. -/
theorem histOrders_holds : Rows.HistOrdersSaid := YtgiofdiifkahoaaE.histOrders_over
#print axioms histOrders_holds
end Go.Proofs.Ytgiofdiifkahoaa
