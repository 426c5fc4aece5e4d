/- AuditSums: for every input the law answers true and its arguments read as they did. Conditions: none. -/
import Derived.Test.YtcjoenkpibhmoaaGreatRows
import Derived.Test.YtcjoenkpibhmoaaGreatXDec23
import Derived.Test.YtcjoenkpibhmoaaGreatXS2
set_option linter.unusedVariables false
set_option linter.unusedSimpArgs false
set_option maxRecDepth 100000
namespace Go.Proofs.YtcjoenkpibhmoaaGreatE
open Go Go.Proofs Go.Proofs.YtcjoenkpibhmoaaGreat Go.ChangeShapes Go.WideShapes Go.ChangeAt Go.RowKit
theorem auditSums_lifted (os : Os) (started : os.Started) (H : Type) (enc : TypeId × Value → H) :
    ReturnsInHanded {} Tryz.checked os 4 .any (Rows.auditSumsSpec.pre6 enc Tryz.prog Tryz.f4 Rows.auditSumsRow.domain false) (Rows.auditSumsSpec.post enc Tryz.prog Tryz.f4 false true false false) := by
  refine returnsInHanded_of_change_sized (C := Tryz.checked) own started (by kernel_rfl) Tryz.func4
    (ChangeSpec.witness6 (enc := enc) (C := Tryz.checked) false ⟨#[], #[.slice none 0 0], []⟩ 8 (by kernel_rfl) (by kernel_rfl) (by kernel_rfl) (by kernel_rfl)) ?_
  intro W base args ds gs before hval0 hW hcnd hsz0 _
  have hval : ∀ (j : Nat) t v, Tryz.f4.params[j]? = some t → args[j]? = some v → Value.okWide Tryz.prog W .any base t v := hval0
  have hW' := hW
  obtain ⟨p, q, hA0, hV, rfl, hfz, hnd⟩ := hW
  have hA : DataW.TrodAll enc Tryz.prog W 0 (fun _ => true) true Tryz.f4.params.toList args.toList ds p := hA0
  rw [Tryz.params4] at hA hval
  obtain ⟨v0, d0, rfl, rfl, h0⟩ := trodAll_one hA
  obtain ⟨rfl, rfl⟩ := trodVars_none hV
  obtain ⟨C0, n0, c0, rfl⟩ := okWide_slice (e := 36) (by kernel_rfl) (hval 0 _ v0 rfl rfl)
  obtain ⟨C', n', c', e1, hcap0, _, hc⟩ := decW_of_arg (m := 6) h0
  cases e1
  obtain ⟨hes0, hlo0, hro0, wo0⟩ := row_of_dec (enc' := encCr) (sz := 1) (by kernel_rfl) (fun cs h => dec_cr h) hc
  exact law_calls (lSums_spec hro0 hlo0 wo0) laidOut (by kernel_rfl) (by kernel_rfl) Tryz.underlying4 rfl hW' rfl rfl rfl
theorem auditSums_over : Rows.auditSumsRow.holds Tryz.pinned (OpenSpec.ofChange Rows.auditSumsSpec) :=
  OpenClaim.holds_of_wide 4 Tryz.f4 rfl rfl rfl rfl rfl rfl rfl ⟨rfl, rfl, rfl, rfl, rfl⟩ rfl rfl rfl rfl rfl (by kernel_rfl) Tryz.func4 (by kernel_rfl)
    (of_decide_eq_true (by kernel_rfl)) (by unfold Func.isWrapper; first | (rw [if_pos (by decide +kernel)]; kernel_rfl) | (rw [if_neg (by decide +kernel)]; exact ⟨rfl, rfl⟩))
    (fun os started H enc _ => auditSums_lifted os started H enc)
end Go.Proofs.YtcjoenkpibhmoaaGreatE
namespace Go.Proofs.YtcjoenkpibhmoaaGreat
/-- The row: AuditSums. -/
theorem auditSums_holds : Rows.AuditSumsSaid := YtcjoenkpibhmoaaGreatE.auditSums_over
#print axioms auditSums_holds
end Go.Proofs.YtcjoenkpibhmoaaGreat
