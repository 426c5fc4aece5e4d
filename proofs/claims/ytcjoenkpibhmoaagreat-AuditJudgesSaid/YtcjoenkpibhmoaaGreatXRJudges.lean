/- AuditJudges: for every input the law answers true and its arguments read as they did. Conditions: none. -/
import Derived.Test.YtcjoenkpibhmoaaGreatRows
import Derived.Test.YtcjoenkpibhmoaaGreatXDec23
import Derived.Test.YtcjoenkpibhmoaaGreatXJB
set_option linter.unusedVariables false
set_option linter.unusedSimpArgs false
set_option maxRecDepth 100000
namespace Go.Proofs.YtcjoenkpibhmoaaGreatE
open Go Go.Proofs Go.Proofs.YtcjoenkpibhmoaaGreat Go.ChangeShapes Go.WideShapes Go.ChangeAt Go.RowKit
theorem auditJudges_lifted (os : Os) (started : os.Started) (H : Type) (enc : TypeId × Value → H) :
    ReturnsInHanded {} Tryz.checked os 3 .any (Rows.auditJudgesSpec.pre6 enc Tryz.prog Tryz.f3 Rows.auditJudgesRow.domain false) (Rows.auditJudgesSpec.post enc Tryz.prog Tryz.f3 false true false false) := by
  refine returnsInHanded_of_change_sized (C := Tryz.checked) own started (by kernel_rfl) Tryz.func3
    (ChangeSpec.witness6 (enc := enc) (C := Tryz.checked) false ⟨#[], #[.agg #[.int .i64 0, .slice none 0 0, .slice none 0 0, .int .i64 0, .int .i64 0, .int .i64 0, .int .i64 0, .int .i64 0, .int .u32 0, .int .u32 0, .slice none 0 0, .slice none 0 0, .slice none 0 0, .slice none 0 0, .slice none 0 0]], []⟩ 8 (by kernel_rfl) (by kernel_rfl) (by kernel_rfl) (by kernel_rfl)) ?_
  intro W base args ds gs before hval0 hW hcnd hsz0 _
  have hval : ∀ (j : Nat) t v, Tryz.f3.params[j]? = some t → args[j]? = some v → Value.okWide Tryz.prog W .any base t v := hval0
  have hW' := hW
  obtain ⟨p, q, hA0, hV, rfl, hfz, hnd⟩ := hW
  have hA : DataW.TrodAll enc Tryz.prog W 0 (fun _ => true) true Tryz.f3.params.toList args.toList ds p := hA0
  rw [Tryz.params3] at hA hval
  obtain ⟨v0, d0, rfl, rfl, h0⟩ := trodAll_one hA
  obtain ⟨rfl, rfl⟩ := trodVars_none hV
  obtain ⟨r, P, A, na, ca, B, nb, cb, s, tries, ring, normal, short, rules, vls, hp, R, hkn, hpl, hla, hra, hlb, hrb, wf⟩ := dec_rp (decW_of_arg h0)
  obtain rfl := agg_of hp (by show (15 : Nat) ≠ 1; omega)
  exact law_calls (lJudges_spec R hkn hpl hra hla hrb hlb wf) laidOut (by kernel_rfl) (by kernel_rfl) Tryz.underlying4 rfl hW' rfl rfl rfl
theorem auditJudges_over : Rows.auditJudgesRow.holds Tryz.pinned (OpenSpec.ofChange Rows.auditJudgesSpec) :=
  OpenClaim.holds_of_wide 3 Tryz.f3 rfl rfl rfl rfl rfl rfl rfl ⟨rfl, rfl, rfl, rfl, rfl⟩ rfl rfl rfl rfl rfl (by kernel_rfl) Tryz.func3 (by kernel_rfl)
    (of_decide_eq_true (by kernel_rfl)) (by unfold Func.isWrapper; first | (rw [if_pos (by decide +kernel)]; kernel_rfl) | (rw [if_neg (by decide +kernel)]; exact ⟨rfl, rfl⟩))
    (fun os started H enc _ => auditJudges_lifted os started H enc)
end Go.Proofs.YtcjoenkpibhmoaaGreatE
namespace Go.Proofs.YtcjoenkpibhmoaaGreat
/-- The row: AuditJudges. -/
theorem auditJudges_holds : Rows.AuditJudgesSaid := YtcjoenkpibhmoaaGreatE.auditJudges_over
#print axioms auditJudges_holds
end Go.Proofs.YtcjoenkpibhmoaaGreat
