/- CtlNews: for every input the law answers true and its arguments read as they did. Conditions: none. -/
import Derived.Test.YthoikbogkhpciaaGreatRows
import Derived.Test.YthoikbogkhpciaaGreatXDec17
import Derived.Test.YthoikbogkhpciaaGreatXGN
set_option linter.unusedVariables false
set_option linter.unusedSimpArgs false
set_option maxRecDepth 100000
namespace Go.Proofs.YthoikbogkhpciaaGreatE
open Go Go.Proofs Go.Proofs.YthoikbogkhpciaaGreat Go.ChangeShapes Go.WideShapes Go.ChangeAt Go.RowKit
theorem ctlNews_lifted (os : Os) (started : os.Started) (H : Type) (enc : TypeId × Value → H) :
    ReturnsInHanded {} Tryz.checked os 8 .any (Rows.ctlNewsSpec.pre6 enc Tryz.prog Tryz.f8 Rows.ctlNewsRow.domain false) (Rows.ctlNewsSpec.post enc Tryz.prog Tryz.f8 false true false false) := by
  refine returnsInHanded_of_change_sized (C := Tryz.checked) own started (by kernel_rfl) Tryz.func8
    (ChangeSpec.witness6 (enc := enc) (C := Tryz.checked) false ⟨#[], #[.agg #[.int .i64 0, .slice none 0 0, .slice none 0 0, .int .i64 0, .int .i64 0, .int .i64 0, .int .i64 0, .int .i64 0, .int .u32 0, .int .u32 0], .agg (encO17 op0).toArray, .int .i64 0], []⟩ 8 (by kernel_rfl) (by kernel_rfl) (by kernel_rfl) (by kernel_rfl)) ?_
  intro W base args ds gs before hval0 hW hcnd hsz0 _
  have hval : ∀ (j : Nat) t v, Tryz.f8.params[j]? = some t → args[j]? = some v → Value.okWide Tryz.prog W .any base t v := hval0
  have hW' := hW
  obtain ⟨p, q, hA0, hV, rfl, hfz, hnd⟩ := hW
  have hA : DataW.TrodAll enc Tryz.prog W 0 (fun _ => true) true Tryz.f8.params.toList args.toList ds p := hA0
  rw [Tryz.params8] at hA hval
  obtain ⟨v0, v1, v2, d0, d1, d2, p0, p1, p2, rfl, rfl, rfl, h0, h1, h2⟩ := trodAll_three hA
  obtain ⟨rfl, rfl⟩ := trodVars_none hV
  obtain ⟨P, A, na, ca, B, nb, cb, s, tries, ring, normal, short, rules, vls, hp, hla, hra, hlb, hrb, wf, wv, hna, hca, hnb, hcb⟩ := dec_plan (decW_of_arg h0)
  obtain rfl := agg_of hp (planV_len _ _ _ _ _ _ _ _)
  obtain ⟨o, ho, wo⟩ := dec_op17 (decW_of_arg h1)
  obtain rfl := agg_of ho (show 14 ≠ 1 by decide)
  obtain ⟨x2, rfl⟩ := okWide_int (k := .i64) (by kernel_rfl) (hval 2 _ v2 rfl rfl)
  exact law_calls (lNews_spec hra hla hna hca hrb hlb hnb hcb wf wo.key) laidOut (by kernel_rfl) (by kernel_rfl) Tryz.underlying4 rfl hW' rfl rfl rfl
theorem ctlNews_over : Rows.ctlNewsRow.holds Tryz.pinned (OpenSpec.ofChange Rows.ctlNewsSpec) :=
  OpenClaim.holds_of_wide 8 Tryz.f8 rfl rfl rfl rfl rfl rfl rfl ⟨rfl, rfl, rfl, rfl, rfl⟩ rfl rfl rfl rfl rfl (by kernel_rfl) Tryz.func8 (by kernel_rfl)
    (of_decide_eq_true (by kernel_rfl)) (by unfold Func.isWrapper; first | (rw [if_pos (by decide +kernel)]; kernel_rfl) | (rw [if_neg (by decide +kernel)]; exact ⟨rfl, rfl⟩))
    (fun os started H enc _ => ctlNews_lifted os started H enc)
end Go.Proofs.YthoikbogkhpciaaGreatE
namespace Go.Proofs.YthoikbogkhpciaaGreat
/-- The row: CtlNews. -/
theorem ctlNews_holds : Rows.CtlNewsSaid := YthoikbogkhpciaaGreatE.ctlNews_over
#print axioms ctlNews_holds
end Go.Proofs.YthoikbogkhpciaaGreat
