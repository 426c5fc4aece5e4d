/- HistChecks: for every input the law answers true and its arguments read as they did. Conditions: none. -/
import Derived.Test.YtgiofdiifkahoaaGreatRows
import Derived.Test.YtgiofdiifkahoaaGreatXDec18
import Derived.Test.YtgiofdiifkahoaaGreatXHA
set_option linter.unusedVariables false
set_option linter.unusedSimpArgs false
set_option maxRecDepth 100000
namespace Go.Proofs.YtgiofdiifkahoaaGreatE
open Go Go.Proofs Go.Proofs.YtgiofdiifkahoaaGreat Go.ChangeShapes Go.WideShapes Go.ChangeAt Go.RowKit
theorem histChecks_lifted (os : Os) (started : os.Started) (H : Type) (enc : TypeId × Value → H) :
    ReturnsInHanded {} Tryz.checked os 5 .any (Rows.histChecksSpec.pre6 enc Tryz.prog Tryz.f5 Rows.histChecksRow.domain false) (Rows.histChecksSpec.post enc Tryz.prog Tryz.f5 false true false false) := by
  refine returnsInHanded_of_change_sized (C := Tryz.checked) own started (by kernel_rfl) Tryz.func5
    (ChangeSpec.witness6 (enc := enc) (C := Tryz.checked) false ⟨#[], #[.agg #[.int .i64 0, .slice none 0 0, .slice none 0 0, .int .i64 0, .int .i64 0, .int .i64 0, .int .i64 0, .int .i64 0, .int .u32 0, .int .u32 0], .slice none 0 0], []⟩ 8 (by kernel_rfl) (by kernel_rfl) (by kernel_rfl) (by kernel_rfl)) ?_
  intro W base args ds gs before hval0 hW hcnd hsz0 _
  have hval : ∀ (j : Nat) t v, Tryz.f5.params[j]? = some t → args[j]? = some v → Value.okWide Tryz.prog W .any base t v := hval0
  have hW' := hW
  obtain ⟨p, q, hA0, hV, rfl, hfz, hnd⟩ := hW
  have hA : DataW.TrodAll enc Tryz.prog W 0 (fun _ => true) true Tryz.f5.params.toList args.toList ds p := hA0
  rw [Tryz.params5] at hA hval
  obtain ⟨v0, v1, d0, d1, p0, p1, rfl, rfl, rfl, h0, h1⟩ := trodAll_two hA
  obtain ⟨rfl, rfl⟩ := trodVars_none hV
  obtain ⟨P, A, na, ca, B, nb, cb, s, tries, ring, normal, short, rules, vls, hp, hla, hra, hlb, hrb, wf, _⟩ := dec_plan (decW_of_arg h0)
  obtain rfl := agg_of hp (planV_len _ _ _ _ _ _ _ _)
  obtain ⟨C1, n1, c1, rfl⟩ := okWide_slice (e := 81) (by kernel_rfl) (hval 1 _ v1 rfl rfl)
  obtain ⟨C', n', c', e1, hcap1, _, hc⟩ := decW_of_arg (m := 6) h1
  cases e1
  obtain ⟨hes1, hlo1, hro1, wo1⟩ := row_of_dec (enc' := encHe) (sz := 19) (by kernel_rfl) (fun cs h => dec_he h) hc
  exact law_calls (lHChecks_spec hra hla hrb hlb hro1 hlo1 hcap1 wf wo1) laidOut (by kernel_rfl) (by kernel_rfl) Tryz.underlying4 rfl hW' rfl rfl rfl
theorem histChecks_over : Rows.histChecksRow.holds Tryz.pinned (OpenSpec.ofChange Rows.histChecksSpec) :=
  OpenClaim.holds_of_wide 5 Tryz.f5 rfl rfl rfl rfl rfl rfl rfl ⟨rfl, rfl, rfl, rfl, rfl⟩ rfl rfl rfl rfl rfl (by kernel_rfl) Tryz.func5 (by kernel_rfl)
    (of_decide_eq_true (by kernel_rfl)) (by unfold Func.isWrapper; first | (rw [if_pos (by decide +kernel)]; kernel_rfl) | (rw [if_neg (by decide +kernel)]; exact ⟨rfl, rfl⟩))
    (fun os started H enc _ => histChecks_lifted os started H enc)
end Go.Proofs.YtgiofdiifkahoaaGreatE
namespace Go.Proofs.YtgiofdiifkahoaaGreat
/-- The row: HistChecks. -/
theorem histChecks_holds : Rows.HistChecksSaid := YtgiofdiifkahoaaGreatE.histChecks_over
#print axioms histChecks_holds
end Go.Proofs.YtgiofdiifkahoaaGreat
