/- ModelSends: for every plan, whatever is done, and each VLAN the law answers true and its arguments read as they did. Conditions: none. -/
import Derived.Test.YtgiofdiifkahoaaRows
import Derived.Test.YtgiofdiifkahoaaXDec17
import Derived.Test.YtgiofdiifkahoaaXP5
set_option linter.unusedVariables false
set_option linter.unusedSimpArgs false
set_option maxRecDepth 100000
namespace Go.Proofs.YtgiofdiifkahoaaE
open Go Go.Proofs Go.Proofs.Ytgiofdiifkahoaa Go.ChangeShapes Go.WideShapes Go.ChangeAt Go.RowKit
theorem sends_lifted (os : Os) (started : os.Started) (H : Type) (enc : TypeId × Value → H) :
    ReturnsInHanded {} Try.checked os 5 .any (Rows.modelSendsSpec.pre6 enc Try.prog Try.f5 Rows.modelSendsRow.domain false) (Rows.modelSendsSpec.post enc Try.prog Try.f5 false true false false) := by
  refine returnsInHanded_of_change_sized (C := Try.checked) own started (by kernel_rfl) Try.func5
    (ChangeSpec.witness6 (enc := enc) (C := Try.checked) false ⟨#[], #[.agg #[.int .i64 0, .slice none 0 0, .slice none 0 0, .int .i64 0, .int .i64 0, .int .i64 0, .int .i64 0, .int .i64 0, .int .u32 0, .int .u32 0], .slice none 0 0, .int .i64 0], []⟩ 8 (by kernel_rfl) (by kernel_rfl) (by kernel_rfl) (by kernel_rfl)) ?_
  intro W base args ds gs before hval0 hW hcnd hsz0 _
  have hval : ∀ (j : Nat) t v, Try.f5.params[j]? = some t → args[j]? = some v → Value.okWide Try.prog W .any base t v := hval0
  have hW' := hW
  obtain ⟨p, q, hA0, hV, rfl, hfz, hnd⟩ := hW
  have hA : DataW.TrodAll enc Try.prog W 0 (fun _ => true) true Try.f5.params.toList args.toList ds p := hA0
  rw [Try.params5] at hA hval
  obtain ⟨v0, v1, v2, d0, d1, d2, p0, p1, p2, rfl, rfl, rfl, h0, h1, h2⟩ := trodAll_three hA
  obtain ⟨rfl, rfl⟩ := trodVars_none hV
  obtain ⟨P, A, na, ca, B, nb, cb, s, tries, ring, normal, short, rules, vls, hp, hla, hra, hlb, hrb, wf, _⟩ := dec_plan (decW_of_arg h0)
  obtain rfl := agg_of hp (planV_len _ _ _ _ _ _ _ _)
  obtain ⟨C, n, c, rfl⟩ := okWide_slice (e := 48) (by kernel_rfl) (hval 1 _ v1 rfl rfl)
  obtain ⟨C', n', c', e1, _, _, hc⟩ := decW_of_arg (m := 5) h1
  cases e1
  obtain ⟨ops, hlo, hro, wo⟩ := row_of_dec (enc' := encO17) (sz := 14) (by kernel_rfl) (fun cs h => dec_op17 h) hc
  obtain ⟨x, rfl⟩ := okWide_int (k := .i64) (by kernel_rfl) (hval 2 _ v2 rfl rfl)
  exact law_calls (lSends_spec hra hla hrb hlb hro hlo wf wo) laidOut (by kernel_rfl) (by kernel_rfl) Try.underlying4 rfl hW' rfl rfl rfl
theorem sends_over : Rows.modelSendsRow.holds Try.pinned (OpenSpec.ofChange Rows.modelSendsSpec) :=
  OpenClaim.holds_of_wide 5 Try.f5 rfl rfl rfl rfl rfl rfl rfl ⟨rfl, rfl, rfl, rfl, rfl⟩ rfl rfl rfl rfl rfl (by kernel_rfl) Try.func5 (by kernel_rfl)
    (of_decide_eq_true (by kernel_rfl)) (by unfold Func.isWrapper; first | (rw [if_pos (by decide +kernel)]; kernel_rfl) | (rw [if_neg (by decide +kernel)]; exact ⟨rfl, rfl⟩))
    (fun os started H enc _ => sends_lifted os started H enc)
end Go.Proofs.YtgiofdiifkahoaaE
namespace Go.Proofs.Ytgiofdiifkahoaa
/-- The row: ModelSends. -/
theorem modelSends_holds : Rows.ModelSendsSaid := YtgiofdiifkahoaaE.sends_over
#print axioms modelSends_holds
end Go.Proofs.Ytgiofdiifkahoaa
