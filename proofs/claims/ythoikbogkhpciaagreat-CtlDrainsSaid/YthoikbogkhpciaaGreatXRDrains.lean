/- CtlDrains: for every input the law answers true and its arguments read as they did. Conditions: none. -/
import Derived.Test.YthoikbogkhpciaaGreatRows
import Derived.Test.YthoikbogkhpciaaGreatXDec17
import Derived.Test.YthoikbogkhpciaaGreatXGI
set_option linter.unusedVariables false
set_option linter.unusedSimpArgs false
set_option maxRecDepth 100000
namespace Go.Proofs.YthoikbogkhpciaaGreatE
open Go Go.Proofs Go.Proofs.YthoikbogkhpciaaGreat Go.ChangeShapes Go.WideShapes Go.ChangeAt Go.RowKit
theorem dec_i2 {W : World} {cs : List Value} (h : DecW Tryz.prog W 4 87 cs) : ∃ z : Int × Int, cs = encI2 z ∧ True := by
  obtain ⟨hl, hf⟩ := h
  have hl : cs.length = 2 := hl
  match cs, hl, hf with
  | [a, b], _, hf =>
    obtain ⟨x, h0, w0⟩ := hf 0 (by decide)
    obtain ⟨y, h1, w1⟩ := hf 1 (by decide)
    have h0 : [a] = [Value.int .i64 x] := h0
    have h1 : [b] = [Value.int .i64 y] := h1
    cases h0; cases h1
    exact ⟨(x, y), rfl, trivial⟩
theorem ctlDrains_lifted (os : Os) (started : os.Started) (H : Type) (enc : TypeId × Value → H) :
    ReturnsInHanded {} Tryz.checked os 7 .any (Rows.ctlDrainsSpec.pre6 enc Tryz.prog Tryz.f7 Rows.ctlDrainsRow.domain false) (Rows.ctlDrainsSpec.post enc Tryz.prog Tryz.f7 false true false false) := by
  refine returnsInHanded_of_change_sized (C := Tryz.checked) own started (by kernel_rfl) Tryz.func7
    (ChangeSpec.witness6 (enc := enc) (C := Tryz.checked) false ⟨#[], #[.agg #[.int .i64 0, .slice none 0 0, .slice none 0 0, .int .i64 0, .int .i64 0, .int .i64 0, .int .i64 0, .int .i64 0, .int .u32 0, .int .u32 0], .slice none 0 0, .agg #[.int .i64 0, .int .i64 0]], []⟩ 8 (by kernel_rfl) (by kernel_rfl) (by kernel_rfl) (by kernel_rfl)) ?_
  intro W base args ds gs before hval0 hW hcnd hsz0 _
  have hval : ∀ (j : Nat) t v, Tryz.f7.params[j]? = some t → args[j]? = some v → Value.okWide Tryz.prog W .any base t v := hval0
  have hW' := hW
  obtain ⟨p, q, hA0, hV, rfl, hfz, hnd⟩ := hW
  have hA : DataW.TrodAll enc Tryz.prog W 0 (fun _ => true) true Tryz.f7.params.toList args.toList ds p := hA0
  rw [Tryz.params7] at hA hval
  obtain ⟨v0, v1, v2, d0, d1, d2, p0, p1, p2, rfl, rfl, rfl, h0, h1, h2⟩ := trodAll_three hA
  obtain ⟨rfl, rfl⟩ := trodVars_none hV
  obtain ⟨P, A, na, ca, B, nb, cb, s, tries, ring, normal, short, rules, vls, hp, hla, hra, hlb, hrb, wf, _⟩ := dec_plan (decW_of_arg h0)
  obtain rfl := agg_of hp (planV_len _ _ _ _ _ _ _ _)
  obtain ⟨C1, n1, c1, rfl⟩ := okWide_slice (e := 87) (by kernel_rfl) (hval 1 _ v1 rfl rfl)
  obtain ⟨C', n', c', e1, _, _, hc⟩ := decW_of_arg (m := 5) h1
  cases e1
  obtain ⟨prs1, hlo1, hro1, ws1⟩ := row_of_dec (enc' := encI2) (Wf := fun _ => True) (sz := 2) (by kernel_rfl) (fun cs h => dec_i2 h) hc
  obtain ⟨z, hz, _⟩ := dec_i2 (decW_of_arg h2)
  obtain rfl := agg_of hz (show 2 ≠ 1 by decide)
  exact law_calls (lDrains_spec hra hla hrb hlb hro1 hlo1 wf) laidOut (by kernel_rfl) (by kernel_rfl) Tryz.underlying4 rfl hW' rfl rfl rfl
theorem ctlDrains_over : Rows.ctlDrainsRow.holds Tryz.pinned (OpenSpec.ofChange Rows.ctlDrainsSpec) :=
  OpenClaim.holds_of_wide 7 Tryz.f7 rfl rfl rfl rfl rfl rfl rfl ⟨rfl, rfl, rfl, rfl, rfl⟩ rfl rfl rfl rfl rfl (by kernel_rfl) Tryz.func7 (by kernel_rfl)
    (of_decide_eq_true (by kernel_rfl)) (by unfold Func.isWrapper; first | (rw [if_pos (by decide +kernel)]; kernel_rfl) | (rw [if_neg (by decide +kernel)]; exact ⟨rfl, rfl⟩))
    (fun os started H enc _ => ctlDrains_lifted os started H enc)
end Go.Proofs.YthoikbogkhpciaaGreatE
namespace Go.Proofs.YthoikbogkhpciaaGreat
/-- The row: CtlDrains. -/
theorem ctlDrains_holds : Rows.CtlDrainsSaid := YthoikbogkhpciaaGreatE.ctlDrains_over
#print axioms ctlDrains_holds
end Go.Proofs.YthoikbogkhpciaaGreat
