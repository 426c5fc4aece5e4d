/- BucketEvicts: for all stamps, keys and ticks the law answers true and its arguments read as they did. Conditions: none. -/
import Derived.Test.YtkppagdjakllpaaRows
import Derived.Test.YtkppagdjakllpaaXDec10
import Derived.Test.YtkppagdjakllpaaXA6
set_option linter.unusedVariables false
set_option linter.unusedSimpArgs false
set_option maxRecDepth 100000
namespace Go.Proofs.YtkppagdjakllpaaE
open Go Go.Proofs Go.Proofs.Ytkppagdjakllpaa Go.ChangeShapes Go.WideShapes Go.ChangeAt Go.RowKit
theorem dec_u32 {cs : List Value} (h : Dec Try.prog 1 26 cs) : ∃ z : Int, cs = encU z ∧ 0 ≤ z ∧ z < 4294967296 := by
  obtain ⟨z, h1, w1⟩ := h
  exact ⟨z, h1, wf_u32 w1⟩
theorem dec_key {cs : List Value} (h : Dec Try.prog 4 25 cs) : ∃ vid mac : Int, cs = [.int .i64 vid, .int .u64 mac] ∧ KeyWf vid mac := by
  obtain ⟨hl, hf⟩ := h
  have hl : cs.length = 2 := hl
  match cs, hl, hf with
  | [a, b], _, hf =>
    obtain ⟨⟨vid, h1, w1⟩, ⟨mac, h2, w2⟩, _⟩ := hf
    have h1 : [a] = [Value.int .i64 vid] := h1
    have h2 : [b] = [Value.int .u64 mac] := h2
    cases h1; cases h2
    have w1 := wf_i64 w1
    have w2 := wf_u64 w2
    exact ⟨vid, mac, rfl, ⟨w1.1, w1.2, w2.1, w2.2⟩⟩
theorem evicts_lifted (os : Os) (started : os.Started) (H : Type) (enc : TypeId × Value → H) :
    ReturnsInHanded {} Try.checked os 4 .any (Rows.bucketEvictsSpec.pre6 enc Try.prog Try.f4 Rows.bucketEvictsRow.domain false) (Rows.bucketEvictsSpec.post enc Try.prog Try.f4 false true false false) := by
  refine returnsInHanded_of_change_sized (C := Try.checked) own started (by kernel_rfl) Try.func4
    (ChangeSpec.witness6 (enc := enc) (C := Try.checked) false ⟨#[], #[.slice none 0 0, .agg #[.int .i64 0, .int .u64 0], .int .u32 0], []⟩ 8 (by kernel_rfl) (by kernel_rfl) (by kernel_rfl) (by kernel_rfl)) ?_
  intro W base args ds gs before hval0 hW hcnd hsz0 _
  have hval : ∀ (j : Nat) t v, Try.f4.params[j]? = some t → args[j]? = some v → Value.okWide Try.prog W .any base t v := hval0
  have hsz1 : (DataW.weightsEach Try.prog (Try.f4.params.toList ++ Rows.bucketEvictsSpec.plain.varTypes Try.prog) (ds ++ gs)).all (· ≤ reachBytes) = true := hsz0
  have hW' := hW
  obtain ⟨p, q, hA0, hV, rfl, hfz, hnd⟩ := hW
  have hA : DataW.TrodAll enc Try.prog W 0 (fun _ => true) true Try.f4.params.toList args.toList ds p := hA0
  rw [Try.params4] at hA hval hsz1
  obtain ⟨v0, v1, v2, d0, d1, d2, p0, p1, p2, rfl, rfl, rfl, h0, h1, h2⟩ := trodAll_three hA
  obtain ⟨rfl, rfl⟩ := trodVars_none hV
  obtain ⟨A, n, c, rfl⟩ := okWide_slice (e := 26) (by kernel_rfl) (hval 0 _ v0 rfl rfl)
  obtain ⟨xs, hl, hr, wf, hnc, _, hsz⟩ := row_of_trod (by kernel_rfl) (by kernel_rfl) (fun cs h => dec_u32 h) h0
  obtain ⟨vid, mac, hcs, kwf⟩ := dec_key (dec_of_arg h1)
  obtain rfl := agg_of hcs (by show (2 : Nat) ≠ 1; omega)
  obtain ⟨now, rfl, rfl, rfl, wn⟩ := open_int (k := .u32) (by kernel_rfl) (hval 2 _ v2 rfl rfl) h2
  have wn := wf_u32 wn
  have hsz := hsz (j := 0) hsz1 rfl rfl
  have hb : Try.prog.bytesOf 26 = 4 := by kernel_rfl
  rw [hb] at hsz
  exact law_calls (lEvicts_spec hr wf kwf wn.1 wn.2 hl (by omega) hnc) laidOut (by kernel_rfl) (by kernel_rfl) Try.underlying4 rfl hW' rfl rfl rfl
theorem evicts_over : Rows.bucketEvictsRow.holds Try.pinned (OpenSpec.ofChange Rows.bucketEvictsSpec) :=
  OpenClaim.holds_of_wide 4 Try.f4 rfl rfl rfl rfl rfl rfl rfl ⟨rfl, rfl, rfl, rfl, rfl⟩ rfl rfl rfl rfl rfl (by kernel_rfl) Try.func4 (by kernel_rfl)
    (of_decide_eq_true (by kernel_rfl)) (by unfold Func.isWrapper; first | (rw [if_pos (by decide +kernel)]; kernel_rfl) | (rw [if_neg (by decide +kernel)]; exact ⟨rfl, rfl⟩))
    (fun os started H enc _ => evicts_lifted os started H enc)
end Go.Proofs.YtkppagdjakllpaaE
namespace Go.Proofs.Ytkppagdjakllpaa
/-- The row: BucketEvicts. -/
theorem bucketEvicts_holds : Rows.BucketEvictsSaid := YtkppagdjakllpaaE.evicts_over
#print axioms bucketEvicts_holds
end Go.Proofs.Ytkppagdjakllpaa
