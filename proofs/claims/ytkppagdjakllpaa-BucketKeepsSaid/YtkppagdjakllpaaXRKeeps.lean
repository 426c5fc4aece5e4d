/- BucketKeeps: for every bucket, station, tick and filter the law answers true and its arguments read as they did. Conditions: none. -/
import Derived.Test.YtkppagdjakllpaaRows
import Derived.Test.YtkppagdjakllpaaXDec10
set_option linter.unusedVariables false
set_option linter.unusedSimpArgs false
set_option maxRecDepth 100000
namespace Go.Proofs.YtkppagdjakllpaaE
open Go Go.Proofs Go.Proofs.Ytkppagdjakllpaa Go.ChangeShapes Go.WideShapes Go.ChangeAt Go.RowKit
theorem keeps_lifted (os : Os) (started : os.Started) (H : Type) (enc : TypeId × Value → H) :
    ReturnsInHanded {} Try.checked os 6 .any (Rows.bucketKeepsSpec.pre6 enc Try.prog Try.f6 Rows.bucketKeepsRow.domain false) (Rows.bucketKeepsSpec.post enc Try.prog Try.f6 false true false false) := by
  refine returnsInHanded_of_change_sized (C := Try.checked) own started (by kernel_rfl) Try.func6
    (ChangeSpec.witness6 (enc := enc) (C := Try.checked) false ⟨#[], #[.slice none 0 0, .agg #[.int .i64 0, .int .u64 0, .int .i64 0, .int .u32 0], .agg #[.int .i64 0, .int .i64 0]], []⟩ 8 (by kernel_rfl) (by kernel_rfl) (by kernel_rfl) (by kernel_rfl)) ?_
  intro W base args ds gs before hval0 hW hcnd hsz0 _
  have hval : ∀ (j : Nat) t v, Try.f6.params[j]? = some t → args[j]? = some v → Value.okWide Try.prog W .any base t v := hval0
  have hsz1 : (DataW.weightsEach Try.prog (Try.f6.params.toList ++ Rows.bucketKeepsSpec.plain.varTypes Try.prog) (ds ++ gs)).all (· ≤ reachBytes) = true := hsz0
  have hW' := hW
  obtain ⟨p, q, hA0, hV, rfl, hfz, hnd⟩ := hW
  have hA : DataW.TrodAll enc Try.prog W 0 (fun _ => true) true Try.f6.params.toList args.toList ds p := hA0
  rw [Try.params6] at hA hval hsz1
  obtain ⟨v0, v1, v2, d0, d1, d2, p0, p1, p2, rfl, rfl, rfl, h0, h1, h2⟩ := trodAll_three hA
  obtain ⟨rfl, rfl⟩ := trodVars_none hV
  obtain ⟨A, n, c, rfl⟩ := okWide_slice (e := 51) (by kernel_rfl) (hval 0 _ v0 rfl rfl)
  obtain ⟨xs, hl, hr, wf, _, _, hsz⟩ := row_of_trod (by kernel_rfl) (by kernel_rfl) (fun cs h => dec_place h) h0
  obtain ⟨vid, mac, port, now, hcs, kwf, a0, a1⟩ := dec_seen (dec_of_arg h1)
  obtain rfl := agg_of hcs (by show (4 : Nat) ≠ 1; omega)
  obtain ⟨fport, fvid, hcs2⟩ := dec_filt (dec_of_arg h2)
  obtain rfl := agg_of hcs2 (by show (2 : Nat) ≠ 1; omega)
  have hsz := hsz (j := 0) hsz1 rfl rfl
  rw [placeBytes] at hsz
  exact law_calls (lKeeps_spec hr wf kwf hl (by omega)) laidOut (by kernel_rfl) (by kernel_rfl) Try.underlying4 rfl hW' rfl rfl rfl
theorem keeps_over : Rows.bucketKeepsRow.holds Try.pinned (OpenSpec.ofChange Rows.bucketKeepsSpec) :=
  OpenClaim.holds_of_wide 6 Try.f6 rfl rfl rfl rfl rfl rfl rfl ⟨rfl, rfl, rfl, rfl, rfl⟩ rfl rfl rfl rfl rfl (by kernel_rfl) Try.func6 (by kernel_rfl)
    (of_decide_eq_true (by kernel_rfl)) (by unfold Func.isWrapper; first | (rw [if_pos (by decide +kernel)]; kernel_rfl) | (rw [if_neg (by decide +kernel)]; exact ⟨rfl, rfl⟩))
    (fun os started H enc _ => keeps_lifted os started H enc)
end Go.Proofs.YtkppagdjakllpaaE
namespace Go.Proofs.Ytkppagdjakllpaa
/-- The row: BucketKeeps. -/
theorem bucketKeeps_holds : Rows.BucketKeepsSaid := YtkppagdjakllpaaE.keeps_over
#print axioms bucketKeeps_holds
end Go.Proofs.Ytkppagdjakllpaa
