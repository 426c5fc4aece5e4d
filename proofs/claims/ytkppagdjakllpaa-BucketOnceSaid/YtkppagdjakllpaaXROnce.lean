/- BucketOnce: for every number of places and every list of what is seen the law answers true and its arguments read as they did. Conditions: none. -/
import Derived.Test.YtkppagdjakllpaaRows
import Derived.Test.YtkppagdjakllpaaXDec10
import Derived.Test.YtkppagdjakllpaaXA7
set_option linter.unusedVariables false
set_option linter.unusedSimpArgs false
set_option maxRecDepth 100000
namespace Go.Proofs.YtkppagdjakllpaaE
open Go Go.Proofs Go.Proofs.Ytkppagdjakllpaa Go.ChangeShapes Go.WideShapes Go.ChangeAt Go.RowKit
theorem dec_seen' {cs : List Value} (h : Dec Try.prog 4 28 cs) : ∃ s : Seen, cs = encS s ∧ KeyWf s.vid s.mac := by
  obtain ⟨vid, mac, port, now, e, k, _⟩ := dec_seen h
  exact ⟨⟨vid, mac, port, now⟩, e, k⟩
theorem seenBytes : Try.prog.bytesOf 28 = 32 := by kernel_rfl
theorem once_lifted (os : Os) (started : os.Started) (H : Type) (enc : TypeId × Value → H) :
    ReturnsInHanded {} Try.checked os 8 .any (Rows.bucketOnceSpec.pre6 enc Try.prog Try.f8 Rows.bucketOnceRow.domain false) (Rows.bucketOnceSpec.post enc Try.prog Try.f8 false true false false) := by
  refine returnsInHanded_of_change_sized (C := Try.checked) own started (by kernel_rfl) Try.func8
    (ChangeSpec.witness6 (enc := enc) (C := Try.checked) false ⟨#[], #[.int .i64 0, .slice none 0 0], []⟩ 8 (by kernel_rfl) (by kernel_rfl) (by kernel_rfl) (by kernel_rfl)) ?_
  intro W base args ds gs before hval0 hW hcnd hsz0 _
  have hval : ∀ (j : Nat) t v, Try.f8.params[j]? = some t → args[j]? = some v → Value.okWide Try.prog W .any base t v := hval0
  have hsz1 : (DataW.weightsEach Try.prog (Try.f8.params.toList ++ Rows.bucketOnceSpec.plain.varTypes Try.prog) (ds ++ gs)).all (· ≤ reachBytes) = true := hsz0
  have hW' := hW
  obtain ⟨p, q, hA0, hV, rfl, hfz, hnd⟩ := hW
  have hA : DataW.TrodAll enc Try.prog W 0 (fun _ => true) true Try.f8.params.toList args.toList ds p := hA0
  rw [Try.params8] at hA hval hsz1
  obtain ⟨v0, v1, d0, d1, p0, p1, rfl, rfl, rfl, h0, h1⟩ := trodAll_two hA
  obtain ⟨rfl, rfl⟩ := trodVars_none hV
  obtain ⟨places, rfl, rfl, rfl, wn⟩ := open_int (k := .i64) (by kernel_rfl) (hval 0 _ v0 rfl rfl) h0
  obtain ⟨A, n, c, rfl⟩ := okWide_slice (e := 28) (by kernel_rfl) (hval 1 _ v1 rfl rfl)
  obtain ⟨xs, hl, hr, wf, hnc, _, hsz⟩ := row_of_trod (by kernel_rfl) (by kernel_rfl) (fun cs h => dec_seen' h) h1
  have hsz := hsz (j := 1) hsz1 rfl rfl
  rw [seenBytes] at hsz
  exact law_calls (lOnce_spec hr wf hl (by omega)) laidOut (by kernel_rfl) (by kernel_rfl) Try.underlying4 rfl hW' rfl rfl rfl
theorem once_over : Rows.bucketOnceRow.holds Try.pinned (OpenSpec.ofChange Rows.bucketOnceSpec) :=
  OpenClaim.holds_of_wide 8 Try.f8 rfl rfl rfl rfl rfl rfl rfl ⟨rfl, rfl, rfl, rfl, rfl⟩ rfl rfl rfl rfl rfl (by kernel_rfl) Try.func8 (by kernel_rfl)
    (of_decide_eq_true (by kernel_rfl)) (by unfold Func.isWrapper; first | (rw [if_pos (by decide +kernel)]; kernel_rfl) | (rw [if_neg (by decide +kernel)]; exact ⟨rfl, rfl⟩))
    (fun os started H enc _ => once_lifted os started H enc)
end Go.Proofs.YtkppagdjakllpaaE
namespace Go.Proofs.Ytkppagdjakllpaa
/-- The row: BucketOnce. -/
theorem bucketOnce_holds : Rows.BucketOnceSaid := YtkppagdjakllpaaE.once_over
#print axioms bucketOnce_holds
end Go.Proofs.Ytkppagdjakllpaa
