/- What the document's book answers. Conditions: the arguments are of their types. -/
import Derived.Test.YthoikbogkhpciaaGreatDoorXB2
set_option linter.unusedVariables false
set_option linter.unusedSimpArgs false
set_option maxRecDepth 100000
namespace Go.Proofs.YthoikbogkhpciaaGreatDoorE
open Go Go.Proofs
section
variable {base b tb : Nat} {s : Sz} {L : List (List Place)} {h : Heap}
theorem ix_wrap (o : s.Ok) (vid mac : Int) : IntKind.i64.wrap (IntKind.i64.wrap ((placeM vid mac s.sh s.bk).1 * s.bk) + (placeM vid mac s.sh s.bk).2) = ixM s vid mac := by
  have p := placeM_range (vid := vid) (mac := mac) o.sh1 o.bk1
  have m := mul_in p.1 p.2.1 p.2.2.1 p.2.2.2
  have mm := o.many
  have : 0 ≤ (placeM vid mac s.sh s.bk).1 * s.bk := Int.mul_nonneg p.1 (by omega)
  rw [wrap_i64 (x := (placeM vid mac s.sh s.bk).1 * s.bk) (by omega) (by omega), wrap_i64 (by omega) (by omega)]; rfl
end
end Go.Proofs.YthoikbogkhpciaaGreatDoorE
/- What the document's book answers: all entries, a copy, a new one; sizes. Conditions: the arguments are of their types. -/
set_option linter.unusedVariables false
set_option linter.unusedSimpArgs false
set_option maxRecDepth 100000
namespace Go.Proofs.YthoikbogkhpciaaGreatDoorE
open Go Go.Proofs
section
variable {base b tb : Nat} {s : Sz} {L : List (List Place)} {h : Heap}
def fixSz (s : Sz) : Sz := ⟨1 + s.sh % 18446744073709551616 % 8, 1 + s.bk % 18446744073709551616 % 16, 1 + s.sl % 18446744073709551616 % 8⟩
theorem fixSz_ok (s : Sz) : (fixSz s).Ok := by
  refine ⟨?_, ?_, ?_, ?_, ?_, ?_⟩ <;> simp only [fixSz] <;> omega
theorem fix_eq (p d : Int) (hd : 1 ≤ d) (h2 : d ≤ 16) : IntKind.i64.wrap (1 + IntKind.i64.wrap ((IntKind.u64.wrap p).tmod d)) = 1 + p % 18446744073709551616 % d := by
  have h3 := Int.emod_lt_of_pos (p % 18446744073709551616) (show 0 < d by omega)
  have h4 := Int.emod_nonneg (p % 18446744073709551616) (show d ≠ 0 by omega)
  rw [IntKind.wrap_u64, Int.tmod_eq_emod_of_nonneg (by omega), wrap_i64 (x := p % 18446744073709551616 % d) (by omega) (by omega), wrap_i64 (by omega) (by omega)]
theorem rbFix_spec (s : Sz) : HCalls Tryz.prog 21 #[.agg #[.int .i64 s.sh, .int .i64 s.bk, .int .i64 s.sl]] h (fun v h' => v = .agg #[.int .i64 (fixSz s).sh, .int .i64 (fixSz s).bk, .int .i64 (fixSz s).sl] ∧ Ext h h') := by
  refine xcalls env0 Tryz.func21 rfl (by kernel_rfl) rfl (by kernel_rfl) ?_
  intro zb h1 n1 rb h2 n2
  have hz := n2.ext.blk n1.this
  refine ⟨_, cell_blk hz rfl, by decide, _, cell_blk hz rfl, by decide, _, cell_blk hz rfl, by decide, rfl, rfl, canset_blk n2.this rfl, fun h3 s3 => ?_⟩
  have s3' : Stored h2 ⟨rb, 0, none⟩ [.int .i64 (IntKind.i64.wrap (1 + IntKind.i64.wrap ((IntKind.u64.wrap s.sh).tmod 8))), .int .i64 (IntKind.i64.wrap (1 + IntKind.i64.wrap ((IntKind.u64.wrap s.bk).tmod 16))), .int .i64 (IntKind.i64.wrap (1 + IntKind.i64.wrap ((IntKind.u64.wrap s.sl).tmod 8)))] h3 := s3
  rw [fix_eq _ 8 (by decide) (by decide), fix_eq _ 16 (by decide) (by decide), fix_eq _ 8 (by decide) (by decide)] at s3'
  have hr : h3[rb]? = some (.cells [.int .i64 (fixSz s).sh, .int .i64 (fixSz s).bk, .int .i64 (fixSz s).sl].toArray 29 (0, 0)) := s3'.put n2.this
  exact ⟨_, rfl, reads_all hr, rfl, (n1.ext.trans n2.ext).stored s3 (n2.ge n1.ext)⟩
theorem rbRight_spec (s : Sz) : HCalls Tryz.prog 56 #[.agg #[.int .i64 s.sh, .int .i64 s.bk, .int .i64 s.sl]] h (fun v h' => v = .bool (rightM s) ∧ Ext h h') := by
  refine xcalls env0 Tryz.func56 rfl (by kernel_rfl) rfl (by kernel_rfl) ?_
  intro zb h1 n1
  have hz := n1.this
  refine ⟨_, cell_blk hz rfl, xif_of (fun q1 => ?_) (fun q1 => ?_)⟩
  · have q1 : s.sh ≥ 1 := of_decide_eq_true q1
    refine ⟨_, cell_blk hz rfl, xif_of (fun q2 => ?_) (fun q2 => ?_)⟩
    · have q2 : s.sh ≤ 8 := of_decide_eq_true q2
      refine ⟨_, cell_blk hz rfl, xif_of (fun q3 => ?_) (fun q3 => ?_)⟩
      · have q3 : s.bk ≥ 1 := of_decide_eq_true q3
        refine ⟨_, cell_blk hz rfl, xif_of (fun q4 => ?_) (fun q4 => ?_)⟩
        · have q4 : s.bk ≤ 16 := of_decide_eq_true q4
          refine ⟨_, cell_blk hz rfl, xif_of (fun q5 => ?_) (fun q5 => ?_)⟩
          · have q5 : s.sl ≥ 1 := of_decide_eq_true q5
            refine ⟨_, cell_blk hz rfl, ?_⟩
            exact ⟨congrArg Value.bool (by rw [Bool.eq_iff_iff]; simp [rightM]; omega), n1.ext⟩
          · have q5 : ¬ s.sl ≥ 1 := of_decide_eq_false q5
            exact ⟨congrArg Value.bool (by rw [Bool.eq_iff_iff]; simp [rightM]; omega), n1.ext⟩
        · have q4 : ¬ s.bk ≤ 16 := of_decide_eq_false q4
          exact ⟨congrArg Value.bool (by rw [Bool.eq_iff_iff]; simp [rightM]; omega), n1.ext⟩
      · have q3 : ¬ s.bk ≥ 1 := of_decide_eq_false q3
        exact ⟨congrArg Value.bool (by rw [Bool.eq_iff_iff]; simp [rightM]; omega), n1.ext⟩
    · have q2 : ¬ s.sh ≤ 8 := of_decide_eq_false q2
      exact ⟨congrArg Value.bool (by rw [Bool.eq_iff_iff]; simp [rightM]; omega), n1.ext⟩
  · have q1 : ¬ s.sh ≥ 1 := of_decide_eq_false q1
    exact ⟨congrArg Value.bool (by rw [Bool.eq_iff_iff]; simp [rightM]; omega), n1.ext⟩
end
end Go.Proofs.YthoikbogkhpciaaGreatDoorE
