/- The helpers of layer 11's laws: what is done to a book, a book's entries, told. Conditions: the arguments are of their types. -/
import Derived.Test.YtjjempefncgfhaaGreatDoorXB4
import Derived.Test.YtjjempefncgfhaaGreatDoorXM12
set_option linter.unusedVariables false
set_option linter.unusedSimpArgs false
set_option maxRecDepth 100000
namespace Go.Proofs.YtjjempefncgfhaaGreatDoorE
open Go Go.Proofs
section
variable {base b tb : Nat} {s : Sz} {L : List (List Place)} {h : Heap}
theorem lSize_spec (s : Sz) (h : Heap) : HCalls Tryz.prog 101 #[.agg #[.int .i64 s.sh, .int .i64 s.bk, .int .i64 s.sl]] h (fun v h' => v = .agg #[.int .i64 s.sh, .int .i64 s.bk, .int .i64 s.sl] ∧ Ext h h') := by
  refine xcalls env0 Tryz.func101 rfl (by kernel_rfl) rfl (by kernel_rfl) ?_
  intro zb h1 n1 rb h2 n2
  have hz := n2.ext.blk n1.this
  refine ⟨_, cell_blk hz rfl, _, cell_blk hz rfl, _, cell_blk hz rfl, rfl, rfl, canset_blk n2.this rfl, fun h3 s3 => ?_⟩
  have hr : h3[rb]? = some (.cells [.int .i64 s.sh, .int .i64 s.bk, .int .i64 s.sl].toArray 126 (0, 0)) := s3.put n2.this
  exact ⟨_, rfl, reads_all hr, rfl, (n1.ext.trans n2.ext).stored s3 (n2.ge n1.ext)⟩
theorem kind_eq (k : Int) : IntKind.i64.wrap ((IntKind.u64.wrap k).tmod 7) = k % 18446744073709551616 % 7 := by
  rw [IntKind.wrap_u64, Int.tmod_eq_emod_of_nonneg (by omega), wrap_i64 (by omega) (by omega)]
theorem one_ok : (⟨1, 1, 1⟩ : Sz).Ok := ⟨by decide, by decide, by decide, by decide, by decide, by decide⟩
theorem one_ix (vid mac : Int) : ixM ⟨1, 1, 1⟩ vid mac = 0 := by
  have := ixM_range one_ok vid mac
  have h : (⟨1, 1, 1⟩ : Sz).sh * (⟨1, 1, 1⟩ : Sz).bk = 1 := rfl
  omega
theorem told11_1 : learnB ⟨1, 1, 1⟩ [[Place.none]] 1 2 3 5 = ([[⟨true, 1, 2, 3, false, 5⟩]], 3) := by
  rw [learnB, one_ix]; decide
theorem told11_2 : lookB ⟨1, 1, 1⟩ [[⟨true, 1, 2, 3, false, 5⟩]] 1 2 = 3 := by
  rw [lookB, one_ix]; decide
theorem told11_3 : learnB ⟨1, 1, 1⟩ [[⟨true, 1, 2, 3, false, 5⟩]] 1 4 1 6 = ([[⟨true, 1, 4, 1, false, 6⟩]], 4) := by
  rw [learnB, one_ix]; decide
theorem told11_4 : lookB ⟨1, 1, 1⟩ [[⟨true, 1, 4, 1, false, 6⟩]] 1 2 = -1 := by
  rw [lookB, one_ix]; decide
theorem KeepA.ext2 {A : Option Addr} {h0 h h' : Heap} {t : Nat} (k : KeepA (some ⟨t, 0, none⟩) h h') (x : Ext h0 h) (ht : h0.size ≤ t) : Ext h0 h' := k.ext x fun b e => by cases e; exact ht
end
end Go.Proofs.YtjjempefncgfhaaGreatDoorE
/- What the laws BookKnows and BookApart answer: yes. Conditions: the arguments are of their types. -/
set_option linter.unusedVariables false
set_option linter.unusedSimpArgs false
set_option maxRecDepth 100000
namespace Go.Proofs.YtjjempefncgfhaaGreatDoorE
open Go Go.Proofs
section
variable {h : Heap}
theorem at_ix {s : Sz} (o : s.Ok) {i : Int} (h0 : 0 ≤ i) (h1 : i < s.sh * s.bk) : atM s (i / s.bk) (i % s.bk) = i := by
  have hb : 0 < s.bk := o.bk1
  have e := Int.mul_ediv_add_emod i s.bk
  have m0 := Int.emod_nonneg i (show s.bk ≠ 0 by omega)
  have m1 := Int.emod_lt_of_pos i hb
  have d0 := Int.ediv_nonneg h0 (show 0 ≤ s.bk by omega)
  have d1 : i / s.bk < s.sh := Int.ediv_lt_of_lt_mul hb h1
  rw [atM, if_neg (by omega), Int.mul_comm]
  exact e
theorem quo_ix {i k : Int} (h0 : 0 ≤ i) (h1 : i ≤ 1000) (hk : 1 ≤ k) : IntKind.i64.wrap (i.tdiv k) = i / k := by
  have := Int.ediv_le_self k h0
  have := Int.ediv_nonneg h0 (show 0 ≤ k by omega)
  rw [Int.tdiv_eq_ediv_of_nonneg h0, wrap_i64 (by omega) (by omega)]
end
end Go.Proofs.YtjjempefncgfhaaGreatDoorE
