/- What the laws' helpers of layers 8 to 10 answer. Conditions: the arguments are of their types. -/
import Derived.Test.YtgiofdiifkahoaaXA2
import Derived.Test.YtgiofdiifkahoaaXA3
set_option linter.unusedVariables false
set_option linter.unusedSimpArgs false
set_option maxRecDepth 100000
namespace Go.Proofs.YtgiofdiifkahoaaE
open Go Go.Proofs
theorem l8To_spec (vid mac : Int) (h : Heap) : HCalls Try.prog 47 #[.agg #[.int .i64 vid, .int .u64 mac]] h (fun v h' => v = .agg #[.int .i64 vid, .int .u64 mac] ∧ Ext h h') := by
  refine xcalls env0 Try.func47 rfl (by kernel_rfl) rfl (by kernel_rfl) ?_
  intro b1 h1 n1 b2 h2 n2
  have hb1 := n2.ext.blk n1.this
  refine ⟨_, cell_blk hb1 rfl, _, cell_blk hb1 rfl, ?_⟩
  refine ⟨rfl, rfl, canset_blk n2.this rfl, fun h3 s3 => ?_⟩
  have hb3 : h3[b2]? = some (.cells [.int .i64 vid, .int .u64 mac].toArray 52 (0, 0)) := s3.put n2.this
  exact ⟨_, rfl, reads_all hb3, rfl, (n1.ext.trans n2.ext).stored s3 (n2.ge n1.ext)⟩
theorem infoPlace : (Try.prog.info? 154).map (fun i => (i.size, i.bytes)) = some (6, 40) := by kernel_rfl
theorem zeroPlace : xzero Try.prog 154 = some (encP Place.none) := by kernel_rfl
theorem take_next {α : Type} {l : List α} {i : Nat} {p : α} (hp : l[i]? = some p) : l.take i ++ [p] = l.take (i + 1) := by
  obtain ⟨hi, rfl⟩ := List.getElem?_eq_some_iff.1 hp
  rw [List.take_succ_eq_append_getElem hi]
theorem told10_1 : learnM [Place.none] 1 2 1 5 = ([⟨true, 1, 2, 1, false, 5⟩], 3) := by decide
theorem told10_2 : learnM [⟨true, 1, 2, 1, false, 5⟩] 1 2 2 6 = ([⟨true, 1, 2, 2, false, 6⟩], 2) := by decide
theorem told10_3 : learnM [⟨true, 1, 2, 2, false, 6⟩] 1 4 2 9 = ([⟨true, 1, 4, 2, false, 9⟩], 4) := by decide
end Go.Proofs.YtgiofdiifkahoaaE
