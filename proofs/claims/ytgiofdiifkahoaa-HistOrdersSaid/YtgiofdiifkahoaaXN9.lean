/- An Op as the program has it. Conditions: the arguments are of their types. -/
import Derived.Test.YtgiofdiifkahoaaXN7
set_option linter.unusedVariables false
set_option linter.unusedSimpArgs false
set_option maxRecDepth 100000
namespace Go.Proofs.YtgiofdiifkahoaaE
open Go Go.Proofs
def env_l17Op : Nat → Ann
  | 1 => ⟨.op 0 [] <| .op 1 [] <| .op 2 [] <| .op 3 [] <| .op 4 [] <| .op 5 [] <| .op 6 [] <| .op 7 [] <| .op 8 [] <| .op 9 [] <| .op 10 [] <| .op 11 [] <| .op 13 [] <| .op 14 [] <| .op 15 [] <| .op 16 [] <| .op 17 [] <| .op 18 [] <| .op 19 [] <| .op 20 [] <| .op 21 [] <| .op 22 [] <| .op 23 [] <| .op 24 [] <| .op 25 [] <| .op 26 [] <| .op 12 [1, 3, 5, 7, 9, 14, 16, 18, 20, 22, 24, 26] <| .op 27 [] <| .op 28 [] <| .nil, [0, 1, 0, 4, 0, 16, 0, 64, 0, 256, 0, 1024, 3072, 0, 8192, 0, 32768, 0, 131072, 0, 524288, 0, 2097152, 0, 8388608, 0, 33554432, 134217727, 268435455], false⟩
  | _ => ⟨.nil, [], false⟩
section
variable {h : Heap}
set_option maxHeartbeats 1000000 in
theorem l17Op_spec (o : Op17) : HCalls Try.prog 13 #[.agg (encO17 o).toArray] h (fun v h' => v = .agg (encO17 o).toArray ∧ Ext h h') := by
  refine xcalls env_l17Op Try.func13 rfl (by kernel_rfl) rfl (by kernel_rfl) ?_
  intro ib h1 n1 rb h2 n2
  have hib : h2[ib]? = some (.cells (encO17 o).toArray 48 (0, 0)) := n2.ext.blk n1.this
  have x02 := n1.ext.trans n2.ext
  refine ⟨_, cell_blk hib rfl, _, cell_blk hib rfl, _, cell_blk hib rfl, _, cell_blk hib rfl, _, cell_blk hib rfl, [.int .i64 o.kvid, .int .u64 o.mac], rfl, reads_at hib rfl, _, cell_blk hib rfl, _, cell_blk hib rfl, _, cell_blk hib rfl, _, cell_blk hib rfl, _, cell_blk hib rfl, _, cell_blk hib rfl, _, cell_blk hib rfl, ?_⟩
  refine (l8To_spec _ _ _).mono ?_
  rintro v h3 ⟨rfl, x3⟩
  have b3 := x3.blk hib
  refine ⟨⟨cell_blk b3 rfl, cell_blk b3 rfl, cell_blk b3 rfl, cell_blk b3 rfl, cell_blk b3 rfl, cell_blk b3 rfl, cell_blk b3 rfl, cell_blk b3 rfl, cell_blk b3 rfl, cell_blk b3 rfl, cell_blk b3 rfl, cell_blk b3 rfl, trivial⟩, ?_⟩
  have r3 := x3.blk n2.this
  refine ⟨rfl, rfl, canset_blk r3 rfl, fun h4 s4 => ?_⟩
  have hr : h4[rb]? = some (.cells (encO17 o).toArray 55 (0, 0)) := s4.put r3
  exact ⟨_, rfl, reads_all hr, rfl, (x02.trans x3).stored s4 (n2.ge n1.ext)⟩
end
end Go.Proofs.YtgiofdiifkahoaaE
