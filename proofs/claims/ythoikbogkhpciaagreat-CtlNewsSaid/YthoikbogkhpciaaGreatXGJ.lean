/- What isn't there tells nothing. Conditions: none. -/
import Derived.Test.YthoikbogkhpciaaGreatXGC
set_option linter.unusedVariables false
set_option linter.unusedSimpArgs false
set_option maxRecDepth 100000
namespace Go.Proofs.YthoikbogkhpciaaGreatE
open Go Go.Proofs
def env_cMembers0 : Nat → Ann
  | 4 => ⟨.op 0 [] <| .op 1 [] <| .op 2 [] <| .op 3 [] <| .op 4 [] <| .op 5 [] <| .op 6 [3] <| .op 7 [] <| .op 8 [] <| .nil, [0, 1, 3, 7, 0, 0, 48, 127, 255], false⟩
  | _ => ⟨.nil, [], false⟩
def env_cUntagged0 : Nat → Ann
  | 4 => ⟨.op 0 [] <| .op 1 [] <| .op 2 [] <| .op 3 [] <| .op 4 [] <| .op 5 [] <| .op 6 [3] <| .op 7 [] <| .op 8 [] <| .op 9 [] <| .nil, [0, 1, 3, 7, 0, 0, 48, 112, 255, 511], false⟩
  | _ => ⟨.nil, [], false⟩
def env_cShape0 : Nat → Ann
  | 20 => ⟨.op 0 [] <| .op 1 [] <| .op 2 [] <| .op 3 [] <| .op 4 [] <| .op 5 [] <| .op 8 [] <| .op 9 [] <| .op 10 [] <| .op 11 [] <| .op 12 [] <| .op 13 [] <| .op 6 [3, 11] <| .op 7 [11] <| .op 17 [] <| .op 14 [11] <| .op 15 [] <| .op 16 [] <| .op 18 [] <| .op 19 [] <| .op 20 [] <| .nil, [0, 1, 3, 7, 0, 0, 48, 127, 0, 256, 768, 1792, 0, 0, 12543, 28927, 65535, 255, 262143, 524287, 1048575], false⟩
  | 23 => ⟨.op 0 [] <| .op 1 [] <| .op 2 [] <| .op 3 [] <| .op 4 [] <| .op 5 [] <| .op 6 [] <| .op 7 [] <| .op 8 [] <| .op 9 [] <| .op 10 [] <| .op 11 [] <| .op 12 [] <| .op 13 [] <| .nil, [0, 1, 3, 7, 15, 31, 0, 64, 192, 448, 960, 1984, 4095, 0], false⟩
  | 26 => ⟨.op 0 [] <| .op 1 [] <| .op 2 [] <| .op 3 [] <| .op 4 [] <| .op 5 [] <| .op 6 [] <| .op 7 [] <| .op 8 [] <| .op 9 [] <| .op 10 [] <| .op 11 [] <| .op 12 [] <| .op 13 [] <| .op 14 [] <| .op 15 [] <| .op 16 [] <| .op 17 [] <| .op 18 [] <| .op 19 [] <| .op 20 [] <| .op 21 [] <| .op 22 [1] <| .op 23 [1] <| .op 24 [] <| .op 25 [] <| .op 26 [] <| .nil, [0, 1, 0, 4, 12, 28, 0, 0, 128, 384, 896, 1920, 3968, 8128, 0, 0, 32768, 98304, 229376, 491520, 1015808, 2080768, 4194300, 8388604, 16777215, 33554431, 67108863], false⟩
  | _ => ⟨.nil, [], false⟩
def env_cCommand0 : Nat → Ann
  | 22 => ⟨.op 0 [] <| .op 1 [] <| .op 2 [] <| .op 3 [] <| .op 4 [] <| .op 5 [] <| .op 7 [] <| .op 6 [7] <| .op 8 [] <| .op 9 [] <| .op 10 [] <| .op 11 [] <| .op 12 [] <| .nil, [0, 0, 0, 4, 12, 28, 60, 0, 254, 510, 1023, 2047, 4095], false⟩
  | _ => ⟨.nil, [], false⟩
section
variable {h h' : Heap} {a b : Int}
theorem cHas0_spec : HCalls Tryz.prog 66 #[.pointer none, .int .i64 a] h (fun v h' => v = .bool false ∧ h' = h) := by
  refine xcalls env0 Tryz.func66 rfl (by kernel_rfl) rfl (by kernel_rfl) ?_
  exact ⟨rfl, rfl⟩
theorem cMem0_spec : HCalls Tryz.prog 45 #[.pointer none] h (fun v h' => v = .pointer none ∧ h' = h) := by
  refine xcalls env0 Tryz.func45 rfl (by kernel_rfl) rfl (by kernel_rfl) ?_
  exact ⟨rfl, rfl⟩
theorem cFdb0_spec : HCalls Tryz.prog 46 #[.pointer none] h (fun v h' => v = .pointer none ∧ h' = h) := by
  refine xcalls env0 Tryz.func46 rfl (by kernel_rfl) rfl (by kernel_rfl) ?_
  exact ⟨rfl, rfl⟩
theorem cRing0_spec : HCalls Tryz.prog 39 #[.pointer none, .int .i64 a, .int .i64 b] h (fun v h' => v = .pointer none ∧ h' = h) := by
  refine xcalls env0 Tryz.func39 rfl (by kernel_rfl) rfl (by kernel_rfl) ?_
  refine cHas0_spec.mono ?_
  rintro v h1 ⟨rfl, rfl⟩
  exact ⟨rfl, rfl⟩
theorem cTake0_spec : HCalls Tryz.prog 25 #[.pointer none, .int .i64 a, .int .i64 b] h (fun v h' => v = .bool false ∧ h' = h) := by
  refine xcalls env0 Tryz.func25 rfl (by kernel_rfl) rfl (by kernel_rfl) ?_
  refine cHas0_spec.mono ?_
  rintro v h1 ⟨rfl, rfl⟩
  exact ⟨rfl, rfl⟩
theorem cFree0_spec : HCalls Tryz.prog 32 #[.pointer none, .int .i64 a, .int .i64 b] h (fun v h' => v = .bool false ∧ h' = h) := by
  refine xcalls env0 Tryz.func32 rfl (by kernel_rfl) rfl (by kernel_rfl) ?_
  refine cHas0_spec.mono ?_
  rintro v h1 ⟨rfl, rfl⟩
  exact ⟨rfl, rfl⟩
theorem aOver0_spec : HCalls Tryz.prog 49 #[.pointer none] h (fun v h' => v = .bool true ∧ h' = h) := by
  refine xcalls env0 Tryz.func49 rfl (by kernel_rfl) rfl (by kernel_rfl) ?_
  exact ⟨rfl, rfl⟩
theorem aAnswer0_spec : HCalls Tryz.prog 34 #[.pointer none] h (fun v h' => v = .int .i64 0 ∧ h' = h) := by
  refine xcalls env0 Tryz.func34 rfl (by kernel_rfl) rfl (by kernel_rfl) ?_
  exact ⟨rfl, rfl⟩
theorem aLog0_spec : HCalls Tryz.prog 31 #[.pointer none] h (fun v h' => v = .slice none 0 0 ∧ h' = h) := by
  refine xcalls env0 Tryz.func31 rfl (by kernel_rfl) rfl (by kernel_rfl) ?_
  exact ⟨rfl, rfl⟩
theorem cVlan0_spec : HCalls Tryz.prog 70 #[.pointer none, .int .i64 a] h (fun v h' => v = .int .i64 (-1) ∧ h' = h) := by
  refine xcalls env0 Tryz.func70 rfl (by kernel_rfl) rfl (by kernel_rfl) ?_
  exact ⟨rfl, rfl⟩
theorem aStep0_spec : HCalls Tryz.prog 29 #[.pointer none] h (fun v h' => v = .bool true ∧ h' = h) := by
  refine xcalls env0 Tryz.func29 rfl (by kernel_rfl) rfl (by kernel_rfl) ?_
  refine aOver0_spec.mono ?_
  rintro v h1 ⟨rfl, rfl⟩
  refine aOver0_spec.mono ?_
  rintro v h1 ⟨rfl, rfl⟩
  exact ⟨rfl, rfl⟩
theorem cMembers0_spec : HCalls Tryz.prog 35 #[.pointer none, .int .i64 a] h (fun v h' => v = .int .u64 0 ∧ h' = h) := by
  refine xcalls env_cMembers0 Tryz.func35 rfl (by kernel_rfl) rfl (by kernel_rfl) ?_
  refine cVlan0_spec.mono ?_
  rintro v h1 ⟨rfl, rfl⟩
  exact ⟨rfl, rfl⟩
theorem cUntagged0_spec : HCalls Tryz.prog 36 #[.pointer none, .int .i64 a] h (fun v h' => v = .int .u64 0 ∧ h' = h) := by
  refine xcalls env_cUntagged0 Tryz.func36 rfl (by kernel_rfl) rfl (by kernel_rfl) ?_
  refine cVlan0_spec.mono ?_
  rintro v h1 ⟨rfl, rfl⟩
  exact ⟨rfl, rfl⟩
theorem cStand0_spec : HCalls Tryz.prog 30 #[.pointer none, .int .i64 a] h (fun v h' => v = .agg #[.int .i64 0, .int .u32 0] ∧ Ext h h') := by
  refine xcalls env0 Tryz.func30 rfl (by kernel_rfl) rfl (by kernel_rfl) ?_
  intro b0 h1 n1
  refine cHas0_spec.mono ?_
  rintro v h2 ⟨rfl, rfl⟩
  refine ⟨rfl, rfl, canset_blk n1.this rfl, fun h3 s3 => ?_⟩
  have hb3 : h3[b0]? = some (.cells [Value.int .i64 0, Value.int .u32 0].toArray _ (0, 0)) := s3.put n1.this
  exact ⟨[.int .i64 0, .int .u32 0], rfl, reads_all hb3, rfl, n1.ext.stored s3 (n1.ge (Ext.refl _))⟩
theorem cPlan0_spec : HCalls Tryz.prog 48 #[.pointer none] h (fun v h' => v = .agg (planV 0 (.slice none 0 0) (.slice none 0 0) ⟨0, 0, 0⟩ 0 0 0 0).toArray ∧ Ext h h') := by
  refine xcalls env0 Tryz.func48 rfl (by kernel_rfl) rfl (by kernel_rfl) ?_
  intro b0 h1 n1
  refine ⟨rfl, rfl, canset_blk n1.this rfl, fun h2 s2 => ?_⟩
  have hb2 : h2[b0]? = some (.cells (planV 0 (.slice none 0 0) (.slice none 0 0) ⟨0, 0, 0⟩ 0 0 0 0).toArray _ (0, 0)) := s2.put n1.this
  exact ⟨planV 0 (.slice none 0 0) (.slice none 0 0) ⟨0, 0, 0⟩ 0 0 0 0, rfl, reads_all hb2, rfl, n1.ext.stored s2 (n1.ge (Ext.refl _))⟩
theorem cShape0_spec : HCalls Tryz.prog 47 #[.pointer none] h (fun v h' => (∃ a1 a2 a3 : Value, v = .agg #[.slice none 0 0, a1, a2, a3]) ∧ Ext h h') := by
  refine xcalls env_cShape0 Tryz.func47 rfl (by kernel_rfl) rfl (by kernel_rfl) ?_
  intro b0 h1 n1
  refine ⟨rfl, rfl, canset_blk n1.this rfl, fun h2 s2 => ?_⟩
  have hb2 : h2[b0]? = some (.cells [Value.slice none 0 0, .slice none 0 0, .slice none 0 0, .slice none 0 0].toArray _ (0, 0)) := s2.put n1.this
  exact ⟨[.slice none 0 0, .slice none 0 0, .slice none 0 0, .slice none 0 0], rfl, reads_all hb2, ⟨_, _, _, rfl⟩, n1.ext.stored s2 (n1.ge (Ext.refl _))⟩
theorem cCommand0_spec {o : Op17} : HCalls Tryz.prog 26 #[.pointer none, .int .i64 a, .agg (encO17 o).toArray] h (fun v h' => v = .pointer none ∧ Ext h h') := by
  refine xcalls env_cCommand0 Tryz.func26 rfl (by kernel_rfl) rfl (by kernel_rfl) ?_
  intro ob h1 n1
  exact ⟨rfl, n1.ext⟩
end
end Go.Proofs.YthoikbogkhpciaaGreatE
