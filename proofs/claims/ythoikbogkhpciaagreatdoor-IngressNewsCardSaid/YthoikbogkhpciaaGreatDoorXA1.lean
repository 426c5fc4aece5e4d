/- What the small functions of layers 1, 4, 8, 9 answer. Conditions: the arguments are of their types. -/
import Derived.Test.YthoikbogkhpciaaGreatDoorXLib
import Derived.Test.YthoikbogkhpciaaGreatDoorXM10
import Derived.Test.YthoikbogkhpciaaGreatDoorProg
set_option linter.unusedVariables false
set_option linter.unusedSimpArgs false
set_option maxRecDepth 100000
namespace Go.Proofs.YthoikbogkhpciaaGreatDoorE
open Go Go.Proofs
def env0 : Nat → Ann := fun _ => ⟨.nil, [], false⟩
theorem macRight_spec (m : Int) (h : Heap) : HCalls Tryz.prog 138 #[.int .u64 m] h (fun v h' => v = .bool (decide (m ≤ 281474976710655)) ∧ h' = h) := by
  refine xcalls env0 Tryz.func138 rfl (by kernel_rfl) rfl (by kernel_rfl) ?_
  exact ⟨rfl, rfl⟩
theorem macKind_spec {m : Int} (h0 : 0 ≤ m) (h1 : m < 18446744073709551616) (h : Heap) : HCalls Tryz.prog 70 #[.int .u64 m] h (fun v h' => v = .int .i64 (if m % 281474976710656 = 281474976710655 then 2 else if m % 281474976710656 / 16 * 16 = 1652522221568 then 3 else m % 281474976710656 / 1099511627776 % 2) ∧ h' = h) := by
  have e1 : IntKind.u64.wrap ((BitVec.ofInt 64 m &&& BitVec.ofInt 64 281474976710655).toNat : Int) = m % 281474976710656 := and_mask 48 (by decide) h0 h1
  have b0 : 0 ≤ m % 281474976710656 := by omega
  have b1 : m % 281474976710656 < 18446744073709551616 := by omega
  have e2 : IntKind.u64.wrap ((BitVec.ofInt 64 (m % 281474976710656) &&& ~~~BitVec.ofInt 64 15).toNat : Int) = m % 281474976710656 / 16 * 16 := andNot_mask 4 (by decide) b0 b1
  have e3 : (IntKind.u64.wrap ((BitVec.ofInt 64 (m % 281474976710656) &&& BitVec.ofInt 64 1099511627776).toNat : Int) != 0) = decide (m % 281474976710656 / 1099511627776 % 2 = 1) := and_bit 40 (by decide) b0 b1
  refine xcalls env0 Tryz.func70 rfl (by kernel_rfl) rfl (by kernel_rfl) ?_
  refine xif_of (fun q1 => ?_) (fun q1 => ?_)
  · replace q1 : (IntKind.u64.wrap ((BitVec.ofInt 64 m &&& BitVec.ofInt 64 281474976710655).toNat : Int) == 281474976710655) = true := q1
    rw [e1] at q1
    exact ⟨by rw [if_pos (by simpa using q1)]; rfl, rfl⟩
  replace q1 : (IntKind.u64.wrap ((BitVec.ofInt 64 m &&& BitVec.ofInt 64 281474976710655).toNat : Int) == 281474976710655) = false := q1
  rw [e1] at q1
  refine xif_of (fun q2 => ?_) (fun q2 => ?_)
  · replace q2 : (IntKind.u64.wrap ((BitVec.ofInt 64 (IntKind.u64.wrap ((BitVec.ofInt 64 m &&& BitVec.ofInt 64 281474976710655).toNat : Int)) &&& ~~~BitVec.ofInt 64 15).toNat : Int) == 1652522221568) = true := q2
    rw [e1, e2] at q2
    exact ⟨by rw [if_neg (by simpa using q1), if_pos (by simpa using q2)]; rfl, rfl⟩
  replace q2 : (IntKind.u64.wrap ((BitVec.ofInt 64 (IntKind.u64.wrap ((BitVec.ofInt 64 m &&& BitVec.ofInt 64 281474976710655).toNat : Int)) &&& ~~~BitVec.ofInt 64 15).toNat : Int) == 1652522221568) = false := q2
  rw [e1, e2] at q2
  refine xif_of (fun q3 => ?_) (fun q3 => ?_)
  all_goals
    first
    | replace q3 : (IntKind.u64.wrap ((BitVec.ofInt 64 (IntKind.u64.wrap ((BitVec.ofInt 64 m &&& BitVec.ofInt 64 281474976710655).toNat : Int)) &&& BitVec.ofInt 64 1099511627776).toNat : Int) != 0) = true := q3
    | replace q3 : (IntKind.u64.wrap ((BitVec.ofInt 64 (IntKind.u64.wrap ((BitVec.ofInt 64 m &&& BitVec.ofInt 64 281474976710655).toNat : Int)) &&& BitVec.ofInt 64 1099511627776).toNat : Int) != 0) = false := q3
    rw [e1, e3] at q3
    simp only [decide_eq_true_eq, decide_eq_false_iff_not] at q3
    refine ⟨?_, rfl⟩
    rw [if_neg (by simpa using q1), if_neg (by simpa using q2)]
    refine congrArg (Value.int .i64) ?_
    omega
theorem keyRight_spec {vid mac : Int} (wf : KeyWf vid mac) (h : Heap) : HCalls Tryz.prog 117 #[.agg #[.int .i64 vid, .int .u64 mac]] h (fun v h' => v = .bool (keyOk vid mac) ∧ Ext h h') := by
  refine xcalls env0 Tryz.func117 rfl (by kernel_rfl) rfl (by kernel_rfl) ?_
  intro b1 h1 n1
  have hb := n1.this
  refine ⟨_, cell_blk hb rfl, ?_⟩
  refine xif_of (fun q1 => ?_) (fun q1 => ?_)
  · refine ⟨_, cell_blk hb rfl, ?_⟩
    refine xif_of (fun q2 => ?_) (fun q2 => ?_)
    · refine ⟨_, cell_blk hb rfl, ?_⟩
      refine xif_of (fun q3 => ?_) (fun q3 => ?_)
      · refine ⟨_, cell_blk hb rfl, ?_⟩
        refine (macRight_spec _ _).mono ?_
        rintro v h2 ⟨rfl, rfl⟩
        refine xif_of (fun q4 => ?_) (fun q4 => ?_)
        · refine ⟨_, cell_blk hb rfl, ?_⟩
          refine (macKind_spec wf.mac0 wf.mac1 _).mono ?_
          rintro v h3 ⟨rfl, rfl⟩
          refine ⟨congrArg Value.bool ?_, n1.ext⟩
          have w0 := wf.mac0
          simp at q1 q2 q3 q4
          simp [keyOk, kindM, q1, q2, show 0 < mac by omega, show mac < 281474976710656 by omega]
        · refine ⟨congrArg Value.bool ?_, n1.ext⟩
          simp at q4
          simp [keyOk, show ¬ mac < 281474976710656 by omega]
      · refine ⟨congrArg Value.bool ?_, n1.ext⟩
        simp at q3
        simp [keyOk, q3]
    · refine ⟨congrArg Value.bool ?_, n1.ext⟩
      simp at q2
      simp [keyOk, show ¬ vid ≤ 4094 by omega]
  · refine ⟨congrArg Value.bool ?_, n1.ext⟩
    simp at q1
    simp [keyOk, show ¬ 1 ≤ vid by omega]
theorem may_spec {vid mac port : Int} (wf : KeyWf vid mac) (h : Heap) : HCalls Tryz.prog 121 #[.agg #[.int .i64 vid, .int .u64 mac], .int .i64 port] h (fun v h' => v = .bool (mayM vid mac port) ∧ Ext h h') := by
  refine xcalls env0 Tryz.func121 rfl (by kernel_rfl) rfl (by kernel_rfl) ?_
  intro b1 h1 n1
  refine ⟨[.int .i64 vid, .int .u64 mac], rfl, reads_all n1.this, ?_⟩
  refine (keyRight_spec wf _).mono ?_
  rintro v h2 ⟨rfl, x2⟩
  have x := n1.ext.trans x2
  refine xif_of (fun q1 => ?_) (fun q1 => ?_)
  · refine xif_of (fun q2 => ?_) (fun q2 => ?_)
    · refine ⟨congrArg Value.bool ?_, x⟩
      simp at q2
      simp [mayM, q1, q2]
    · refine ⟨congrArg Value.bool ?_, x⟩
      simp at q2
      simp [mayM, q1, show ¬ 0 ≤ port by omega]
  · refine ⟨congrArg Value.bool ?_, x⟩
    simp [mayM, q1]
theorem tAge_spec (now t : Int) (h : Heap) : HCalls Tryz.prog 98 #[.int .u32 now, .int .u32 t] h (fun v h' => v = .int .u32 (ageM now t) ∧ h' = h) := by
  refine xcalls env0 Tryz.func98 rfl (by kernel_rfl) rfl (by kernel_rfl) ?_
  have e : IntKind.u32.wrap (now - t) = (now - t) % 4294967296 := IntKind.wrap_u32 _
  refine xif_of (fun q1 => ?_) (fun q1 => ?_)
  · replace q1 : decide (IntKind.u32.wrap (now - t) ≥ 2147483648) = true := q1
    rw [e] at q1
    exact ⟨by rw [ageM, if_pos (by simpa using q1)]; rfl, rfl⟩
  · replace q1 : decide (IntKind.u32.wrap (now - t) ≥ 2147483648) = false := q1
    rw [e] at q1
    exact ⟨by rw [ageM, if_neg (by simpa using q1)]; exact congrArg (Value.int .u32) e, rfl⟩
/-! ### The reference's bytes -/
def bytesL : Nat → Int → List Int
  | 0, _ => []
  | i + 1, m => divN i m % 256 :: bytesL i m
theorem bytesL_len : ∀ (i : Nat) (m : Int), (bytesL i m).length = i
  | 0, _ => rfl
  | i + 1, m => by simp [bytesL, bytesL_len i m]
theorem divN_range {m : Int} (h0 : 0 ≤ m) (h1 : m < 18446744073709551616) : ∀ i, 0 ≤ divN i m ∧ divN i m < 18446744073709551616
  | 0 => ⟨h0, h1⟩
  | i + 1 => by have := divN_range h0 h1 i; simp only [divN]; omega
def u8s (l : List Int) : List Value := l.map (.int .u8)
theorem u8s_one : ∀ l, (u8s l).all Value.oneCell' = true
  | [] => rfl
  | _ :: l => u8s_one l
theorem bytes_kind {m : Int} (h0 : 0 ≤ m) (h1 : m < 18446744073709551616) : (divN 5 m % 256 = 1 ∧ divN 4 m % 256 = 128 ∧ divN 3 m % 256 = 194 ∧ divN 2 m % 256 = 0 ∧ divN 1 m % 256 = 0 ∧ divN 0 m % 256 < 16) ↔ m % 281474976710656 / 16 * 16 = 1652522221568 := by
  simp only [divN]; omega
end Go.Proofs.YthoikbogkhpciaaGreatDoorE
