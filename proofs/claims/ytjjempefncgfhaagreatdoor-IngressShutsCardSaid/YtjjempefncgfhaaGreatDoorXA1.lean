/- What the small functions of layers 1, 4, 8, 9 answer. Conditions: the arguments are of their types. -/
import Derived.Test.YtjjempefncgfhaaGreatDoorXLib
import Derived.Test.YtjjempefncgfhaaGreatDoorXM10
import Derived.Test.YtjjempefncgfhaaGreatDoorProg
set_option linter.unusedVariables false
set_option linter.unusedSimpArgs false
set_option maxRecDepth 100000
namespace Go.Proofs.YtjjempefncgfhaaGreatDoorE
open Go Go.Proofs
def env0 : Nat → Ann := fun _ => ⟨.nil, [], false⟩
def env_kPlace : Nat → Ann
  | 4 => ⟨.op 0 [] <| .op 1 [] <| .op 2 [] <| .op 3 [] <| .op 4 [] <| .op 5 [] <| .op 6 [] <| .op 7 [] <| .op 8 [] <| .op 9 [] <| .op 10 [] <| .op 11 [] <| .op 12 [] <| .nil, [0, 0, 2, 7, 15, 0, 32, 0, 128, 480, 992, 31, 4095], false⟩
  | _ => ⟨.nil, [], false⟩
def env_rPlace : Nat → Ann
  | 4 => ⟨.op 0 [] <| .op 1 [] <| .op 2 [] <| .op 3 [] <| .op 4 [] <| .op 5 [] <| .op 6 [] <| .op 7 [] <| .op 8 [] <| .op 9 [] <| .op 10 [] <| .op 11 [] <| .op 12 [] <| .nil, [0, 0, 2, 7, 15, 0, 32, 0, 128, 480, 992, 31, 4095], false⟩
  | _ => ⟨.nil, [], false⟩
def env_rRight : Nat → Ann
  | 1 => ⟨.op 0 [] <| .op 1 [] <| .op 2 [] <| .op 3 [] <| .op 4 [] <| .op 5 [] <| .op 6 [] <| .op 7 [] <| .op 8 [] <| .op 9 [] <| .op 10 [] <| .op 11 [] <| .op 12 [] <| .op 13 [] <| .op 14 [] <| .op 15 [] <| .op 16 [] <| .op 17 [] <| .op 18 [15] <| .op 19 [] <| .op 20 [] <| .op 21 [] <| .op 22 [] <| .op 23 [] <| .op 24 [] <| .op 25 [] <| .op 26 [] <| .op 27 [] <| .nil, [0, 1, 3, 7, 15, 31, 63, 127, 255, 511, 1023, 2047, 4095, 8191, 16383, 32767, 16383, 81919, 212991, 524287, 1048575, 2097151, 4194303, 8388607, 16777215, 33554431, 67108863, 134217727], false⟩
  | _ => ⟨.nil, [], false⟩
theorem macRight_spec (m : Int) (h : Heap) : HCalls Tryz.prog 191 #[.int .u64 m] h (fun v h' => v = .bool (decide (m ≤ 281474976710655)) ∧ h' = h) := by
  refine xcalls env0 Tryz.func191 rfl (by kernel_rfl) rfl (by kernel_rfl) ?_
  exact ⟨rfl, rfl⟩
theorem macKind_spec {m : Int} (h0 : 0 ≤ m) (h1 : m < 18446744073709551616) (h : Heap) : HCalls Tryz.prog 160 #[.int .u64 m] h (fun v h' => v = .int .i64 (if m % 281474976710656 = 281474976710655 then 2 else if m % 281474976710656 / 16 * 16 = 1652522221568 then 3 else m % 281474976710656 / 1099511627776 % 2) ∧ h' = h) := by
  have e1 : IntKind.u64.wrap ((BitVec.ofInt 64 m &&& BitVec.ofInt 64 281474976710655).toNat : Int) = m % 281474976710656 := and_mask 48 (by decide) h0 h1
  have b0 : 0 ≤ m % 281474976710656 := by omega
  have b1 : m % 281474976710656 < 18446744073709551616 := by omega
  have e2 : IntKind.u64.wrap ((BitVec.ofInt 64 (m % 281474976710656) &&& ~~~BitVec.ofInt 64 15).toNat : Int) = m % 281474976710656 / 16 * 16 := andNot_mask 4 (by decide) b0 b1
  have e3 : (IntKind.u64.wrap ((BitVec.ofInt 64 (m % 281474976710656) &&& BitVec.ofInt 64 1099511627776).toNat : Int) != 0) = decide (m % 281474976710656 / 1099511627776 % 2 = 1) := and_bit 40 (by decide) b0 b1
  refine xcalls env0 Tryz.func160 rfl (by kernel_rfl) rfl (by kernel_rfl) ?_
  refine xif_of (fun q1 => ?_) (fun q1 => ?_)
  · replace q1 : (IntKind.u64.wrap ((BitVec.ofInt 64 m &&& BitVec.ofInt 64 281474976710655).toNat : Int) == 281474976710655) = true := q1
    rw [e1] at q1
    exact ⟨by rw [if_pos (by simpa using q1)]; rfl, rfl⟩
  replace q1 : (IntKind.u64.wrap ((BitVec.ofInt 64 m &&& BitVec.ofInt 64 281474976710655).toNat : Int) == 281474976710655) = false := q1
  rw [e1] at q1
  refine xif_of (fun q2 => ?_) (fun q2 => ?_)
  · replace q2 : (IntKind.u64.wrap ((BitVec.ofInt 64 (IntKind.u64.wrap ((BitVec.ofInt 64 m &&& BitVec.ofInt 64 281474976710655).toNat : Int)) &&& ~~~BitVec.ofInt 64 15).toNat : Int) == 1652522221568) = true := q2
    rw [e1, e2] at q2
    exact ⟨by rw [if_neg (by simpa using q1), if_pos (by simpa using q2)]; rfl, rfl⟩
  replace q2 : (IntKind.u64.wrap ((BitVec.ofInt 64 (IntKind.u64.wrap ((BitVec.ofInt 64 m &&& BitVec.ofInt 64 281474976710655).toNat : Int)) &&& ~~~BitVec.ofInt 64 15).toNat : Int) == 1652522221568) = false := q2
  rw [e1, e2] at q2
  refine xif_of (fun q3 => ?_) (fun q3 => ?_)
  all_goals
    first
    | replace q3 : (IntKind.u64.wrap ((BitVec.ofInt 64 (IntKind.u64.wrap ((BitVec.ofInt 64 m &&& BitVec.ofInt 64 281474976710655).toNat : Int)) &&& BitVec.ofInt 64 1099511627776).toNat : Int) != 0) = true := q3
    | replace q3 : (IntKind.u64.wrap ((BitVec.ofInt 64 (IntKind.u64.wrap ((BitVec.ofInt 64 m &&& BitVec.ofInt 64 281474976710655).toNat : Int)) &&& BitVec.ofInt 64 1099511627776).toNat : Int) != 0) = false := q3
    rw [e1, e3] at q3
    simp only [decide_eq_true_eq, decide_eq_false_iff_not] at q3
    refine ⟨?_, rfl⟩
    rw [if_neg (by simpa using q1), if_neg (by simpa using q2)]
    refine congrArg (Value.int .i64) ?_
    omega
theorem keyRight_spec {vid mac : Int} (wf : KeyWf vid mac) (h : Heap) : HCalls Tryz.prog 137 #[.agg #[.int .i64 vid, .int .u64 mac]] h (fun v h' => v = .bool (keyOk vid mac) ∧ Ext h h') := by
  refine xcalls env0 Tryz.func137 rfl (by kernel_rfl) rfl (by kernel_rfl) ?_
  intro b1 h1 n1
  have hb := n1.this
  refine ⟨_, cell_blk hb rfl, ?_⟩
  refine xif_of (fun q1 => ?_) (fun q1 => ?_)
  · refine ⟨_, cell_blk hb rfl, ?_⟩
    refine xif_of (fun q2 => ?_) (fun q2 => ?_)
    · refine ⟨_, cell_blk hb rfl, ?_⟩
      refine xif_of (fun q3 => ?_) (fun q3 => ?_)
      · refine ⟨_, cell_blk hb rfl, ?_⟩
        refine (macRight_spec _ _).mono ?_
        rintro v h2 ⟨rfl, rfl⟩
        refine xif_of (fun q4 => ?_) (fun q4 => ?_)
        · refine ⟨_, cell_blk hb rfl, ?_⟩
          refine (macKind_spec wf.mac0 wf.mac1 _).mono ?_
          rintro v h3 ⟨rfl, rfl⟩
          refine ⟨congrArg Value.bool ?_, n1.ext⟩
          have w0 := wf.mac0
          simp at q1 q2 q3 q4
          simp [keyOk, kindM, q1, q2, show 0 < mac by omega, show mac < 281474976710656 by omega]
        · refine ⟨congrArg Value.bool ?_, n1.ext⟩
          simp at q4
          simp [keyOk, show ¬ mac < 281474976710656 by omega]
      · refine ⟨congrArg Value.bool ?_, n1.ext⟩
        simp at q3
        simp [keyOk, q3]
    · refine ⟨congrArg Value.bool ?_, n1.ext⟩
      simp at q2
      simp [keyOk, show ¬ vid ≤ 4094 by omega]
  · refine ⟨congrArg Value.bool ?_, n1.ext⟩
    simp at q1
    simp [keyOk, show ¬ 1 ≤ vid by omega]
theorem may_spec {vid mac port : Int} (wf : KeyWf vid mac) (h : Heap) : HCalls Tryz.prog 232 #[.agg #[.int .i64 vid, .int .u64 mac], .int .i64 port] h (fun v h' => v = .bool (mayM vid mac port) ∧ Ext h h') := by
  refine xcalls env0 Tryz.func232 rfl (by kernel_rfl) rfl (by kernel_rfl) ?_
  intro b1 h1 n1
  refine ⟨[.int .i64 vid, .int .u64 mac], rfl, reads_all n1.this, ?_⟩
  refine (keyRight_spec wf _).mono ?_
  rintro v h2 ⟨rfl, x2⟩
  have x := n1.ext.trans x2
  refine xif_of (fun q1 => ?_) (fun q1 => ?_)
  · refine xif_of (fun q2 => ?_) (fun q2 => ?_)
    · refine ⟨congrArg Value.bool ?_, x⟩
      simp at q2
      simp [mayM, q1, q2]
    · refine ⟨congrArg Value.bool ?_, x⟩
      simp at q2
      simp [mayM, q1, show ¬ 0 ≤ port by omega]
  · refine ⟨congrArg Value.bool ?_, x⟩
    simp [mayM, q1]
theorem tAge_spec (now t : Int) (h : Heap) : HCalls Tryz.prog 239 #[.int .u32 now, .int .u32 t] h (fun v h' => v = .int .u32 (ageM now t) ∧ h' = h) := by
  refine xcalls env0 Tryz.func239 rfl (by kernel_rfl) rfl (by kernel_rfl) ?_
  have e : IntKind.u32.wrap (now - t) = (now - t) % 4294967296 := IntKind.wrap_u32 _
  refine xif_of (fun q1 => ?_) (fun q1 => ?_)
  · replace q1 : decide (IntKind.u32.wrap (now - t) ≥ 2147483648) = true := q1
    rw [e] at q1
    exact ⟨by rw [ageM, if_pos (by simpa using q1)]; rfl, rfl⟩
  · replace q1 : decide (IntKind.u32.wrap (now - t) ≥ 2147483648) = false := q1
    rw [e] at q1
    exact ⟨by rw [ageM, if_neg (by simpa using q1)]; exact congrArg (Value.int .u32) e, rfl⟩
theorem rAge_spec {now t : Int} (a0 : 0 ≤ now) (a1 : now < 4294967296) (b0 : 0 ≤ t) (b1 : t < 4294967296) (h : Heap) : HCalls Tryz.prog 183 #[.int .u32 now, .int .u32 t] h (fun v h' => v = .int .u32 (ageM now t) ∧ h' = h) := by
  refine xcalls env0 Tryz.func183 rfl (by kernel_rfl) rfl (by kernel_rfl) ?_
  have e : (IntKind.u64.wrap (IntKind.u64.wrap (IntKind.u64.wrap now + 4294967296) - IntKind.u64.wrap t)).tmod 4294967296 = (now - t) % 4294967296 := by
    rw [wrap_u64 a0 (by omega), wrap_u64 b0 (by omega), wrap_u64 (x := now + 4294967296) (by omega) (by omega), wrap_u64 (by omega) (by omega), Int.tmod_eq_emod_of_nonneg (by omega)]
    omega
  refine ⟨by decide, ?_⟩
  refine xif_of (fun q1 => ?_) (fun q1 => ?_)
  · replace q1 : decide ((IntKind.u64.wrap (IntKind.u64.wrap (IntKind.u64.wrap now + 4294967296) - IntKind.u64.wrap t)).tmod 4294967296 ≥ 2147483648) = true := q1
    rw [e] at q1
    exact ⟨by rw [ageM, if_pos (by simpa using q1)]; rfl, rfl⟩
  · replace q1 : decide ((IntKind.u64.wrap (IntKind.u64.wrap (IntKind.u64.wrap now + 4294967296) - IntKind.u64.wrap t)).tmod 4294967296 ≥ 2147483648) = false := q1
    rw [e] at q1
    refine ⟨?_, rfl⟩
    rw [ageM, if_neg (by simpa using q1)]
    refine congrArg (Value.int .u32) ?_
    show IntKind.u32.wrap ((IntKind.u64.wrap (IntKind.u64.wrap (IntKind.u64.wrap now + 4294967296) - IntKind.u64.wrap t)).tmod 4294967296) = _
    rw [e, wrap_u32 (by omega) (by omega)]
theorem rOld_spec {now t limit : Int} (a0 : 0 ≤ now) (a1 : now < 4294967296) (b0 : 0 ≤ t) (b1 : t < 4294967296) (h : Heap) : HCalls Tryz.prog 217 #[.int .u32 now, .int .u32 t, .int .u32 limit] h (fun v h' => v = .bool (decide (ageM now t > limit)) ∧ h' = h) := by
  refine xcalls env0 Tryz.func217 rfl (by kernel_rfl) rfl (by kernel_rfl) ?_
  refine (rAge_spec a0 a1 b0 b1 _).mono ?_
  rintro v h2 ⟨rfl, rfl⟩
  exact ⟨rfl, rfl⟩
theorem rLow_spec {m : Int} (h0 : 0 ≤ m) (h : Heap) : HCalls Tryz.prog 131 #[.int .u64 m] h (fun v h' => v = .int .u64 (m % 281474976710656) ∧ h' = h) := by
  refine xcalls env0 Tryz.func131 rfl (by kernel_rfl) rfl (by kernel_rfl) ?_
  exact ⟨by decide, congrArg (Value.int .u64) (Int.tmod_eq_emod_of_nonneg h0), rfl⟩
/-! ### The reference's bytes -/
def bytesL : Nat → Int → List Int
  | 0, _ => []
  | i + 1, m => divN i m % 256 :: bytesL i m
theorem bytesL_len : ∀ (i : Nat) (m : Int), (bytesL i m).length = i
  | 0, _ => rfl
  | i + 1, m => by simp [bytesL, bytesL_len i m]
theorem divN_range {m : Int} (h0 : 0 ≤ m) (h1 : m < 18446744073709551616) : ∀ i, 0 ≤ divN i m ∧ divN i m < 18446744073709551616
  | 0 => ⟨h0, h1⟩
  | i + 1 => by have := divN_range h0 h1 i; simp only [divN]; omega
def u8s (l : List Int) : List Value := l.map (.int .u8)
theorem u8s_one : ∀ l, (u8s l).all Value.oneCell' = true
  | [] => rfl
  | _ :: l => u8s_one l
theorem rBytes_spec {m : Int} (h0 : 0 ≤ m) (h1 : m < 18446744073709551616) (h : Heap) : HCalls Tryz.prog 130 #[.int .u64 m] h (fun v h' => ∃ a c, v = .slice (some a) 6 c ∧ Reads h' a (u8s (bytesL 6 m)) ∧ Ext h h') := by
  refine xcalls env0 Tryz.func130 rfl (by kernel_rfl) rfl (by kernel_rfl) ?_
  refine ⟨Nat × Option Addr × Nat, fun s => [(0, .int .u64 (divN s.1 m)), (3, .slice s.2.1 s.1 s.2.2), (4, .int .i64 s.1)],
    fun s h' => s.1 ≤ 6 ∧ readsOf h' s.2.1 (u8s (bytesL s.1 m)) ∧ Ext h h', fun s => 6 - s.1, (0, none, 0), ⟨rfl, rfl, rfl, trivial⟩, ⟨by decide, rfl, Ext.refl _⟩, ?_⟩
  rintro ⟨i, A, c⟩ h2 ⟨hi, hr, x2⟩
  simp only at hi hr
  have dr := divN_range h0 h1 i
  refine xif_of (fun q1 => ?_) (fun q1 => ?_)
  · have q1 : (i : Int) < 6 := of_decide_eq_true q1
    refine ⟨by decide, ?_⟩
    intro b h3 n3
    have x3 := x2.new n3
    have hr3 : readsOf h3 A (u8s (bytesL i m)) := by
      cases A with
      | none => exact hr
      | some a => exact n3.ext.reads hr
    have hval : IntKind.u8.wrap ((divN i m).tmod 256) = divN i m % 256 := by
      rw [Int.tmod_eq_emod_of_nonneg dr.1, wrap_u8 (by omega) (by omega)]
    have nxt : ∀ (h4 : Heap) (a : Addr) (c' : Nat), Reads h4 a (.int .u8 (divN i m % 256) :: u8s (bytesL i m)) → Ext h h4 → 
        ∃ x' : Nat × Option Addr × Nat, (some (Value.int .u64 (IntKind.u64.wrap ((divN i m).tdiv 256))) = some (Value.int .u64 (divN x'.1 m)) ∧ some (Value.slice (some a) (1 + i) c') = some (Value.slice x'.2.1 x'.1 x'.2.2) ∧ some (Value.int .i64 (IntKind.i64.wrap ((i : Int) + 1))) = some (Value.int .i64 x'.1) ∧ True) ∧ (x'.1 ≤ 6 ∧ readsOf h4 x'.2.1 (u8s (bytesL x'.1 m)) ∧ Ext h h4) ∧ 6 - x'.1 < 6 - i := by
      intro h4 a c' hrd x4
      refine ⟨(i + 1, some a, c'), ⟨?_, by rw [Nat.add_comm], slot_inc (by omega), trivial⟩, ⟨by omega, hrd, x4⟩, by show 6 - (i + 1) < 6 - i; omega⟩
      rw [Int.tdiv_eq_ediv_of_nonneg dr.1, wrap_u64 (by omega) (by omega)]
      rfl
    refine ⟨_, [.int .u8 0], [.int .u8 (IntKind.u8.wrap ((divN i m).tmod 256))], u8s (bytesL i m), rfl, rfl, ⟨by show (1 + i) * 1 ≤ _; omega, by decide, fun _ => rfl, fun _ => by show _ = i * 1; simp [u8s, bytesL_len], reads_all n3.this, hr3, u8s_one _, ?_⟩, ?_, ?_, ?_⟩
    · intro hle a ha
      have : i = 0 := by omega
      subst this
      exact ⟨fun j hj => by simp [u8s, bytesL] at hj, fun j hj => by simp [u8s, bytesL] at hj⟩
    · intro _ hh; cases hh
    · intro hle a h4 ha st
      cases ha
      have : i = 0 := by omega
      subst this
      refine ⟨by decide, nxt h4 ⟨b, 0, none⟩ 1 ?_ (x3.stored st (n3.ge x2))⟩
      have hb : h4[b]? = some (.cells [.int .u8 (IntKind.u8.wrap ((divN 0 m).tmod 256))].toArray 5 (0, 0)) := st.this _ _ _ n3.this
      rw [hval] at hb
      exact reads_all hb
    · intro hlt cap b4 h4 hcap n4
      refine ⟨by decide, nxt h4 ⟨b4, 0, none⟩ cap ?_ (x3.new n4)⟩
      have hb := n4.this
      rw [hval, List.append_assoc] at hb
      exact reads_blk hb fun j v hj => by
        have hlt := (List.getElem?_eq_some_iff.1 hj).1
        rw [Nat.zero_add, List.getElem?_toArray]
        rw [show [Value.int .u8 (divN i m % 256)] ++ (u8s (bytesL i m) ++ (List.replicate (cap - (1 + i)) [Value.int .u8 0]).flatten) = (.int .u8 (divN i m % 256) :: u8s (bytesL i m)) ++ (List.replicate (cap - (1 + i)) [Value.int .u8 0]).flatten from rfl, List.getElem?_append_left hlt]
        exact hj
  · have q1 : ¬ (i : Int) < 6 := of_decide_eq_false q1
    have : i = 6 := by omega
    subst this
    cases A with
    | none => exact absurd hr (List.cons_ne_nil _ _)
    | some a => exact ⟨a, c, rfl, hr, x2⟩
theorem bytes_kind {m : Int} (h0 : 0 ≤ m) (h1 : m < 18446744073709551616) : (divN 5 m % 256 = 1 ∧ divN 4 m % 256 = 128 ∧ divN 3 m % 256 = 194 ∧ divN 2 m % 256 = 0 ∧ divN 1 m % 256 = 0 ∧ divN 0 m % 256 < 16) ↔ m % 281474976710656 / 16 * 16 = 1652522221568 := by
  simp only [divN]; omega
theorem rKind_spec {m : Int} (h0 : 0 ≤ m) (h1 : m < 18446744073709551616) (h : Heap) : HCalls Tryz.prog 73 #[.int .u64 m] h (fun v h' => v = .int .i64 (kindM m) ∧ Ext h h') := by
  have bk := bytes_kind h0 h1
  refine xcalls env0 Tryz.func73 rfl (by kernel_rfl) rfl (by kernel_rfl) ?_
  refine (rBytes_spec h0 h1 _).mono ?_
  rintro v h2 ⟨a, c, rfl, hr, x2⟩
  have g : ∀ j, ∀ v, nth (u8s (bytesL 6 m)) j = some v → cell h2 (a.add (j * 1)) = some v := fun j v hj => by rw [Nat.mul_one]; exact hr.get j (by rw [nth_eq] at hj; exact hj)
  refine (rLow_spec h0 _).mono ?_
  rintro v h3 ⟨rfl, rfl⟩
  refine xif_of (fun q1 => ?_) (fun q1 => ?_)
  · replace q1 : (m % 281474976710656 == 281474976710655) = true := q1
    exact ⟨by rw [kindM, if_pos (by simpa using q1)]; rfl, x2⟩
  replace q1 : (m % 281474976710656 == 281474976710655) = false := q1
  have q1' : ¬ m % 281474976710656 = 281474976710655 := by simpa using q1
  have last : (¬ (divN 5 m % 256 = 1 ∧ divN 4 m % 256 = 128 ∧ divN 3 m % 256 = 194 ∧ divN 2 m % 256 = 0 ∧ divN 1 m % 256 = 0 ∧ divN 0 m % 256 < 16)) → IntKind.i64.wrap ((divN 5 m % 256).tmod 2) = kindM m := by
    intro hn
    rw [bk] at hn
    rw [kindM, if_neg q1', if_neg hn, Int.tmod_eq_emod_of_nonneg (by omega), wrap_i64 (by omega) (by omega)]
    simp only [divN]
    omega
  refine ⟨a, rfl, by decide, by decide, .int .u8 (divN 5 m % 256), g 0 _ rfl, ?_⟩
  refine xif_of (fun q2 => ?_) (fun q2 => ?_)
  · refine ⟨a, rfl, by decide, by decide, .int .u8 (divN 4 m % 256), g 1 _ rfl, ?_⟩
    refine xif_of (fun q3 => ?_) (fun q3 => ?_)
    · refine ⟨a, rfl, by decide, by decide, .int .u8 (divN 3 m % 256), g 2 _ rfl, ?_⟩
      refine xif_of (fun q4 => ?_) (fun q4 => ?_)
      · refine ⟨a, rfl, by decide, by decide, .int .u8 (divN 2 m % 256), g 3 _ rfl, ?_⟩
        refine xif_of (fun q5 => ?_) (fun q5 => ?_)
        · refine ⟨a, rfl, by decide, by decide, .int .u8 (divN 1 m % 256), g 4 _ rfl, ?_⟩
          refine xif_of (fun q6 => ?_) (fun q6 => ?_)
          · refine ⟨a, rfl, by decide, by decide, .int .u8 (divN 0 m % 256), g 5 _ rfl, ?_⟩
            refine xif_of (fun q7 => ?_) (fun q7 => ?_)
            · refine ⟨?_, x2⟩
              rw [kindM, if_neg q1', if_pos (bk.1 ⟨by simpa using q2, by simpa using q3, by simpa using q4, by simpa using q5, by simpa using q6, by simpa using q7⟩)]
              rfl
            · exact ⟨a, rfl, by decide, by decide, .int .u8 (divN 5 m % 256), g 0 _ rfl, by decide, congrArg (Value.int .i64) (last (by simp at q7; omega)), x2⟩
          · exact ⟨a, rfl, by decide, by decide, .int .u8 (divN 5 m % 256), g 0 _ rfl, by decide, congrArg (Value.int .i64) (last (by simp at q6; omega)), x2⟩
        · exact ⟨a, rfl, by decide, by decide, .int .u8 (divN 5 m % 256), g 0 _ rfl, by decide, congrArg (Value.int .i64) (last (by simp at q5; omega)), x2⟩
      · exact ⟨a, rfl, by decide, by decide, .int .u8 (divN 5 m % 256), g 0 _ rfl, by decide, congrArg (Value.int .i64) (last (by simp at q4; omega)), x2⟩
    · exact ⟨a, rfl, by decide, by decide, .int .u8 (divN 5 m % 256), g 0 _ rfl, by decide, congrArg (Value.int .i64) (last (by simp at q3; omega)), x2⟩
  · exact ⟨a, rfl, by decide, by decide, .int .u8 (divN 5 m % 256), g 0 _ rfl, by decide, congrArg (Value.int .i64) (last (by simp at q2; omega)), x2⟩
theorem rRight_spec {vid mac : Int} (wf : KeyWf vid mac) (h : Heap) : HCalls Tryz.prog 75 #[.agg #[.int .i64 vid, .int .u64 mac]] h (fun v h' => v = .bool (keyOk vid mac) ∧ Ext h h') := by
  refine xcalls env_rRight Tryz.func75 rfl (by kernel_rfl) rfl (by kernel_rfl) ?_
  intro b1 h1 n1
  have hb := n1.this
  have w0 := wf.mac0
  refine ⟨_, cell_blk hb rfl, ?_⟩
  refine xif_of (fun q1 => ?_) (fun q1 => ?_)
  · refine ⟨_, cell_blk hb rfl, ?_⟩
    refine xif_of (fun q2 => ?_) (fun q2 => ?_)
    · refine ⟨_, cell_blk hb rfl, ?_⟩
      refine xif_of (fun q3 => ?_) (fun q3 => ?_)
      · refine ⟨_, cell_blk hb rfl, _, cell_blk hb rfl, ?_⟩
        refine (rLow_spec w0 _).mono ?_
        rintro v h2 ⟨rfl, rfl⟩
        refine ⟨⟨cell_blk hb rfl, trivial⟩, ?_⟩
        refine xif_of (fun q4 => ?_) (fun q4 => ?_)
        · refine ⟨_, cell_blk hb rfl, ?_⟩
          refine (rKind_spec wf.mac0 wf.mac1 _).mono ?_
          rintro v h3 ⟨rfl, x3⟩
          refine ⟨congrArg Value.bool ?_, n1.ext.trans x3⟩
          simp at q1 q2 q3 q4
          simp [keyOk, q1, q2, q3, show mac < 281474976710656 by omega]
        · refine ⟨congrArg Value.bool ?_, n1.ext⟩
          replace q4 : (mac == mac % 281474976710656) = false := q4
          simp at q4
          simp [keyOk, show ¬ mac < 281474976710656 by omega]
      · refine ⟨congrArg Value.bool ?_, n1.ext⟩
        simp at q3
        simp [keyOk, show ¬ 0 < mac by omega]
    · refine ⟨congrArg Value.bool ?_, n1.ext⟩
      simp at q2
      simp [keyOk, show ¬ vid ≤ 4094 by omega]
  · refine ⟨congrArg Value.bool ?_, n1.ext⟩
    simp at q1
    simp [keyOk, show ¬ 1 ≤ vid by omega]
end Go.Proofs.YtjjempefncgfhaaGreatDoorE
/- Where a key's bucket is: the mixed number, the word, the place, as the program and the document's answer have them. Conditions: the arguments are of their types. -/
set_option linter.unusedVariables false
set_option linter.unusedSimpArgs false
set_option maxRecDepth 100000
namespace Go.Proofs.YtjjempefncgfhaaGreatDoorE
open Go Go.Proofs
def xorM (a b : Int) : Int := IntKind.u64.wrap ((BitVec.ofInt 64 a ^^^ BitVec.ofInt 64 b).toNat : Int)
theorem u64_range (x : Int) : 0 ≤ IntKind.u64.wrap x ∧ IntKind.u64.wrap x < 18446744073709551616 := by rw [IntKind.wrap_u64]; omega
def stepM (z d c : Int) : Int := IntKind.u64.wrap (xorM z (z / d) * c)
def mixM (n : Int) : Int :=
  let z := stepM (stepM (IntKind.u64.wrap (n + 11400714819323198485)) 1073741824 13787848793156543929) 134217728 10723151780598845931
  xorM z (z / 2147483648)
theorem mixM_range (n : Int) : 0 ≤ mixM n ∧ mixM n < 18446744073709551616 := u64_range _
theorem shr_eq {z : Int} (k d : Int) (hd : (2 : Int) ^ (min k.toNat IntKind.u64.bits) = d) (h0 : 0 ≤ d) : z.fdiv (2 ^ (min k.toNat IntKind.u64.bits)) = z / d := by
  rw [hd, Int.fdiv_eq_ediv_of_nonneg _ h0]
theorem quo_eq {z d : Int} (h : 0 ≤ z ∧ z < 18446744073709551616) (hd : 1 ≤ d) : IntKind.u64.wrap (z.tdiv d) = z / d := by
  rw [Int.tdiv_eq_ediv_of_nonneg h.1, wrap_u64 (Int.ediv_nonneg h.1 (by omega))]
  exact Int.lt_of_le_of_lt (Int.ediv_le_self _ h.1) h.2
theorem tMix_spec (n : Int) (h : Heap) : HCalls Tryz.prog 259 #[.int .u64 n] h (fun v h' => v = .int .u64 (mixM n) ∧ h' = h) := by
  refine xcalls env0 Tryz.func259 rfl (by kernel_rfl) rfl (by kernel_rfl) ?_
  refine ⟨by decide, by decide, by decide, ?_, rfl⟩
  unfold mixM stepM
  simp only
  rw [← shr_eq 30 1073741824 (by decide) (by decide), ← shr_eq 27 134217728 (by decide) (by decide), ← shr_eq 31 2147483648 (by decide) (by decide)]
  rfl
theorem rMix_spec (n : Int) (h : Heap) : HCalls Tryz.prog 250 #[.int .u64 n] h (fun v h' => v = .int .u64 (mixM n) ∧ h' = h) := by
  refine xcalls env0 Tryz.func250 rfl (by kernel_rfl) rfl (by kernel_rfl) ?_
  refine ⟨by decide, by decide, by decide, ?_, rfl⟩
  unfold mixM stepM
  simp only
  rw [← quo_eq (d := 1073741824) (u64_range _) (by decide), ← quo_eq (d := 134217728) (u64_range _) (by decide), ← quo_eq (d := 2147483648) (u64_range _) (by decide)]
  rfl
def wordM (vid mac : Int) : Int := if keyOk vid mac = true then 1152921504606846976 + vid * 281474976710656 + mac else 0
theorem keyOk_range {vid mac : Int} (h : keyOk vid mac = true) : 1 ≤ vid ∧ vid ≤ 4094 ∧ 0 < mac ∧ mac < 281474976710656 := by
  simp only [keyOk, Bool.and_eq_true, decide_eq_true_eq] at h
  omega
theorem or_eq {a b : Nat} {x y : Int} (hx : x = (a : Int)) (hy : y = (b : Int)) (ha : a < 18446744073709551616) (hb : b < 18446744073709551616) : IntKind.u64.wrap ((BitVec.ofInt 64 x ||| BitVec.ofInt 64 y).toNat : Int) = ((a ||| b : Nat) : Int) := by
  subst hx hy
  have h1 : (BitVec.ofInt 64 (a : Int)).toNat = a := by rw [ofInt_toNat (by omega) (by omega)]; simp
  have h2 : (BitVec.ofInt 64 (b : Int)).toNat = b := by rw [ofInt_toNat (by omega) (by omega)]; simp
  rw [BitVec.toNat_or, h1, h2]
  have : a ||| b < 2 ^ 64 := Nat.or_lt_two_pow (by omega) (by omega)
  exact wrap_u64 (by omega) (by omega)
theorem kWord_spec {vid mac : Int} (wf : KeyWf vid mac) (h : Heap) : HCalls Tryz.prog 260 #[.agg #[.int .i64 vid, .int .u64 mac]] h (fun v h' => v = .int .u64 (wordM vid mac) ∧ Ext h h') := by
  refine xcalls env0 Tryz.func260 rfl (by kernel_rfl) rfl (by kernel_rfl) ?_
  intro b1 h1 n1
  refine ⟨_, rfl, reads_all n1.this, ?_⟩
  refine (keyRight_spec wf _).mono ?_
  rintro v h2 ⟨rfl, x2⟩
  have hb := x2.blk n1.this
  have x := n1.ext.trans x2
  refine xif_of (fun q => ?_) (fun q => ?_)
  · refine ⟨?_, x⟩
    have q : keyOk vid mac = false := by simpa using q
    rw [wordM, if_neg (by simp [q])]; rfl
  · have q : keyOk vid mac = true := by simpa using q
    obtain ⟨k0, k1, k2, k3⟩ := keyOk_range q
    refine ⟨_, cell_blk hb rfl, by decide, _, cell_blk hb rfl, ?_, x⟩
    refine congrArg (Value.int .u64) ?_
    obtain ⟨a, rfl⟩ : ∃ a : Nat, vid = a := ⟨vid.toNat, by omega⟩
    obtain ⟨m, rfl⟩ : ∃ a : Nat, mac = a := ⟨mac.toNat, by omega⟩
    have e1 : IntKind.u64.wrap (IntKind.u64.wrap (a : Int) * 2 ^ (min (48 : Int).toNat IntKind.u64.bits)) = ((2 ^ 48 * a : Nat) : Int) := by
      rw [show (2 : Int) ^ (min (48 : Int).toNat IntKind.u64.bits) = 281474976710656 from by decide, wrap_u64 (x := (a : Int)) (by omega) (by omega), wrap_u64 (by omega) (by omega)]
      omega
    have e2 : IntKind.u64.wrap ((BitVec.ofInt 64 1152921504606846976 ||| BitVec.ofInt 64 (IntKind.u64.wrap (IntKind.u64.wrap (a : Int) * 2 ^ (min (48 : Int).toNat IntKind.u64.bits)))).toNat : Int) = ((2 ^ 60 * 1 ||| 2 ^ 48 * a : Nat) : Int) :=
      or_eq (a := 2 ^ 60 * 1) (by rfl) e1 (by decide) (by omega)
    have e3 : 2 ^ 60 * 1 ||| 2 ^ 48 * a = 2 ^ 48 * (4096 + a) := by
      rw [← Nat.two_pow_add_eq_or_of_lt (by omega)]; omega
    rw [e3] at e2
    have e4 : IntKind.u64.wrap ((BitVec.ofInt 64 (IntKind.u64.wrap ((BitVec.ofInt 64 1152921504606846976 ||| BitVec.ofInt 64 (IntKind.u64.wrap (IntKind.u64.wrap (a : Int) * 2 ^ (min (48 : Int).toNat IntKind.u64.bits)))).toNat : Int)) ||| BitVec.ofInt 64 (m : Int)).toNat : Int) = ((2 ^ 48 * (4096 + a) ||| m : Nat) : Int) :=
      or_eq e2 rfl (by omega) (by omega)
    rw [← Nat.two_pow_add_eq_or_of_lt (by omega)] at e4
    refine Eq.trans (b := ((2 ^ 48 * (4096 + a) + m : Nat) : Int)) e4 ?_
    rw [wordM, if_pos q]
    omega
theorem rWord_spec {vid mac : Int} (wf : KeyWf vid mac) (h : Heap) : HCalls Tryz.prog 251 #[.agg #[.int .i64 vid, .int .u64 mac]] h (fun v h' => v = .int .u64 (wordM vid mac) ∧ Ext h h') := by
  refine xcalls env0 Tryz.func251 rfl (by kernel_rfl) rfl (by kernel_rfl) ?_
  intro b1 h1 n1
  refine ⟨_, rfl, reads_all n1.this, ?_⟩
  refine (rRight_spec wf _).mono ?_
  rintro v h2 ⟨rfl, x2⟩
  have hb := x2.blk n1.this
  have x := n1.ext.trans x2
  refine xif_of (fun q => ?_) (fun q => ?_)
  · refine ⟨?_, x⟩
    have q : keyOk vid mac = false := by simpa using q
    rw [wordM, if_neg (by simp [q])]; rfl
  · have q : keyOk vid mac = true := by simpa using q
    obtain ⟨k0, k1, k2, k3⟩ := keyOk_range q
    refine ⟨_, cell_blk hb rfl, _, cell_blk hb rfl, ?_, x⟩
    refine congrArg (Value.int .u64) ?_
    show IntKind.u64.wrap (IntKind.u64.wrap (1152921504606846976 + IntKind.u64.wrap (IntKind.u64.wrap vid * 281474976710656)) + mac) = _
    rw [wrap_u64 (x := vid) (by omega) (by omega), wrap_u64 (x := vid * 281474976710656) (by omega) (by omega), wrap_u64 (x := 1152921504606846976 + vid * 281474976710656) (by omega) (by omega), wrap_u64 (by omega) (by omega), wordM, if_pos q]
def placeM (vid mac sh bk : Int) : Int × Int := if keyOk vid mac = true then (mixM (wordM vid mac) % sh, mixM (wordM vid mac) / 4294967296 % bk) else (0, 0)
theorem placeM_range {vid mac sh bk : Int} (h1 : 1 ≤ sh) (h2 : 1 ≤ bk) : 0 ≤ (placeM vid mac sh bk).1 ∧ (placeM vid mac sh bk).1 < sh ∧ 0 ≤ (placeM vid mac sh bk).2 ∧ (placeM vid mac sh bk).2 < bk := by
  unfold placeM
  split
  · exact ⟨Int.emod_nonneg _ (by omega), Int.emod_lt_of_pos _ (by omega), Int.emod_nonneg _ (by omega), Int.emod_lt_of_pos _ (by omega)⟩
  · exact ⟨Int.le_refl _, h1, Int.le_refl _, h2⟩
theorem mod_eq {z k : Int} (h0 : 0 ≤ z) (h1 : 1 ≤ k) (h2 : k ≤ 16) : IntKind.i64.wrap (z.tmod (IntKind.u64.wrap k)) = z % k := by
  have e := wrap_u64 (x := k) (by omega) (by omega)
  have := Int.emod_lt_of_pos z (show 0 < k by omega)
  have := Int.emod_nonneg z (show k ≠ 0 by omega)
  rw [e, Int.tmod_eq_emod_of_nonneg h0, wrap_i64 (by omega) (by omega)]
theorem kPlace_spec {vid mac sh bk : Int} (wf : KeyWf vid mac) (s1 : 1 ≤ sh) (s2 : sh ≤ 8) (b1 : 1 ≤ bk) (b2 : bk ≤ 16) (h : Heap) :
    HCalls Tryz.prog 229 #[.agg #[.int .i64 vid, .int .u64 mac], .int .i64 sh, .int .i64 bk] h (fun v h' => v = .tuple #[.int .i64 (placeM vid mac sh bk).1, .int .i64 (placeM vid mac sh bk).2] ∧ Ext h h') := by
  refine xcalls env_kPlace Tryz.func229 rfl (by kernel_rfl) rfl (by kernel_rfl) ?_
  intro b h1 n1
  refine ⟨_, rfl, reads_all n1.this, ?_⟩
  refine (keyRight_spec wf _).mono ?_
  rintro v h2 ⟨rfl, x2⟩
  have hb := x2.blk n1.this
  have x := n1.ext.trans x2
  have e1 : decide (sh < 1) = false := by simp; omega
  have e2 : decide (bk < 1) = false := by simp; omega
  refine xif_of (fun q => ?_) (fun q => ?_)
  · have q : keyOk vid mac = false := by simpa using q
    exact ⟨by rw [placeM, if_neg (by simp [q])]; rfl, x⟩
  · have q : keyOk vid mac = true := by simpa using q
    refine xif_false e1 ?_
    refine xif_false e2 ?_
    refine ⟨_, rfl, reads_all hb, ?_⟩
    refine (kWord_spec wf _).mono ?_
    rintro v h3 ⟨rfl, x3⟩
    refine (tMix_spec _ _).mono ?_
    rintro v h4 ⟨rfl, rfl⟩
    have hm := mixM_range (wordM vid mac)
    refine ⟨by rw [wrap_u64 (by omega) (by omega)]; omega, by decide, by rw [wrap_u64 (by omega) (by omega)]; omega, ?_, x.trans x3⟩
    have f1 : IntKind.i64.wrap ((mixM (wordM vid mac)).tmod (IntKind.u64.wrap sh)) = mixM (wordM vid mac) % sh := mod_eq hm.1 s1 (by omega)
    have f2 : IntKind.i64.wrap (((mixM (wordM vid mac)).fdiv (2 ^ (min (32 : Int).toNat IntKind.u64.bits))).tmod (IntKind.u64.wrap bk)) = mixM (wordM vid mac) / 4294967296 % bk := by
      rw [shr_eq 32 4294967296 (by decide) (by decide)]
      exact mod_eq (by omega) b1 (by omega)
    show Value.tuple #[.int .i64 (IntKind.i64.wrap ((mixM (wordM vid mac)).tmod (IntKind.u64.wrap sh))), .int .i64 (IntKind.i64.wrap (((mixM (wordM vid mac)).fdiv (2 ^ (min (32 : Int).toNat IntKind.u64.bits))).tmod (IntKind.u64.wrap bk)))] = _
    rw [f1, f2, placeM, if_pos q]
theorem rPlace_spec {vid mac sh bk : Int} (wf : KeyWf vid mac) (s1 : 1 ≤ sh) (s2 : sh ≤ 8) (b1 : 1 ≤ bk) (b2 : bk ≤ 16) (h : Heap) :
    HCalls Tryz.prog 214 #[.agg #[.int .i64 vid, .int .u64 mac], .int .i64 sh, .int .i64 bk] h (fun v h' => v = .tuple #[.int .i64 (placeM vid mac sh bk).1, .int .i64 (placeM vid mac sh bk).2] ∧ Ext h h') := by
  refine xcalls env_rPlace Tryz.func214 rfl (by kernel_rfl) rfl (by kernel_rfl) ?_
  intro b h1 n1
  refine ⟨_, rfl, reads_all n1.this, ?_⟩
  refine (rRight_spec wf _).mono ?_
  rintro v h2 ⟨rfl, x2⟩
  have hb := x2.blk n1.this
  have x := n1.ext.trans x2
  have e1 : decide (sh < 1) = false := by simp; omega
  have e2 : decide (bk < 1) = false := by simp; omega
  refine xif_of (fun q => ?_) (fun q => ?_)
  · have q : keyOk vid mac = false := by simpa using q
    exact ⟨by rw [placeM, if_neg (by simp [q])]; rfl, x⟩
  · have q : keyOk vid mac = true := by simpa using q
    refine xif_false e1 ?_
    refine xif_false e2 ?_
    refine ⟨_, rfl, reads_all hb, ?_⟩
    refine (rWord_spec wf _).mono ?_
    rintro v h3 ⟨rfl, x3⟩
    refine (rMix_spec _ _).mono ?_
    rintro v h4 ⟨rfl, rfl⟩
    have hm := mixM_range (wordM vid mac)
    refine ⟨by rw [wrap_u64 (by omega) (by omega)]; omega, by decide, by rw [wrap_u64 (by omega) (by omega)]; omega, ?_, x.trans x3⟩
    have f1 : IntKind.i64.wrap ((mixM (wordM vid mac)).tmod (IntKind.u64.wrap sh)) = mixM (wordM vid mac) % sh := mod_eq hm.1 s1 (by omega)
    have f2 : IntKind.i64.wrap ((IntKind.u64.wrap ((mixM (wordM vid mac)).tdiv 4294967296)).tmod (IntKind.u64.wrap bk)) = mixM (wordM vid mac) / 4294967296 % bk := by
      rw [quo_eq hm (by decide)]
      exact mod_eq (by omega) b1 (by omega)
    show Value.tuple #[.int .i64 (IntKind.i64.wrap ((mixM (wordM vid mac)).tmod (IntKind.u64.wrap sh))), .int .i64 (IntKind.i64.wrap ((IntKind.u64.wrap ((mixM (wordM vid mac)).tdiv 4294967296)).tmod (IntKind.u64.wrap bk)))] = _
    rw [f1, f2, placeM, if_pos q]
end Go.Proofs.YtjjempefncgfhaaGreatDoorE
