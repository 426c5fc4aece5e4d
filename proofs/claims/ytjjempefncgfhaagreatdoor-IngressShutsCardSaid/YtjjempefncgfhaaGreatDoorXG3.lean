/- Orders are begun: a VLAN is set, a port is set. Conditions: the order may be. -/
import Derived.Test.YtjjempefncgfhaaGreatDoorXG1
set_option linter.unusedVariables false
set_option linter.unusedSimpArgs false
set_option maxRecDepth 100000
namespace Go.Proofs.YtjjempefncgfhaaGreatDoorE
open Go Go.Proofs
def env_aRead : Nat → Ann
  | 1 => ⟨.op 0 [] <| .op 1 [] <| .op 2 [] <| .op 3 [] <| .op 4 [] <| .op 5 [] <| .op 6 [] <| .op 7 [] <| .op 8 [] <| .alt (.op 9 [] <| .op 10 [3, 8] <| .op 11 [] <| .nil) (.op 10 [3, 8] <| .op 9 [] <| .op 11 [] <| .nil), [0, 1, 3, 7, 0, 16, 48, 112, 240, 511, 0, 2047], false⟩
  | _ => ⟨.nil, [], false⟩
def env_aWrite : Nat → Ann
  | 1 => ⟨.op 0 [] <| .op 1 [] <| .op 2 [] <| .op 3 [] <| .op 4 [] <| .op 5 [] <| .alt (.op 6 [] <| .op 7 [] <| .op 8 [] <| .op 9 [] <| .op 10 [0, 5] <| .op 11 [] <| .op 12 [] <| .nil) (.op 10 [0, 5] <| .op 6 [] <| .op 7 [] <| .op 8 [] <| .op 9 [] <| .op 11 [] <| .op 12 [] <| .nil), [0, 0, 2, 6, 14, 30, 63, 127, 255, 255, 0, 1535, 4095], false⟩
  | 2 => ⟨.op 0 [] <| .op 1 [] <| .op 2 [] <| .op 3 [] <| .op 4 [] <| .op 5 [] <| .op 6 [] <| .op 7 [] <| .op 8 [] <| .op 9 [] <| .op 10 [] <| .op 11 [] <| .op 12 [] <| .op 13 [3, 6, 11] <| .op 14 [] <| .nil, [0, 1, 3, 7, 15, 31, 63, 0, 128, 384, 896, 1920, 0, 4096, 16383], true⟩
  | _ => ⟨.nil, [], false⟩
def env_cCommand : Nat → Ann
  | 22 => ⟨.op 0 [] <| .op 1 [] <| .op 2 [] <| .op 3 [] <| .op 4 [] <| .op 5 [] <| .op 7 [] <| .op 6 [7] <| .op 8 [] <| .op 9 [] <| .op 10 [] <| .op 11 [] <| .op 12 [] <| .nil, [0, 0, 0, 4, 12, 28, 60, 0, 254, 510, 1023, 2047, 4095], false⟩
  | _ => ⟨.nil, [], false⟩
section
variable {h h' : Heap} {B : Nat} {F : Fb} {M : MemS}
theorem inInfo : (Tryz.prog.info? 3).map (fun i => (i.size, i.bytes)) = some (1, 8) := by kernel_rfl
theorem inZero : xzero Tryz.prog 3 = some [.int .i64 0] := by kernel_rfl
theorem cCommand_vlan (H : FabAt h F) (HM : MemAt h F.mb F.cb F.lb M) (b1 : B ≤ F.mb) (b2 : B ≤ F.cb) (b3 : B ≤ F.lb) (hB : B ≤ h.size) (hpr : ∀ p ∈ F.prot, h[p.1]? = some (.cells p.2 3 (0, 0)) ∧ p.1 ≠ F.lb) {who : Int} (hw : 0 ≤ who) {o : Op17} (hk : o.kind = 9) {i : Nat} (hi : findV o.vid F.vls 0 = (i : Int)) (ht : M.t < 900000) :
    HCalls Tryz.prog 28 #[.pointer (some ⟨F.fb, 0, none⟩), .int .i64 who, .agg (encO17 o).toArray] h (fun v h' => ∃ ab x, v = .pointer (some ⟨ab, 0, none⟩) ∧ CaS h' B F ab x (List.range F.P) M ⟨who, M.t, 0, 0, o, 0⟩ ∧ x.o = o ∧ x.who = who ∧ x.held = 0 ∧ x.next = .func (.func 81) #[] #[] ∧ Ext h h') := by
  have p2 := H.p2
  obtain ⟨kind, port, to, vid, state, kvid, mac, mem, unt, now, limit, shard, bucket, id⟩ := o
  simp only at hk hi
  subst hk
  refine xcalls env_cCommand Tryz.func28 rfl (by kernel_rfl) rfl (by kernel_rfl) ?_
  intro ob h1 n1
  have hob : h1[ob]? = some (.cells (encO17 ⟨9, port, to, vid, state, kvid, mac, mem, unt, now, limit, shard, bucket, id⟩).toArray 107 (0, 0)) := n1.this
  refine xif_false (decide_eq_false ?_) ?_
  · show ¬ who < 0
    omega
  refine ⟨encO17 ⟨9, port, to, vid, state, kvid, mac, mem, unt, now, limit, shard, bucket, id⟩, rfl, reads_all hob, ?_⟩
  intro ab h2 n2
  have hob2 := n2.ext.blk hob
  have x2 := n1.ext.trans n2.ext
  have raw2 : CaRaw h2 ab ⟨F.fb, who, ⟨9, port, to, vid, state, kvid, mac, mem, unt, now, limit, shard, bucket, id⟩, .nilFunc, none, 0, 0, none, 0, 0, 0, 0, none, none⟩ := n2.this
  repeat (first | refine ⟨_, cell_blk (hob2) rfl, ?_⟩)
  refine (cVlan_spec (H.ext x2) vid).mono ?_
  rintro v h3 ⟨rfl, x3⟩
  rw [hi]
  obtain ⟨RA, rc, hb', hr⟩ := ((H.ext x2).ext x3).blk
  have raw3 := x3.blk raw2
  have hob3 := x3.blk hob2
  have x03 := x2.trans x3
  have gab : h.size ≤ ab := n2.ge n1.ext
  repeat (first | refine ⟨_, cell_blk (hb') rfl, ?_⟩)
  refine ⟨Nat × Option Addr × Nat, fun z => [(0, .pointer (some ⟨F.fb, 0, none⟩)), (1, .int .i64 who), (5, .pointer (some ⟨ob, 0, none⟩)), (7, .pointer (some ⟨ab, 0, none⟩)), (70, .int .i64 F.P), (71, .int .i64 z.1)],
    fun z h' => z.1 ≤ F.P ∧ CaRaw h' ab ⟨F.fb, who, ⟨9, port, to, vid, state, kvid, mac, mem, unt, now, limit, shard, bucket, id⟩, .nilFunc, none, 0, 0, z.2.1, z.1, z.2.2, 0, 0, none, none⟩ ∧ OwnA encI 1 3 h.size h' z.2.1 z.2.2 (lsI (List.range z.1)) ∧ h'[ob]? = some (.cells (encO17 ⟨9, port, to, vid, state, kvid, mac, mem, unt, now, limit, shard, bucket, id⟩).toArray 107 (0, 0)) ∧ Ext h h', fun z => F.P - z.1, (0, none, 0), ⟨rfl, rfl, rfl, rfl, rfl, rfl, trivial⟩, ⟨Nat.zero_le _, raw3, .inl ⟨rfl, rfl, rfl⟩, hob3, x03⟩, ?_⟩
  rintro ⟨k, A, c⟩ h4 ⟨hk, raw4, o4, hob4, x4⟩
  simp only at hk raw4 o4
  refine xif_of (fun q => ?_) (fun q => ?_)
  · have q : k < F.P := by have := of_decide_eq_true q; omega
    repeat (first | refine ⟨_, cell_blk (raw4) rfl, ?_⟩)
    intro nb h5 n5
    have raw5 := n5.ext.blk raw4
    try (refine ⟨by ((repeat (first | refine ⟨cell_blk (raw5) rfl, ?_⟩)); exact trivial), ?_⟩)
    have n5' : New h4 h5 nb (.cells (encI (k : Int)).toArray 3) := n5
    refine xappend_one' inInfo inZero rfl (by decide) encI_len encI_one o4 n5' (by unfold lsI; simp) (by show (k + 1) * 8 ≤ 140737488355328; omega) x4.size fun A2 c2 h6 o6 K6 _ => ?_
    have raw6 : CaRaw h6 ab _ := K6.blkT o4 raw4 (by decide)
    have hob6 := K6.blkT o4 hob4 (by decide)
    refine ⟨rfl, rfl, canset_blk raw6 rfl, fun h7 s7 => ?_⟩
    have raw7 : CaRaw h7 ab ⟨F.fb, who, ⟨9, port, to, vid, state, kvid, mac, mem, unt, now, limit, shard, bucket, id⟩, .nilFunc, none, 0, 0, A2, k + 1, c2, 0, 0, none, none⟩ := s7.put raw6
    have c7 : Chg [(ab, 200)] h6 h7 := s7.chg raw6 (.head _)
    refine ⟨(k + 1, A2, c2), ⟨rfl, rfl, rfl, rfl, rfl, slot_inc (by omega), trivial⟩, ⟨by show k + 1 ≤ F.P; omega, raw7, ?_, c7.blk hob6 (by simp), (K6.ext x4 o4.ge).stored s7 gab⟩, by show F.P - (k + 1) < F.P - k; omega⟩
    have e : lsI (List.range (k + 1)) = lsI (List.range k) ++ [(k : Int)] := by unfold lsI; rw [List.range_succ, List.map_append]; rfl
    show OwnA encI 1 3 h.size h7 A2 c2 (lsI (List.range (k + 1)))
    rw [e]
    exact o6.chg c7 (fun b _ => by simp)
  · have q : ¬ (k : Int) < F.P := of_decide_eq_false q
    have e : k = F.P := by omega
    subst e
    refine ⟨rfl, rfl, canset_blk raw4 rfl, fun h5 s5 => ?_⟩
    have raw5 : CaRaw h5 ab ⟨F.fb, who, ⟨9, port, to, vid, state, kvid, mac, mem, unt, now, limit, shard, bucket, id⟩, .func (.func 81) #[] #[], none, 0, 0, A, F.P, c, 0, 0, none, none⟩ := s5.put raw4
    have c5 : Chg [(ab, 200)] h4 h5 := s5.chg raw4 (.head _)
    have x5 := x4.stored s5 gab
    have hob5 := c5.blk hob4 (by simp)
    obtain ⟨RA5, rc5, hb5, _⟩ := (H.ext x5).blk
    repeat (first | refine ⟨_, cell_blk (raw5) rfl, ?_⟩ | refine ⟨_, cell_blk (hb5) rfl, ?_⟩)
    refine ⟨encO17 ⟨9, port, to, vid, state, kvid, mac, mem, unt, now, limit, shard, bucket, id⟩, rfl, reads_all hob5, ?_⟩
    refine (mTime_spec (HM.ext x5)).mono ?_
    rintro v h6 ⟨rfl, rfl⟩
    refine ⟨⟨reads_all hob5, trivial⟩, ?_⟩
    intro nb h7 n7
    have raw7 := n7.ext.blk raw5
    have N7 : h7[nb]? = some (.cells (([⟨who, (M.t : Int), 0, 0, ⟨9, port, to, vid, state, kvid, mac, mem, unt, now, limit, shard, bucket, id⟩, 0⟩] : List He).flatMap encHe ++ []).toArray 150 (0, 0)) := n7.this
    refine ⟨rfl, rfl, canset_blk raw7 rfl, fun h8 s8 => ?_⟩
    have raw8 : CaRaw h8 ab ⟨F.fb, who, ⟨9, port, to, vid, state, kvid, mac, mem, unt, now, limit, shard, bucket, id⟩, .func (.func 81) #[] #[], some ⟨nb, 0, none⟩, 1, 1, A, F.P, c, 0, 0, none, none⟩ := s8.put raw7
    have c8 : Chg [(ab, 200)] h7 h8 := s8.chg raw7 (.head _)
    have x8 : Ext h h8 := (x5.trans n7.ext).stored s8 gab
    have hlb : F.lb < h.size := by obtain ⟨cs, hc⟩ := HM.lenl; exact blk_lt hc
    refine ⟨ab, _, rfl, ⟨raw8, rfl, by simp, (((o4.chg c5 (fun b _ => by simp)).ext n7.ext).chg c8 (fun b _ => by simp)).mono hB, fun b hb => by have := o4.ge b hb; omega, rfl, .inr ⟨nb, [], rfl, Nat.le_trans hB (Nat.le_trans x5.size (by have := n7.at_; omega)), c8.blk N7 (by simp), rfl, Nat.le_refl 1⟩, H.ext x8, HM.ext x8, Nat.le_trans hB gab, b1, b2, b3, Nat.le_trans hB x8.size, hw, by simp; omega, fun p hp => ⟨x8.blk (hpr p hp).1, (hpr p hp).2⟩⟩, rfl, rfl, rfl, rfl, x8⟩
theorem cCommand_set (H : FabAt h F) (HM : MemAt h F.mb F.cb F.lb M) (b1 : B ≤ F.mb) (b2 : B ≤ F.cb) (b3 : B ≤ F.lb) (hB : B ≤ h.size) (hpr : ∀ p ∈ F.prot, h[p.1]? = some (.cells p.2 3 (0, 0)) ∧ p.1 ≠ F.lb) {who : Int} (hw : 0 ≤ who) {port : Nat} (hp : port < F.P) {state : Int} (hs : rightSt state = true) (ht : M.t < 900000) :
    HCalls Tryz.prog 28 #[.pointer (some ⟨F.fb, 0, none⟩), .int .i64 who, .agg (encO17 ⟨8, (port : Int), 0, 0, state, 0, 0, 0, 0, 0, 0, 0, 0, 0⟩).toArray] h (fun v h' => ∃ ab x, v = .pointer (some ⟨ab, 0, none⟩) ∧ CaS h' B F ab x [port] M ⟨who, M.t, 0, 0, ⟨8, (port : Int), 0, 0, state, 0, 0, 0, 0, 0, 0, 0, 0, 0⟩, 0⟩ ∧ x.o = ⟨8, (port : Int), 0, 0, state, 0, 0, 0, 0, 0, 0, 0, 0, 0⟩ ∧ x.who = who ∧ x.held = 0 ∧ x.next = .func (.func 81) #[] #[] ∧ Ext h h') := by
  have p2 := H.p2
  refine xcalls env_cCommand Tryz.func28 rfl (by kernel_rfl) rfl (by kernel_rfl) ?_
  intro ob h1 n1
  have hob : h1[ob]? = some (.cells (encO17 ⟨8, (port : Int), 0, 0, state, 0, 0, 0, 0, 0, 0, 0, 0, 0⟩).toArray 107 (0, 0)) := n1.this
  refine xif_false (decide_eq_false ?_) ?_
  · show ¬ who < 0
    omega
  refine ⟨encO17 ⟨8, (port : Int), 0, 0, state, 0, 0, 0, 0, 0, 0, 0, 0, 0⟩, rfl, reads_all hob, ?_⟩
  intro ab h2 n2
  have hob2 := n2.ext.blk hob
  have x2 := n1.ext.trans n2.ext
  have gab : h.size ≤ ab := n2.ge n1.ext
  have raw2 : CaRaw h2 ab ⟨F.fb, who, ⟨8, (port : Int), 0, 0, state, 0, 0, 0, 0, 0, 0, 0, 0, 0⟩, .nilFunc, none, 0, 0, none, 0, 0, 0, 0, none, none⟩ := n2.this
  repeat (first | refine ⟨_, cell_blk (hob2) rfl, ?_⟩)
  refine (cHas_spec (H.ext x2) port).mono ?_
  rintro v h3 ⟨rfl, rfl⟩
  refine xif_false (has_yes' hp) ?_
  repeat (first | refine ⟨_, cell_blk (hob2) rfl, ?_⟩)
  refine (pRight_spec state).mono ?_
  rintro v h3 ⟨rfl, rfl⟩
  refine xif_false (by rw [hs]; rfl) ?_
  repeat (first | refine ⟨_, cell_blk (hob2) rfl, ?_⟩)
  intro kb h3 n3
  have raw3 := n3.ext.blk raw2
  have hob3 := n3.ext.blk hob2
  have x3 := x2.trans n3.ext
  refine ⟨rfl, rfl, canset_blk raw3 rfl, fun h4 s4 => ?_⟩
  have raw4 : CaRaw h4 ab ⟨F.fb, who, ⟨8, (port : Int), 0, 0, state, 0, 0, 0, 0, 0, 0, 0, 0, 0⟩, .nilFunc, none, 0, 0, some ⟨kb, 0, none⟩, 1, 1, 0, 0, none, none⟩ := s4.put raw3
  have c4 : Chg [(ab, 200)] h3 h4 := s4.chg raw3 (.head _)
  have o4 : OwnA encI 1 3 h.size h4 (some ⟨kb, 0, none⟩) 1 (lsI [port]) := .inr ⟨kb, [], rfl, n3.ge x2, c4.blk n3.this (by simp), rfl, Nat.le_refl 1⟩
  refine ⟨rfl, rfl, canset_blk raw4 rfl, fun h5 s5 => ?_⟩
  have raw5 : CaRaw h5 ab ⟨F.fb, who, ⟨8, (port : Int), 0, 0, state, 0, 0, 0, 0, 0, 0, 0, 0, 0⟩, .func (.func 81) #[] #[], none, 0, 0, some ⟨kb, 0, none⟩, 1, 1, 0, 0, none, none⟩ := s5.put raw4
  have c5 : Chg [(ab, 200)] h4 h5 := s5.chg raw4 (.head _)
  have x5 := (x3.stored s4 gab).stored s5 gab
  have hob5 := c5.blk (c4.blk hob3 (by simp)) (by simp)
  obtain ⟨RA5, rc5, hb5, _⟩ := (H.ext x5).blk
  repeat (first | refine ⟨_, cell_blk (raw5) rfl, ?_⟩ | refine ⟨_, cell_blk (hb5) rfl, ?_⟩)
  refine ⟨encO17 ⟨8, (port : Int), 0, 0, state, 0, 0, 0, 0, 0, 0, 0, 0, 0⟩, rfl, reads_all hob5, ?_⟩
  refine (mTime_spec (HM.ext x5)).mono ?_
  rintro v h6 ⟨rfl, rfl⟩
  refine ⟨⟨reads_all hob5, trivial⟩, ?_⟩
  intro nb h7 n7
  have raw7 := n7.ext.blk raw5
  have N7 : h7[nb]? = some (.cells (([⟨who, (M.t : Int), 0, 0, ⟨8, (port : Int), 0, 0, state, 0, 0, 0, 0, 0, 0, 0, 0, 0⟩, 0⟩] : List He).flatMap encHe ++ []).toArray 150 (0, 0)) := n7.this
  refine ⟨rfl, rfl, canset_blk raw7 rfl, fun h8 s8 => ?_⟩
  have raw8 : CaRaw h8 ab ⟨F.fb, who, ⟨8, (port : Int), 0, 0, state, 0, 0, 0, 0, 0, 0, 0, 0, 0⟩, .func (.func 81) #[] #[], some ⟨nb, 0, none⟩, 1, 1, some ⟨kb, 0, none⟩, 1, 1, 0, 0, none, none⟩ := s8.put raw7
  have c8 : Chg [(ab, 200)] h7 h8 := s8.chg raw7 (.head _)
  have x8 : Ext h h8 := (x5.trans n7.ext).stored s8 gab
  have hlb : F.lb < h.size := by obtain ⟨cs, hc⟩ := HM.lenl; exact blk_lt hc
  refine ⟨ab, _, rfl, ⟨raw8, rfl, by simp, (((o4.chg c5 (fun b _ => by simp)).ext n7.ext).chg c8 (fun b _ => by simp)).mono hB, fun b hb => by have := o4.ge b hb; omega, rfl, .inr ⟨nb, [], rfl, Nat.le_trans hB (Nat.le_trans x5.size (by have := n7.at_; omega)), c8.blk N7 (by simp), rfl, Nat.le_refl 1⟩, H.ext x8, HM.ext x8, Nat.le_trans hB gab, b1, b2, b3, Nat.le_trans hB x8.size, hw, by simp, fun p hp => ⟨x8.blk (hpr p hp).1, (hpr p hp).2⟩⟩, rfl, rfl, rfl, rfl, x8⟩
end
end Go.Proofs.YtjjempefncgfhaaGreatDoorE
/- A port is set to Forwarding; an order goes to its end; what it answers. Conditions: the port wasn't set yet. -/
set_option linter.unusedVariables false
set_option linter.unusedSimpArgs false
set_option maxRecDepth 100000
namespace Go.Proofs.YtjjempefncgfhaaGreatDoorE
open Go Go.Proofs
section
variable {h h' : Heap} {B : Nat} {F : Fb} {ab : Nat} {x : CaV} {ls : List Nat} {M : MemS} {E : He}
theorem pWord_260 : HCalls Tryz.prog 226 #[.agg #[.int .i64 4, .int .u32 1]] h (fun v h' => v = .int .u64 260 ∧ Ext h h') := by
  refine xcalls env0 Tryz.func226 rfl (by kernel_rfl) rfl (by kernel_rfl) ?_
  intro b h1 n1
  refine ⟨_, cell_blk n1.this rfl, ?_⟩
  refine (pRight_spec 4).mono ?_
  rintro v h2 ⟨rfl, rfl⟩
  refine ⟨_, cell_blk n1.this rfl, _, cell_blk n1.this rfl, ?_⟩
  refine ⟨by decide, ?_, n1.ext⟩
  kernel_rfl
theorem pOf_260 : HCalls Tryz.prog 63 #[.int .u64 260] h (fun v h' => v = .tuple #[.agg #[.int .i64 4, .int .u32 1], .bool true] ∧ Ext h h') := by
  refine xcalls env0 Tryz.func63 rfl (by kernel_rfl) rfl (by kernel_rfl) ?_
  intro b0 h1 n1
  refine ⟨by decide, ?_⟩
  intro b1 h2 n2
  have x02 : Ext h h2 := n1.ext.trans n2.ext
  refine ⟨rfl, rfl, canset_blk n2.this rfl, fun h3 s3 => ?_⟩
  have hb1 : h3[b1]? = some (.cells [Value.int .i64 4, Value.int .u32 1].toArray 167 (0, 0)) := by
    have e : ([Value.int .i64 (IntKind.i64.wrap (IntKind.u64.wrap ((BitVec.ofInt 64 260 &&& BitVec.ofInt 64 255).toNat : Int))), Value.int .u32 (IntKind.u32.wrap (Int.fdiv 260 (2 ^ min (Int.toNat 8) 64)))] : List Value) = [Value.int .i64 4, Value.int .u32 1] := by kernel_rfl
    rw [← e]
    exact n2.fill (vs := [Value.int .i64 (IntKind.i64.wrap (IntKind.u64.wrap ((BitVec.ofInt 64 260 &&& BitVec.ofInt 64 255).toNat : Int))), Value.int .u32 (IntKind.u32.wrap (Int.fdiv 260 (2 ^ min (Int.toNat 8) 64)))]) rfl s3
  have x3 : Ext h h3 := x02.stored s3 (n2.ge n1.ext)
  refine ⟨by decide, _, cell_blk hb1 rfl, ?_⟩
  refine (pRight_spec 4).mono ?_
  rintro v h4 ⟨rfl, rfl⟩
  have hb0 := s3.blk (n2.ext.blk n1.this) (show b0 ≠ b1 by have := n2.at_; have := blk_lt n1.this; omega)
  refine ⟨[.int .i64 4, .int .u32 1], rfl, reads_all hb1, rfl, rfl, canset_blk hb0 rfl, fun h5 s5 => ?_⟩
  have hb5 : h5[b0]? = some (.cells [Value.int .i64 4, Value.int .u32 1].toArray _ (0, 0)) := s5.put hb0
  exact ⟨[.int .i64 4, .int .u32 1], rfl, reads_all hb5, rfl, x3.stored s5 (n1.ge (Ext.refl _))⟩
theorem cStand_260 (H : FabAt h F) (HM : MemAt h F.mb F.cb F.lb M) {p : Nat} (hp : p < F.P) (hx : M.cells[p]? = some 260) (ht : M.t < 1000000) : HCalls Tryz.prog 188 #[.pointer (some ⟨F.fb, 0, none⟩), .int .i64 p] h (fun v h' => v = .agg #[.int .i64 4, .int .u32 1] ∧ MemAt h' F.mb F.cb F.lb { M with t := M.t + 1 } ∧ Chg [(F.mb, 205)] h h') := by
  obtain ⟨RA, rc, hb', hr⟩ := H.blk
  refine xcalls env0 Tryz.func188 rfl (by kernel_rfl) rfl (by kernel_rfl) ?_
  intro b0 h1 n1
  have ob : h1[F.fb]? = _ := n1.ext.blk hb'
  refine (cHas_spec (H.ext n1.ext) p).mono ?_
  rintro v h2 ⟨rfl, rfl⟩
  refine xif_false (has_yes' hp) ?_
  repeat (first | refine ⟨_, cell_blk (ob) rfl, ?_⟩)
  refine (mLoad_spec (HM.ext n1.ext) hx ht).mono ?_
  rintro v h3 ⟨rfl, M3, c3⟩
  refine pOf_260.mono ?_
  rintro v h4 ⟨rfl, x4⟩
  intro b1 h5 n5
  refine ⟨rfl, rfl, canset_blk n5.this rfl, fun h6 s6 => ?_⟩
  have hb6 : h6[b1]? = some (.cells [Value.int .i64 4, Value.int .u32 1].toArray _ (0, 0)) := s6.put n5.this
  have x46 : Ext h4 h6 := n5.ext.stored s6 (n5.ge (Ext.refl _))
  have hb0 : h6[b0]? = some (.cells [Value.int .i64 0, Value.int .u32 0].toArray _ (0, 0)) := x46.blk (x4.blk (c3.blk n1.this (by simp)))
  refine ⟨[.int .i64 4, .int .u32 1], rfl, reads_all hb6, rfl, rfl, canset_blk hb0 rfl, fun h7 s7 => ?_⟩
  have hb7 : h7[b0]? = some (.cells [Value.int .i64 4, Value.int .u32 1].toArray _ (0, 0)) := s7.put hb0
  have hlt : h.size ≤ b0 := n1.ge (Ext.refl _)
  have M6 := (M3.ext x4).ext x46
  have c7 : Chg [(b0, 167)] h6 h7 := s7.chg hb0 (.head _)
  exact ⟨[.int .i64 4, .int .u32 1], rfl, reads_all hb7, rfl, M6.chg c7 (by simp) (by simp) (by simp), (((n1.ext.chg _).trans c3).trans ((x4.trans x46).chg _)).stored s7 hlt⟩
theorem aWrite_spec (S : CaS h B F ab x ls M E) {p : Nat} (hp : x.o.port = (p : Int)) (hst : x.o.state = 4) (hpP : p < F.P) (hc : p < M.cells.length) (ht : M.t < 900000) :
    HCalls Tryz.prog 190 #[.pointer (some ⟨ab, 0, none⟩), .agg #[.int .i64 0, .int .u32 0]] h (fun v h' => v = .func (.func 224) #[] #[] ∧ CaS h' B F ab x ls { M with cells := M.cells.set p 260, t := M.t + 1 } { E with mark := ((M.t + 1 : Nat) : Int), fin := ((M.t + 1 : Nat) : Int), ans := 1 } ∧ ChgT B TyC h h') := by
  have raw := S.raw
  have hf := S.xf
  obtain ⟨RA, rc, hb', hr⟩ := S.fab.blk
  obtain ⟨f', who, o, next, gA, gn, gc, kA, kn, kc, held, from_, pop, act⟩ := x
  simp only at hf hp hst
  subst hf
  refine xcalls env_aWrite Tryz.func190 rfl (by kernel_rfl) rfl (by kernel_rfl) ?_
  intro sb h1 n1
  have S1 := S.ext n1.ext
  have raw1 := S1.raw
  have set4 : ∀ g : Heap, HCalls Tryz.prog 225 #[.agg #[.int .i64 0, .int .u32 0], .int .i64 o.state] g (fun v h' => v = .tuple #[.agg #[.int .i64 4, .int .u32 1], .int .i64 0] ∧ Ext g h') := by
    intro g
    rw [hst]
    refine (pSet_spec ⟨0, 0⟩ 4).mono ?_
    rintro v h3 ⟨rfl, x3⟩
    exact ⟨by kernel_rfl, x3⟩
  refine ⟨Nat, fun z => [(0, .pointer (some ⟨ab, 0, none⟩)), (5, .pointer (some ⟨z, 0, none⟩))], fun z h' => h'[z]? = some (.cells [Value.int .i64 4, Value.int .u32 1].toArray 167 (0, 0)) ∧ Ext h1 h', ?_, ?_⟩
  · refine ⟨[.int .i64 0, .int .u32 0], rfl, reads_all n1.this, ?_⟩
    repeat (first | refine ⟨_, cell_blk (raw1) rfl, ?_⟩)
    refine ⟨?_, ?_⟩
    · refine (set4 _).mono ?_
      rintro v h3 ⟨rfl, x3⟩
      intro tb h4 n4
      refine ⟨⟨cell_blk ((S1.ext x3).ext n4.ext).raw rfl, reads_all ((x3.trans n4.ext).blk n1.this), trivial⟩, ?_⟩
      refine ⟨rfl, rfl, canset_blk n4.this rfl, fun h5 s5 => ?_⟩
      exact ⟨tb, ⟨rfl, rfl, trivial⟩, s5.put n4.this, (x3.trans n4.ext).stored s5 (n4.ge x3)⟩
    · intro tb h2 n2
      refine ⟨⟨cell_blk (S1.ext n2.ext).raw rfl, reads_all (n2.ext.blk n1.this), trivial⟩, ?_⟩
      refine (set4 _).mono ?_
      rintro v h3 ⟨rfl, x3⟩
      refine ⟨rfl, rfl, canset_blk (x3.blk n2.this) rfl, fun h5 s5 => ?_⟩
      exact ⟨tb, ⟨rfl, rfl, trivial⟩, s5.put (x3.blk n2.this), (n2.ext.trans x3).stored s5 (n2.ge (Ext.refl _))⟩
  rintro tb h4 ⟨tb4, x14⟩
  have S4 := S1.ext x14
  have raw4 := S4.raw
  obtain ⟨RA4, rc4, hb4, _⟩ := S4.fab.blk
  repeat (first | refine ⟨_, cell_blk (raw4) rfl, ?_⟩ | refine ⟨_, cell_blk (hb4) rfl, ?_⟩)
  refine ⟨[.int .i64 4, .int .u32 1], rfl, reads_all tb4, ?_⟩
  refine pWord_260.mono ?_
  rintro v h5 ⟨rfl, x5⟩
  have S5 := S4.ext x5
  have raw5 := S5.raw
  obtain ⟨RA5, rc5, hb5, _⟩ := S5.fab.blk
  try (refine ⟨by ((repeat (first | refine ⟨cell_blk (raw5) rfl, ?_⟩ | refine ⟨cell_blk (hb5) rfl, ?_⟩)); exact trivial), ?_⟩)
  refine (mStore_at S5.mem (i := p) (x := 260) hp rfl hc (by omega)).mono ?_
  rintro v h6 ⟨rfl, m6, c6⟩
  have S6 := S5.memory c6 m6
  have tb6 := c6.blk (x5.blk tb4) (by simp [ML])
  refine (aMarks_spec S6).mono ?_
  rintro v h7 ⟨rfl, S7, c7⟩
  have tb7 := c7.typ _ _ _ _ tb6 (by decide)
  repeat (first | refine ⟨_, cell_blk (tb7) rfl, ?_⟩)
  refine (aDone_spec S7 1).mono ?_
  rintro v h8 ⟨rfl, S8, c8⟩
  have tb8 := c8.typ _ _ _ _ tb7 (by decide)
  repeat (first | refine ⟨_, cell_blk (tb8) rfl, ?_⟩)
  refine (pForwards_spec 4).mono ?_
  rintro v h9 ⟨rfl, rfl⟩
  exact ⟨rfl, S8, ((((n1.ext.trans x14).trans x5).chgT S.hB).trans (S5.frM c6)).trans (c7.trans c8)⟩
/-- How the port stands is read. -/
theorem aRead_spec (S : CaS h B F ab x ls M E) {p : Nat} (hp : x.o.port = (p : Int)) (hpP : p < F.P) (hx : M.cells[p]? = some 0) (ht : M.t < 900000) :
    HCalls Tryz.prog 136 #[.pointer (some ⟨ab, 0, none⟩)] h (fun v h' => ∃ sb, v = .func (.func 189) #[] #[.pointer (some ⟨sb, 0, none⟩)] ∧ h'[sb]? = some (.cells [Value.int .i64 0, Value.int .u32 0].toArray 167 (0, 0)) ∧ CaS h' B F ab x ls { M with t := M.t + 1 } E ∧ ChgT B TyC h h') := by
  have raw := S.raw
  have hf := S.xf
  obtain ⟨f', who, o, next, gA, gn, gc, kA, kn, kc, held, from_, pop, act⟩ := x
  simp only at hf hp
  subst hf
  refine xcalls env_aRead Tryz.func136 rfl (by kernel_rfl) rfl (by kernel_rfl) ?_
  have stand : ∀ g, Ext h g → HCalls Tryz.prog 188 #[.pointer (some ⟨F.fb, 0, none⟩), .int .i64 o.port] g (fun v h' => v = .agg #[.int .i64 0, .int .u32 0] ∧ MemAt h' F.mb F.cb F.lb { M with t := M.t + 1 } ∧ Chg (ML F.mb F.cb F.lb) g h') := by
    intro g e
    rw [hp]
    refine (cStand_spec (S.ext e).fab (S.ext e).mem hpP hx (by omega)).mono ?_
    rintro v h1 ⟨rfl, m1, c1⟩
    exact ⟨rfl, m1, c1.mono (by first | (simp; done) | (intro p hp; simp [hp]; done) | (simp [ML]; done) | (intro p hp; simp [ML] at hp ⊢; rcases hp with h | h | h <;> simp [h]; done))⟩
  repeat (first | refine ⟨_, cell_blk (raw) rfl, ?_⟩)
  refine ⟨?_, ?_⟩
  · refine (stand h (Ext.refl _)).mono ?_
    rintro v h1 ⟨rfl, m1, c1⟩
    have S1 := S.memory c1 m1
    intro sb h2 n2
    have S2 := S1.ext n2.ext
    have raw2 := S2.raw
    obtain ⟨RA2, rc2, hb2, _⟩ := S2.fab.blk
    try (refine ⟨by ((repeat (first | refine ⟨cell_blk (raw2) rfl, ?_⟩ | refine ⟨cell_blk (hb2) rfl, ?_⟩)); exact trivial), ?_⟩)
    refine ⟨rfl, rfl, canset_blk n2.this rfl, fun h3 s3 => ?_⟩
    have x3 : Ext h1 h3 := n2.ext.stored s3 (n2.ge (Ext.refl _))
    exact ⟨sb, rfl, s3.put n2.this, S1.ext x3, (S.frM c1).trans (x3.chgT S1.hB)⟩
  · intro sb h2 n2
    have S2 := S.ext n2.ext
    have raw2 := S2.raw
    obtain ⟨RA2, rc2, hb2, _⟩ := S2.fab.blk
    try (refine ⟨by ((repeat (first | refine ⟨cell_blk (raw2) rfl, ?_⟩ | refine ⟨cell_blk (hb2) rfl, ?_⟩)); exact trivial), ?_⟩)
    refine (stand h2 n2.ext).mono ?_
    rintro v h3 ⟨rfl, m3, c3⟩
    have S3 := S2.memory c3 m3
    have hsb := c3.blk n2.this (by simp [ML])
    have raw3 := S3.raw
    obtain ⟨RA3, rc3, hb3, _⟩ := S3.fab.blk
    try (refine ⟨by ((repeat (first | refine ⟨cell_blk (raw3) rfl, ?_⟩ | refine ⟨cell_blk (hb3) rfl, ?_⟩)); exact trivial), ?_⟩)
    refine ⟨rfl, rfl, canset_blk hsb rfl, fun h4 s4 => ?_⟩
    have e4 : h4 = h3 := s4.same hsb rfl
    subst e4
    exact ⟨sb, rfl, hsb, S3, (n2.ext.chgT S.hB).trans (S2.frM c3)⟩
theorem aRead1_spec (S : CaS h B F ab x ls M E) {sb : Nat} (hs : h[sb]? = some (.cells [Value.int .i64 0, Value.int .u32 0].toArray 167 (0, 0))) {p : Nat} (hp : x.o.port = (p : Int)) (hst : x.o.state = 4) (hpP : p < F.P) (hc : p < M.cells.length) (ht : M.t < 900000) :
    HCalls Tryz.prog 189 #[.pointer (some ⟨ab, 0, none⟩), .pointer (some ⟨sb, 0, none⟩)] h (fun v h' => v = .func (.func 224) #[] #[] ∧ CaS h' B F ab x ls { M with cells := M.cells.set p 260, t := M.t + 1 } { E with mark := ((M.t + 1 : Nat) : Int), fin := ((M.t + 1 : Nat) : Int), ans := 1 } ∧ ChgT B TyC h h') := by
  refine xcalls env0 Tryz.func189 rfl (by kernel_rfl) rfl (by kernel_rfl) ?_
  refine ⟨[.int .i64 0, .int .u32 0], rfl, reads_all hs, ?_⟩
  refine (aWrite_spec S hp hst hpP hc ht).mono ?_
  rintro v h1 ⟨rfl, r⟩
  exact ⟨rfl, r⟩
theorem aLog_spec (S : CaS h B F ab x ls M E) : HCalls Tryz.prog 35 #[.pointer (some ⟨ab, 0, none⟩)] h (fun v h' => ∃ A c, v = .slice A 1 c ∧ Ext h h') := by
  have raw := S.raw
  have hgn := S.gn
  have ol := S.log
  obtain ⟨f', who, o, next, gA, gn, gc, kA, kn, kc, held, from_, pop, act⟩ := x
  simp only at hgn ol
  subst hgn
  refine xcalls env0 Tryz.func35 rfl (by kernel_rfl) rfl (by kernel_rfl) ?_
  repeat (first | refine ⟨_, cell_blk (raw) rfl, ?_⟩)
  refine (hClone_spec ol rfl (by show 1 ≤ 100000; decide)).mono ?_
  rintro v h1 ⟨A', c', rfl, o1, x1⟩
  exact ⟨A', c', rfl, x1⟩
end
end Go.Proofs.YtjjempefncgfhaaGreatDoorE
