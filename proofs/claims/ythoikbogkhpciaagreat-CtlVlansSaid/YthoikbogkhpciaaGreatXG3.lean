/- Orders are begun: a VLAN is set, a port is set. Conditions: the order may be. -/
import Derived.Test.YthoikbogkhpciaaGreatXG2
set_option linter.unusedVariables false
set_option linter.unusedSimpArgs false
set_option maxRecDepth 100000
namespace Go.Proofs.YthoikbogkhpciaaGreatE
open Go Go.Proofs
def env_cCommand : Nat → Ann
  | 22 => ⟨.op 0 [] <| .op 1 [] <| .op 2 [] <| .op 3 [] <| .op 4 [] <| .op 5 [] <| .op 7 [] <| .op 6 [7] <| .op 8 [] <| .op 9 [] <| .op 10 [] <| .op 11 [] <| .op 12 [] <| .nil, [0, 0, 0, 4, 12, 28, 60, 0, 254, 510, 1023, 2047, 4095], false⟩
  | _ => ⟨.nil, [], false⟩
section
variable {h h' : Heap} {B : Nat} {F : Fb} {M : MemS}
theorem inInfo : (Tryz.prog.info? 3).map (fun i => (i.size, i.bytes)) = some (1, 8) := by kernel_rfl
theorem inZero : xzero Tryz.prog 3 = some [.int .i64 0] := by kernel_rfl
theorem cCommand_vlan (H : FabAt h F) (HM : MemAt h F.mb F.cb F.lb M) (b1 : B ≤ F.mb) (b2 : B ≤ F.cb) (b3 : B ≤ F.lb) (hB : B ≤ h.size) {who : Int} (hw : 0 ≤ who) {o : Op17} (hk : o.kind = 9) {i : Nat} (hi : findV o.vid F.vls 0 = (i : Int)) (ht : M.t < 900000) :
    HCalls Tryz.prog 26 #[.pointer (some ⟨F.fb, 0, none⟩), .int .i64 who, .agg (encO17 o).toArray] h (fun v h' => ∃ ab x, v = .pointer (some ⟨ab, 0, none⟩) ∧ CaS h' B F ab x (List.range F.P) M ⟨who, M.t, 0, 0, o, 0⟩ ∧ x.o = o ∧ x.who = who ∧ x.held = 0 ∧ x.next = .func (.func 69) #[] #[] ∧ Ext h h') := by
  have p2 := H.p2
  obtain ⟨kind, port, to, vid, state, kvid, mac, mem, unt, now, limit, shard, bucket, id⟩ := o
  simp only at hk hi
  subst hk
  refine xcalls env_cCommand Tryz.func26 rfl (by kernel_rfl) rfl (by kernel_rfl) ?_
  intro ob h1 n1
  have hob : h1[ob]? = some (.cells (encO17 ⟨9, port, to, vid, state, kvid, mac, mem, unt, now, limit, shard, bucket, id⟩).toArray 68 (0, 0)) := n1.this
  refine xif_false (decide_eq_false ?_) ?_
  · show ¬ who < 0
    omega
  refine ⟨encO17 ⟨9, port, to, vid, state, kvid, mac, mem, unt, now, limit, shard, bucket, id⟩, rfl, reads_all hob, ?_⟩
  intro ab h2 n2
  have hob2 := n2.ext.blk hob
  have x2 := n1.ext.trans n2.ext
  have raw2 : CaRaw h2 ab ⟨F.fb, who, ⟨9, port, to, vid, state, kvid, mac, mem, unt, now, limit, shard, bucket, id⟩, .nilFunc, none, 0, 0, none, 0, 0, 0, 0, none, none⟩ := n2.this
  repeat (first | refine ⟨_, cell_blk (hob2) rfl, ?_⟩)
  refine (cVlan_spec (H.ext x2) vid).mono ?_
  rintro v h3 ⟨rfl, x3⟩
  rw [hi]
  obtain ⟨RA, rc, hb', hr⟩ := ((H.ext x2).ext x3).blk
  have raw3 := x3.blk raw2
  have hob3 := x3.blk hob2
  have x03 := x2.trans x3
  have gab : h.size ≤ ab := n2.ge n1.ext
  repeat (first | refine ⟨_, cell_blk (hb') rfl, ?_⟩)
  refine ⟨Nat × Option Addr × Nat, fun z => [(0, .pointer (some ⟨F.fb, 0, none⟩)), (1, .int .i64 who), (5, .pointer (some ⟨ob, 0, none⟩)), (7, .pointer (some ⟨ab, 0, none⟩)), (70, .int .i64 F.P), (71, .int .i64 z.1)],
    fun z h' => z.1 ≤ F.P ∧ CaRaw h' ab ⟨F.fb, who, ⟨9, port, to, vid, state, kvid, mac, mem, unt, now, limit, shard, bucket, id⟩, .nilFunc, none, 0, 0, z.2.1, z.1, z.2.2, 0, 0, none, none⟩ ∧ OwnA encI 1 3 h.size h' z.2.1 z.2.2 (lsI (List.range z.1)) ∧ h'[ob]? = some (.cells (encO17 ⟨9, port, to, vid, state, kvid, mac, mem, unt, now, limit, shard, bucket, id⟩).toArray 68 (0, 0)) ∧ Ext h h', fun z => F.P - z.1, (0, none, 0), ⟨rfl, rfl, rfl, rfl, rfl, rfl, trivial⟩, ⟨Nat.zero_le _, raw3, .inl ⟨rfl, rfl, rfl⟩, hob3, x03⟩, ?_⟩
  rintro ⟨k, A, c⟩ h4 ⟨hk, raw4, o4, hob4, x4⟩
  simp only at hk raw4 o4
  refine xif_of (fun q => ?_) (fun q => ?_)
  · have q : k < F.P := by have := of_decide_eq_true q; omega
    repeat (first | refine ⟨_, cell_blk (raw4) rfl, ?_⟩)
    intro nb h5 n5
    have raw5 := n5.ext.blk raw4
    try (refine ⟨by ((repeat (first | refine ⟨cell_blk (raw5) rfl, ?_⟩)); exact trivial), ?_⟩)
    have n5' : New h4 h5 nb (.cells (encI (k : Int)).toArray 3) := n5
    refine xappend_one' inInfo inZero rfl (by decide) encI_len encI_one o4 n5' (by unfold lsI; simp) (by show (k + 1) * 8 ≤ 140737488355328; omega) x4.size fun A2 c2 h6 o6 K6 _ => ?_
    have raw6 : CaRaw h6 ab _ := K6.blkT o4 raw4 (by decide)
    have hob6 := K6.blkT o4 hob4 (by decide)
    refine ⟨rfl, rfl, canset_blk raw6 rfl, fun h7 s7 => ?_⟩
    have raw7 : CaRaw h7 ab ⟨F.fb, who, ⟨9, port, to, vid, state, kvid, mac, mem, unt, now, limit, shard, bucket, id⟩, .nilFunc, none, 0, 0, A2, k + 1, c2, 0, 0, none, none⟩ := s7.put raw6
    have c7 : Chg [(ab, 142)] h6 h7 := s7.chg raw6 (.head _)
    refine ⟨(k + 1, A2, c2), ⟨rfl, rfl, rfl, rfl, rfl, slot_inc (by omega), trivial⟩, ⟨by show k + 1 ≤ F.P; omega, raw7, ?_, c7.blk hob6 (by simp), (K6.ext x4 o4.ge).stored s7 gab⟩, by show F.P - (k + 1) < F.P - k; omega⟩
    have e : lsI (List.range (k + 1)) = lsI (List.range k) ++ [(k : Int)] := by unfold lsI; rw [List.range_succ, List.map_append]; rfl
    show OwnA encI 1 3 h.size h7 A2 c2 (lsI (List.range (k + 1)))
    rw [e]
    exact o6.chg c7 (fun b _ => by simp)
  · have q : ¬ (k : Int) < F.P := of_decide_eq_false q
    have e : k = F.P := by omega
    subst e
    refine ⟨rfl, rfl, canset_blk raw4 rfl, fun h5 s5 => ?_⟩
    have raw5 : CaRaw h5 ab ⟨F.fb, who, ⟨9, port, to, vid, state, kvid, mac, mem, unt, now, limit, shard, bucket, id⟩, .func (.func 69) #[] #[], none, 0, 0, A, F.P, c, 0, 0, none, none⟩ := s5.put raw4
    have c5 : Chg [(ab, 142)] h4 h5 := s5.chg raw4 (.head _)
    have x5 := x4.stored s5 gab
    have hob5 := c5.blk hob4 (by simp)
    obtain ⟨RA5, rc5, hb5, _⟩ := (H.ext x5).blk
    repeat (first | refine ⟨_, cell_blk (raw5) rfl, ?_⟩ | refine ⟨_, cell_blk (hb5) rfl, ?_⟩)
    refine ⟨encO17 ⟨9, port, to, vid, state, kvid, mac, mem, unt, now, limit, shard, bucket, id⟩, rfl, reads_all hob5, ?_⟩
    refine (mTime_spec (HM.ext x5)).mono ?_
    rintro v h6 ⟨rfl, rfl⟩
    refine ⟨⟨reads_all hob5, trivial⟩, ?_⟩
    intro nb h7 n7
    have raw7 := n7.ext.blk raw5
    have N7 : h7[nb]? = some (.cells (([⟨who, (M.t : Int), 0, 0, ⟨9, port, to, vid, state, kvid, mac, mem, unt, now, limit, shard, bucket, id⟩, 0⟩] : List He).flatMap encHe ++ []).toArray 75 (0, 0)) := n7.this
    refine ⟨rfl, rfl, canset_blk raw7 rfl, fun h8 s8 => ?_⟩
    have raw8 : CaRaw h8 ab ⟨F.fb, who, ⟨9, port, to, vid, state, kvid, mac, mem, unt, now, limit, shard, bucket, id⟩, .func (.func 69) #[] #[], some ⟨nb, 0, none⟩, 1, 1, A, F.P, c, 0, 0, none, none⟩ := s8.put raw7
    have c8 : Chg [(ab, 142)] h7 h8 := s8.chg raw7 (.head _)
    have x8 : Ext h h8 := (x5.trans n7.ext).stored s8 gab
    have hlb : F.lb < h.size := by obtain ⟨cs, hc⟩ := HM.lenl; exact blk_lt hc
    refine ⟨ab, _, rfl, ⟨raw8, rfl, by simp, (((o4.chg c5 (fun b _ => by simp)).ext n7.ext).chg c8 (fun b _ => by simp)).mono hB, fun b hb => by have := o4.ge b hb; omega, rfl, .inr ⟨nb, [], rfl, Nat.le_trans hB (Nat.le_trans x5.size (by have := n7.at_; omega)), c8.blk N7 (by simp), rfl, Nat.le_refl 1⟩, H.ext x8, HM.ext x8, Nat.le_trans hB gab, b1, b2, b3, Nat.le_trans hB x8.size, hw, by simp; omega⟩, rfl, rfl, rfl, rfl, x8⟩
theorem cCommand_set (H : FabAt h F) (HM : MemAt h F.mb F.cb F.lb M) (b1 : B ≤ F.mb) (b2 : B ≤ F.cb) (b3 : B ≤ F.lb) (hB : B ≤ h.size) {who : Int} (hw : 0 ≤ who) {port : Nat} (hp : port < F.P) {state : Int} (hs : rightSt state = true) (ht : M.t < 900000) :
    HCalls Tryz.prog 26 #[.pointer (some ⟨F.fb, 0, none⟩), .int .i64 who, .agg (encO17 ⟨8, (port : Int), 0, 0, state, 0, 0, 0, 0, 0, 0, 0, 0, 0⟩).toArray] h (fun v h' => ∃ ab x, v = .pointer (some ⟨ab, 0, none⟩) ∧ CaS h' B F ab x [port] M ⟨who, M.t, 0, 0, ⟨8, (port : Int), 0, 0, state, 0, 0, 0, 0, 0, 0, 0, 0, 0⟩, 0⟩ ∧ x.o = ⟨8, (port : Int), 0, 0, state, 0, 0, 0, 0, 0, 0, 0, 0, 0⟩ ∧ x.who = who ∧ x.held = 0 ∧ x.next = .func (.func 69) #[] #[] ∧ Ext h h') := by
  have p2 := H.p2
  refine xcalls env_cCommand Tryz.func26 rfl (by kernel_rfl) rfl (by kernel_rfl) ?_
  intro ob h1 n1
  have hob : h1[ob]? = some (.cells (encO17 ⟨8, (port : Int), 0, 0, state, 0, 0, 0, 0, 0, 0, 0, 0, 0⟩).toArray 68 (0, 0)) := n1.this
  refine xif_false (decide_eq_false ?_) ?_
  · show ¬ who < 0
    omega
  refine ⟨encO17 ⟨8, (port : Int), 0, 0, state, 0, 0, 0, 0, 0, 0, 0, 0, 0⟩, rfl, reads_all hob, ?_⟩
  intro ab h2 n2
  have hob2 := n2.ext.blk hob
  have x2 := n1.ext.trans n2.ext
  have gab : h.size ≤ ab := n2.ge n1.ext
  have raw2 : CaRaw h2 ab ⟨F.fb, who, ⟨8, (port : Int), 0, 0, state, 0, 0, 0, 0, 0, 0, 0, 0, 0⟩, .nilFunc, none, 0, 0, none, 0, 0, 0, 0, none, none⟩ := n2.this
  repeat (first | refine ⟨_, cell_blk (hob2) rfl, ?_⟩)
  refine (cHas_spec (H.ext x2) port).mono ?_
  rintro v h3 ⟨rfl, rfl⟩
  refine xif_false (has_yes' hp) ?_
  repeat (first | refine ⟨_, cell_blk (hob2) rfl, ?_⟩)
  refine (pRight_spec state).mono ?_
  rintro v h3 ⟨rfl, rfl⟩
  refine xif_false (by rw [hs]; rfl) ?_
  repeat (first | refine ⟨_, cell_blk (hob2) rfl, ?_⟩)
  intro kb h3 n3
  have raw3 := n3.ext.blk raw2
  have hob3 := n3.ext.blk hob2
  have x3 := x2.trans n3.ext
  refine ⟨rfl, rfl, canset_blk raw3 rfl, fun h4 s4 => ?_⟩
  have raw4 : CaRaw h4 ab ⟨F.fb, who, ⟨8, (port : Int), 0, 0, state, 0, 0, 0, 0, 0, 0, 0, 0, 0⟩, .nilFunc, none, 0, 0, some ⟨kb, 0, none⟩, 1, 1, 0, 0, none, none⟩ := s4.put raw3
  have c4 : Chg [(ab, 142)] h3 h4 := s4.chg raw3 (.head _)
  have o4 : OwnA encI 1 3 h.size h4 (some ⟨kb, 0, none⟩) 1 (lsI [port]) := .inr ⟨kb, [], rfl, n3.ge x2, c4.blk n3.this (by simp), rfl, Nat.le_refl 1⟩
  refine ⟨rfl, rfl, canset_blk raw4 rfl, fun h5 s5 => ?_⟩
  have raw5 : CaRaw h5 ab ⟨F.fb, who, ⟨8, (port : Int), 0, 0, state, 0, 0, 0, 0, 0, 0, 0, 0, 0⟩, .func (.func 69) #[] #[], none, 0, 0, some ⟨kb, 0, none⟩, 1, 1, 0, 0, none, none⟩ := s5.put raw4
  have c5 : Chg [(ab, 142)] h4 h5 := s5.chg raw4 (.head _)
  have x5 := (x3.stored s4 gab).stored s5 gab
  have hob5 := c5.blk (c4.blk hob3 (by simp)) (by simp)
  obtain ⟨RA5, rc5, hb5, _⟩ := (H.ext x5).blk
  repeat (first | refine ⟨_, cell_blk (raw5) rfl, ?_⟩ | refine ⟨_, cell_blk (hb5) rfl, ?_⟩)
  refine ⟨encO17 ⟨8, (port : Int), 0, 0, state, 0, 0, 0, 0, 0, 0, 0, 0, 0⟩, rfl, reads_all hob5, ?_⟩
  refine (mTime_spec (HM.ext x5)).mono ?_
  rintro v h6 ⟨rfl, rfl⟩
  refine ⟨⟨reads_all hob5, trivial⟩, ?_⟩
  intro nb h7 n7
  have raw7 := n7.ext.blk raw5
  have N7 : h7[nb]? = some (.cells (([⟨who, (M.t : Int), 0, 0, ⟨8, (port : Int), 0, 0, state, 0, 0, 0, 0, 0, 0, 0, 0, 0⟩, 0⟩] : List He).flatMap encHe ++ []).toArray 75 (0, 0)) := n7.this
  refine ⟨rfl, rfl, canset_blk raw7 rfl, fun h8 s8 => ?_⟩
  have raw8 : CaRaw h8 ab ⟨F.fb, who, ⟨8, (port : Int), 0, 0, state, 0, 0, 0, 0, 0, 0, 0, 0, 0⟩, .func (.func 69) #[] #[], some ⟨nb, 0, none⟩, 1, 1, some ⟨kb, 0, none⟩, 1, 1, 0, 0, none, none⟩ := s8.put raw7
  have c8 : Chg [(ab, 142)] h7 h8 := s8.chg raw7 (.head _)
  have x8 : Ext h h8 := (x5.trans n7.ext).stored s8 gab
  have hlb : F.lb < h.size := by obtain ⟨cs, hc⟩ := HM.lenl; exact blk_lt hc
  refine ⟨ab, _, rfl, ⟨raw8, rfl, by simp, (((o4.chg c5 (fun b _ => by simp)).ext n7.ext).chg c8 (fun b _ => by simp)).mono hB, fun b hb => by have := o4.ge b hb; omega, rfl, .inr ⟨nb, [], rfl, Nat.le_trans hB (Nat.le_trans x5.size (by have := n7.at_; omega)), c8.blk N7 (by simp), rfl, Nat.le_refl 1⟩, H.ext x8, HM.ext x8, Nat.le_trans hB gab, b1, b2, b3, Nat.le_trans hB x8.size, hw, by simp⟩, rfl, rfl, rfl, rfl, x8⟩
end
end Go.Proofs.YthoikbogkhpciaaGreatE
