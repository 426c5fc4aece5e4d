/- A port is set to any state; all that waits for it is taken, ring by ring: how all is, step by step. Conditions: the port's lock is free, the port wasn't set yet. -/
import Derived.Test.YtjjempefncgfhaaGreatDoorXGB
import Derived.Test.YtjjempefncgfhaaGreatDoorXG5
set_option linter.unusedVariables false
set_option linter.unusedSimpArgs false
set_option maxRecDepth 100000
namespace Go.Proofs.YtjjempefncgfhaaGreatDoorE
open Go Go.Proofs
def env_aLock2 : Nat → Ann
  | 1 => ⟨.op 0 [] <| .op 1 [] <| .op 2 [] <| .op 3 [] <| .op 4 [] <| .op 5 [] <| .op 6 [] <| .op 7 [] <| .op 8 [] <| .op 9 [] <| .op 10 [] <| .op 11 [] <| .op 12 [] <| .op 13 [] <| .op 14 [] <| .op 15 [] <| .op 16 [] <| .op 17 [] <| .op 18 [] <| .op 19 [] <| .nil, [0, 1, 3, 7, 0, 16, 48, 112, 0, 256, 768, 1792, 4080, 8176, 0, 16384, 49152, 114688, 262143, 524287], false⟩
  | 4 => ⟨.op 0 [] <| .op 1 [] <| .op 2 [] <| .op 3 [] <| .op 4 [] <| .op 5 [] <| .op 6 [] <| .op 7 [] <| .op 8 [] <| .op 9 [] <| .op 10 [] <| .nil, [0, 1, 3, 7, 0, 16, 48, 112, 240, 511, 1023], false⟩
  | _ => ⟨.nil, [], false⟩
def env_cCommandP : Nat → Ann
  | 22 => ⟨.op 0 [] <| .op 1 [] <| .op 2 [] <| .op 3 [] <| .op 4 [] <| .op 5 [] <| .op 7 [] <| .op 6 [7] <| .op 8 [] <| .op 9 [] <| .op 10 [] <| .op 11 [] <| .op 12 [] <| .nil, [0, 0, 0, 4, 12, 28, 60, 0, 254, 510, 1023, 2047, 4095], false⟩
  | _ => ⟨.nil, [], false⟩
def env_aWriteA : Nat → Ann
  | 1 => ⟨.op 0 [] <| .op 1 [] <| .op 2 [] <| .op 3 [] <| .op 4 [] <| .op 5 [] <| .alt (.op 6 [] <| .op 7 [] <| .op 8 [] <| .op 9 [] <| .op 10 [0, 5] <| .op 11 [] <| .op 12 [] <| .nil) (.op 10 [0, 5] <| .op 6 [] <| .op 7 [] <| .op 8 [] <| .op 9 [] <| .op 11 [] <| .op 12 [] <| .nil), [0, 0, 2, 6, 14, 30, 63, 127, 255, 255, 0, 1535, 4095], false⟩
  | 2 => ⟨.op 0 [] <| .op 1 [] <| .op 2 [] <| .op 3 [] <| .op 4 [] <| .op 5 [] <| .op 6 [] <| .op 7 [] <| .op 8 [] <| .op 9 [] <| .op 10 [] <| .op 11 [] <| .op 12 [] <| .op 13 [3, 6, 11] <| .op 14 [] <| .nil, [0, 1, 3, 7, 15, 31, 63, 0, 128, 384, 896, 1920, 0, 4096, 16383], true⟩
  | _ => ⟨.nil, [], false⟩
theorem rightSt_cases {s : Int} (hs : rightSt s = true) : s = 0 ∨ s = 1 ∨ s = 2 ∨ s = 3 ∨ s = 4 := by
  unfold rightSt at hs
  have := of_decide_eq_true hs
  omega
section
variable {h h' : Heap} {B : Nat} {F : Fb} {ab : Nat} {x : CaV} {ls : List Nat} {M : MemS} {E : He}
theorem pWord_one {s : Int} (hs : rightSt s = true) : HCalls Tryz.prog 226 #[.agg #[.int .i64 s, .int .u32 1]] h (fun v h' => v = .int .u64 (s + 256) ∧ Ext h h') := by
  refine xcalls env0 Tryz.func226 rfl (by kernel_rfl) rfl (by kernel_rfl) ?_
  intro b h1 n1
  refine ⟨_, cell_blk n1.this rfl, ?_⟩
  refine (pRight_spec s).mono ?_
  rintro v h2 ⟨rfl, rfl⟩
  refine xif_false (by rw [hs]; rfl) ?_
  refine ⟨_, cell_blk n1.this rfl, _, cell_blk n1.this rfl, ?_⟩
  refine ⟨by decide, ?_, n1.ext⟩
  rcases rightSt_cases hs with rfl | rfl | rfl | rfl | rfl <;> kernel_rfl
theorem aWrite_any (S : CaS h B F ab x ls M E) {p : Nat} (hp : x.o.port = (p : Int)) {s : Int} (hst : x.o.state = s) (hs : rightSt s = true) (hpP : p < F.P) (hc : p < M.cells.length) (ht : M.t < 900000) :
    HCalls Tryz.prog 190 #[.pointer (some ⟨ab, 0, none⟩), .agg #[.int .i64 0, .int .u32 0]] h (fun v h' => v = .func (.func (if s = 4 then 224 else 228)) #[] #[] ∧ CaS h' B F ab x ls { M with cells := M.cells.set p (s + 256), t := M.t + 1 } { E with mark := ((M.t + 1 : Nat) : Int), fin := ((M.t + 1 : Nat) : Int), ans := 1 } ∧ ChgT B TyC h h') := by
  have raw := S.raw
  have hf := S.xf
  obtain ⟨RA, rc, hb', hr⟩ := S.fab.blk
  obtain ⟨f', who, o, next, gA, gn, gc, kA, kn, kc, held, from_, pop, act⟩ := x
  simp only at hf hp hst
  subst hf
  refine xcalls env_aWriteA Tryz.func190 rfl (by kernel_rfl) rfl (by kernel_rfl) ?_
  intro sb h1 n1
  have S1 := S.ext n1.ext
  have raw1 := S1.raw
  have set4 : ∀ g : Heap, HCalls Tryz.prog 225 #[.agg #[.int .i64 0, .int .u32 0], .int .i64 o.state] g (fun v h' => v = .tuple #[.agg #[.int .i64 s, .int .u32 1], .int .i64 0] ∧ Ext g h') := by
    intro g
    rw [hst]
    refine (pSet_spec ⟨0, 0⟩ s).mono ?_
    rintro v h3 ⟨rfl, x3⟩
    rw [if_pos hs, if_pos hs]
    exact ⟨rfl, x3⟩
  refine ⟨Nat, fun z => [(0, .pointer (some ⟨ab, 0, none⟩)), (5, .pointer (some ⟨z, 0, none⟩))], fun z h' => h'[z]? = some (.cells [Value.int .i64 s, Value.int .u32 1].toArray 167 (0, 0)) ∧ Ext h1 h', ?_, ?_⟩
  · refine ⟨[.int .i64 0, .int .u32 0], rfl, reads_all n1.this, ?_⟩
    repeat (first | refine ⟨_, cell_blk (raw1) rfl, ?_⟩)
    refine ⟨?_, ?_⟩
    · refine (set4 _).mono ?_
      rintro v h3 ⟨rfl, x3⟩
      intro tb h4 n4
      refine ⟨⟨cell_blk ((S1.ext x3).ext n4.ext).raw rfl, reads_all ((x3.trans n4.ext).blk n1.this), trivial⟩, ?_⟩
      refine ⟨rfl, rfl, canset_blk n4.this rfl, fun h5 s5 => ?_⟩
      exact ⟨tb, ⟨rfl, rfl, trivial⟩, s5.put n4.this, (x3.trans n4.ext).stored s5 (n4.ge x3)⟩
    · intro tb h2 n2
      refine ⟨⟨cell_blk (S1.ext n2.ext).raw rfl, reads_all (n2.ext.blk n1.this), trivial⟩, ?_⟩
      refine (set4 _).mono ?_
      rintro v h3 ⟨rfl, x3⟩
      refine ⟨rfl, rfl, canset_blk (x3.blk n2.this) rfl, fun h5 s5 => ?_⟩
      exact ⟨tb, ⟨rfl, rfl, trivial⟩, s5.put (x3.blk n2.this), (n2.ext.trans x3).stored s5 (n2.ge (Ext.refl _))⟩
  rintro tb h4 ⟨tb4, x14⟩
  have S4 := S1.ext x14
  have raw4 := S4.raw
  obtain ⟨RA4, rc4, hb4, _⟩ := S4.fab.blk
  repeat (first | refine ⟨_, cell_blk (raw4) rfl, ?_⟩ | refine ⟨_, cell_blk (hb4) rfl, ?_⟩)
  refine ⟨[.int .i64 s, .int .u32 1], rfl, reads_all tb4, ?_⟩
  refine (pWord_one hs).mono ?_
  rintro v h5 ⟨rfl, x5⟩
  have S5 := S4.ext x5
  have raw5 := S5.raw
  obtain ⟨RA5, rc5, hb5, _⟩ := S5.fab.blk
  try (refine ⟨by ((repeat (first | refine ⟨cell_blk (raw5) rfl, ?_⟩ | refine ⟨cell_blk (hb5) rfl, ?_⟩)); exact trivial), ?_⟩)
  have hrg : 0 ≤ s ∧ s ≤ 4 := of_decide_eq_true hs
  refine (mStore_at S5.mem (i := p) (x := s + 256) hp rfl hc (by omega)).mono ?_
  rintro v h6 ⟨rfl, m6, c6⟩
  have S6 := S5.memory c6 m6
  have tb6 := c6.blk (x5.blk tb4) (by simp [ML])
  refine (aMarks_spec S6).mono ?_
  rintro v h7 ⟨rfl, S7, c7⟩
  have tb7 := c7.typ _ _ _ _ tb6 (by decide)
  repeat (first | refine ⟨_, cell_blk (tb7) rfl, ?_⟩)
  refine (aDone_spec S7 1).mono ?_
  rintro v h8 ⟨rfl, S8, c8⟩
  have tb8 := c8.typ _ _ _ _ tb7 (by decide)
  repeat (first | refine ⟨_, cell_blk (tb8) rfl, ?_⟩)
  refine (pForwards_spec s).mono ?_
  rintro v h9 ⟨rfl, rfl⟩
  have fr := ((((n1.ext.trans x14).trans x5).chgT S.hB).trans (S5.frM c6)).trans (c7.trans c8)
  refine xif_of (fun g => ?_) (fun g => ?_)
  · have g : (s == 4) = true := g
    exact ⟨by rw [if_pos (by simpa using g)]; rfl, S8, fr⟩
  · have g : (s == 4) = false := g
    exact ⟨by rw [if_neg (by simpa using g)]; rfl, S8, fr⟩
theorem aRead1_any (S : CaS h B F ab x ls M E) {sb : Nat} (hsb : h[sb]? = some (.cells [Value.int .i64 0, Value.int .u32 0].toArray 167 (0, 0))) {p : Nat} (hp : x.o.port = (p : Int)) {s : Int} (hst : x.o.state = s) (hs : rightSt s = true) (hpP : p < F.P) (hc : p < M.cells.length) (ht : M.t < 900000) :
    HCalls Tryz.prog 189 #[.pointer (some ⟨ab, 0, none⟩), .pointer (some ⟨sb, 0, none⟩)] h (fun v h' => v = .func (.func (if s = 4 then 224 else 228)) #[] #[] ∧ CaS h' B F ab x ls { M with cells := M.cells.set p (s + 256), t := M.t + 1 } { E with mark := ((M.t + 1 : Nat) : Int), fin := ((M.t + 1 : Nat) : Int), ans := 1 } ∧ ChgT B TyC h h') := by
  refine xcalls env0 Tryz.func189 rfl (by kernel_rfl) rfl (by kernel_rfl) ?_
  refine ⟨[.int .i64 0, .int .u32 0], rfl, reads_all hsb, ?_⟩
  refine (aWrite_any S hp hst hs hpP hc ht).mono ?_
  rintro v h1 ⟨rfl, r⟩
  exact ⟨rfl, r⟩
theorem cCommand_port (H : FabAt h F) (HM : MemAt h F.mb F.cb F.lb M) (b1 : B ≤ F.mb) (b2 : B ≤ F.cb) (b3 : B ≤ F.lb) (hB : B ≤ h.size) (hpr : ∀ p ∈ F.prot, h[p.1]? = some (.cells p.2 3 (0, 0)) ∧ p.1 ≠ F.lb) {who : Int} (hw : 0 ≤ who) {o : Op17} (hk : o.kind = 8) {p : Nat} (hpo : o.port = (p : Int)) (hp : p < F.P) (hs : rightSt o.state = true) (ht : M.t < 900000) :
    HCalls Tryz.prog 28 #[.pointer (some ⟨F.fb, 0, none⟩), .int .i64 who, .agg (encO17 o).toArray] h (fun v h' => ∃ ab x, v = .pointer (some ⟨ab, 0, none⟩) ∧ CaS h' B F ab x [p] M ⟨who, M.t, 0, 0, o, 0⟩ ∧ x.o = o ∧ x.who = who ∧ x.held = 0 ∧ x.from_ = 0 ∧ x.pop = none ∧ x.next = .func (.func 81) #[] #[] ∧ Ext h h') := by
  have p2 := H.p2
  obtain ⟨kind, port, to, vid, state, kvid, mac, mem, unt, now, limit, shard, bucket, id⟩ := o
  simp only at hk hpo hs
  subst hk hpo
  refine xcalls env_cCommandP Tryz.func28 rfl (by kernel_rfl) rfl (by kernel_rfl) ?_
  intro ob h1 n1
  have hob : h1[ob]? = some (.cells (encO17 ⟨8, (p : Int), to, vid, state, kvid, mac, mem, unt, now, limit, shard, bucket, id⟩).toArray 107 (0, 0)) := n1.this
  refine xif_false (decide_eq_false ?_) ?_
  · show ¬ who < 0
    omega
  refine ⟨encO17 ⟨8, (p : Int), to, vid, state, kvid, mac, mem, unt, now, limit, shard, bucket, id⟩, rfl, reads_all hob, ?_⟩
  intro ab h2 n2
  have hob2 := n2.ext.blk hob
  have x2 := n1.ext.trans n2.ext
  have gab : h.size ≤ ab := n2.ge n1.ext
  have raw2 : CaRaw h2 ab ⟨F.fb, who, ⟨8, (p : Int), to, vid, state, kvid, mac, mem, unt, now, limit, shard, bucket, id⟩, .nilFunc, none, 0, 0, none, 0, 0, 0, 0, none, none⟩ := n2.this
  repeat (first | refine ⟨_, cell_blk (hob2) rfl, ?_⟩)
  refine (cHas_spec (H.ext x2) p).mono ?_
  rintro v h3 ⟨rfl, rfl⟩
  refine xif_false (has_yes' hp) ?_
  repeat (first | refine ⟨_, cell_blk (hob2) rfl, ?_⟩)
  refine (pRight_spec state).mono ?_
  rintro v h3 ⟨rfl, rfl⟩
  refine xif_false (by rw [hs]; rfl) ?_
  repeat (first | refine ⟨_, cell_blk (hob2) rfl, ?_⟩)
  intro kb h3 n3
  have raw3 := n3.ext.blk raw2
  have hob3 := n3.ext.blk hob2
  have x3 := x2.trans n3.ext
  refine ⟨rfl, rfl, canset_blk raw3 rfl, fun h4 s4 => ?_⟩
  have raw4 : CaRaw h4 ab ⟨F.fb, who, ⟨8, (p : Int), to, vid, state, kvid, mac, mem, unt, now, limit, shard, bucket, id⟩, .nilFunc, none, 0, 0, some ⟨kb, 0, none⟩, 1, 1, 0, 0, none, none⟩ := s4.put raw3
  have c4 : Chg [(ab, 200)] h3 h4 := s4.chg raw3 (.head _)
  have o4 : OwnA encI 1 3 h.size h4 (some ⟨kb, 0, none⟩) 1 (lsI [p]) := .inr ⟨kb, [], rfl, n3.ge x2, c4.blk n3.this (by simp), rfl, Nat.le_refl 1⟩
  refine ⟨rfl, rfl, canset_blk raw4 rfl, fun h5 s5 => ?_⟩
  have raw5 : CaRaw h5 ab ⟨F.fb, who, ⟨8, (p : Int), to, vid, state, kvid, mac, mem, unt, now, limit, shard, bucket, id⟩, .func (.func 81) #[] #[], none, 0, 0, some ⟨kb, 0, none⟩, 1, 1, 0, 0, none, none⟩ := s5.put raw4
  have c5 : Chg [(ab, 200)] h4 h5 := s5.chg raw4 (.head _)
  have x5 := (x3.stored s4 gab).stored s5 gab
  have hob5 := c5.blk (c4.blk hob3 (by simp)) (by simp)
  obtain ⟨RA5, rc5, hb5, _⟩ := (H.ext x5).blk
  repeat (first | refine ⟨_, cell_blk (raw5) rfl, ?_⟩ | refine ⟨_, cell_blk (hb5) rfl, ?_⟩)
  refine ⟨encO17 ⟨8, (p : Int), to, vid, state, kvid, mac, mem, unt, now, limit, shard, bucket, id⟩, rfl, reads_all hob5, ?_⟩
  refine (mTime_spec (HM.ext x5)).mono ?_
  rintro v h6 ⟨rfl, rfl⟩
  refine ⟨⟨reads_all hob5, trivial⟩, ?_⟩
  intro nb h7 n7
  have raw7 := n7.ext.blk raw5
  have N7 : h7[nb]? = some (.cells (([⟨who, (M.t : Int), 0, 0, ⟨8, (p : Int), to, vid, state, kvid, mac, mem, unt, now, limit, shard, bucket, id⟩, 0⟩] : List He).flatMap encHe ++ []).toArray 150 (0, 0)) := n7.this
  refine ⟨rfl, rfl, canset_blk raw7 rfl, fun h8 s8 => ?_⟩
  have raw8 : CaRaw h8 ab ⟨F.fb, who, ⟨8, (p : Int), to, vid, state, kvid, mac, mem, unt, now, limit, shard, bucket, id⟩, .func (.func 81) #[] #[], some ⟨nb, 0, none⟩, 1, 1, some ⟨kb, 0, none⟩, 1, 1, 0, 0, none, none⟩ := s8.put raw7
  have c8 : Chg [(ab, 200)] h7 h8 := s8.chg raw7 (.head _)
  have x8 : Ext h h8 := (x5.trans n7.ext).stored s8 gab
  have hlb : F.lb < h.size := by obtain ⟨cs, hc⟩ := HM.lenl; exact blk_lt hc
  refine ⟨ab, _, rfl, ⟨raw8, rfl, by simp, (((o4.chg c5 (fun b _ => by simp)).ext n7.ext).chg c8 (fun b _ => by simp)).mono hB, fun b hb => by have := o4.ge b hb; omega, rfl, .inr ⟨nb, [], rfl, Nat.le_trans hB (Nat.le_trans x5.size (by have := n7.at_; omega)), c8.blk N7 (by simp), rfl, Nat.le_refl 1⟩, H.ext x8, HM.ext x8, Nat.le_trans hB gab, b1, b2, b3, Nat.le_trans hB x8.size, hw, by simp, fun p hp => ⟨x8.blk (hpr p hp).1, (hpr p hp).2⟩⟩, rfl, rfl, rfl, rfl, rfl, rfl, x8⟩
end
/-- What is still to be taken from m rings from j on, each as it will be noted. -/
def keyH (e : He) : Int × Int × Int × Int := (e.op.kind, e.op.port, e.op.to, e.ans)
def pendK (L : Nat → Nat → List Int) (q : Nat) : Nat → Nat → List (Int × Int × Int × Int)
  | 0, _ => []
  | m + 1, j => (L j q).map (fun y => (11, (j : Int), (q : Int), IntKind.i64.wrap y)) ++ pendK L q m (j + 1)
/-- Steps for that. -/
def remE (L : Nat → Nat → List Int) (q : Nat) : Nat → Nat → Nat
  | 0, _ => 0
  | m + 1, j => 3 * (L j q).length + 1 + remE L q m (j + 1)
theorem pendK_succ {L : Nat → Nat → List Int} {q m j : Nat} : pendK L q (m + 1) j = (L j q).map (fun y => (11, (j : Int), (q : Int), IntKind.i64.wrap y)) ++ pendK L q m (j + 1) := rfl
theorem remE_succ {L : Nat → Nat → List Int} {q m j : Nat} : remE L q (m + 1) j = 3 * (L j q).length + 1 + remE L q m (j + 1) := rfl
theorem remE_up {L : Nat → Nat → List Int} {q a : Nat} {r : List Int} : ∀ (m j : Nat), a < j → remE (up2 L a q r) q m j = remE L q m j
  | 0, _, _ => rfl
  | m + 1, j, h => by
    unfold remE
    rw [remE_up m (j + 1) (by omega), up2_ne (by omega)]
theorem pendK_up {L : Nat → Nat → List Int} {q a : Nat} {r : List Int} : ∀ (m j : Nat), a < j → pendK (up2 L a q r) q m j = pendK L q m j
  | 0, _, _ => rfl
  | m + 1, j, h => by
    unfold pendK
    rw [pendK_up m (j + 1) (by omega), up2_ne (by omega)]
section
variable {h h' : Heap} {B : Nat} {F : Fb} {ab q j p : Nat} {who : Int} {o : Op17} {x : CaV} {M : MemS} {L : Nat → Nat → List Int} {es : List He}
theorem EmpN.next (E : EmpN h B F ab q who o M L j es x) {nx : Value} (r : CaRaw h' ab { x with next := nx }) (c : Chg [(ab, 200)] h h') : EmpN h' B F ab q who o M L j es { x with next := nx } := by
  obtain ⟨⟨e1, e2, e3, e4, e5⟩, hp, S, W⟩ := E
  exact ⟨⟨e1, e2, e3, e4, e5⟩, hp, S.next r c, W.same (M' := M) c (by simp) rfl fun _ _ => rfl⟩
theorem EmpP.next (E : EmpP h B F ab q who o M L j p es x) {nx : Value} (r : CaRaw h' ab { x with next := nx }) (c : Chg [(ab, 200)] h h') : EmpP h' B F ab q who o M L j p es { x with next := nx } := by
  obtain ⟨⟨e1, e2, e3, e4, e5⟩, pb, nx', val, T0, hp, gp, S, A, ph, W⟩ := E
  exact ⟨⟨e1, e2, e3, e4, e5⟩, pb, nx', val, T0, hp, gp, S.next r c, c.blk A (by simp), ph, W.same (M' := M) c (by simp) rfl fun _ _ => rfl⟩
end
/-- What was noted and what waits, when m rings from j on are still to be emptied. -/
structure MidD (q : Nat) (L0 L : Nat → Nat → List Int) (P j : Nat) (es : List He) : Prop where
  oth : ∀ a b, b ≠ q → L a b = L0 a b
  low : ∀ a, a < j → L a q = []
  log : ∃ E gs, es = E :: gs ∧ 0 < E.mark ∧ E.ans = 1 ∧ (∀ g ∈ gs, 0 < g.mark) ∧ gs.map keyH ++ pendK L q (P - j) j = pendK L0 q P 0
/-- What was noted and what waits at the end. -/
structure FinD (q : Nat) (L0 L : Nat → Nat → List Int) (P : Nat) (s : Int) (es : List He) : Prop where
  oth : ∀ a b, b ≠ q → L a b = L0 a b
  low : s ≠ 4 → ∀ a, a < P → L a q = []
  all : s = 4 → L = L0
  log : ∃ E gs, es = E :: gs ∧ 0 < E.mark ∧ E.ans = 1 ∧ (∀ g ∈ gs, 0 < g.mark) ∧ gs.map keyH = if s = 4 then [] else pendK L0 q P 0
theorem MidD.len {q : Nat} {L0 L : Nat → Nat → List Int} {P j : Nat} {es : List He} (D : MidD q L0 L P j es) : es.length ≤ 1 + (pendK L0 q P 0).length := by
  obtain ⟨E, gs, rfl, _, _, _, e⟩ := D.log
  rw [← e, List.length_append, List.length_map, List.length_cons]
  omega
def stepsD (L : Nat → Nat → List Int) (q P : Nat) (s : Int) : Nat := if s = 4 then 4 else 4 + remE L q P 0
/-- A port is set: behind k steps. -/
def SetD (h0 : Heap) (B : Nat) (F : Fb) (ab q : Nat) (who : Int) (o : Op17) (M0 : MemS) (L0 : Nat → Nat → List Int) (k : Nat) (h : Heap) : Prop :=
  ChgT B TyD h0 h ∧ ∃ x M, M.t = M0.t + k ∧ x.o = o ∧ x.who = who ∧
    ((k ≤ 2 ∧ (∃ E, CaS h B F ab x [q] M E) ∧ Rings h B F M L0 no2 no2 ∧ M.cells = M0.cells ∧ x.pop = none ∧ x.from_ = 0 ∧ x.held = (if k = 0 then 0 else 1) ∧ M.locks = (if k = 0 then M0.locks else M0.locks.set q who) ∧
        ((k = 0 ∧ x.next = .func (.func 81) #[] #[]) ∨ (k = 1 ∧ x.next = .func (.func 136) #[] #[]) ∨ (k = 2 ∧ ∃ sb, x.next = .func (.func 189) #[] #[.pointer (some ⟨sb, 0, none⟩)] ∧ h[sb]? = some (.cells [Value.int .i64 0, Value.int .u32 0].toArray 167 (0, 0))))) ∨
     (M.locks = M0.locks.set q who ∧ x.next = .func (.func 228) #[] #[] ∧ o.state ≠ 4 ∧ ∃ j p L es, j < F.P ∧ p ≤ 2 ∧ MidD q L0 L F.P j es ∧ k + remE L q (F.P - j) j + 1 = stepsD L0 q F.P o.state + p ∧ ((p = 0 ∧ EmpN h B F ab q who o M L j es x) ∨ (0 < p ∧ EmpP h B F ab q who o M L j p es x))) ∨
     (M.locks = M0.locks.set q who ∧ x.next = .func (.func 224) #[] #[] ∧ x.held = 1 ∧ k + 1 = stepsD L0 q F.P o.state ∧ ∃ L es, FinD q L0 L F.P o.state es ∧ CaL h B F ab x [q] M es ∧ Rings h B F M L no2 no2) ∨
     (M.locks = (M0.locks.set q who).set q (-1) ∧ x.next = .nilFunc ∧ k = stepsD L0 q F.P o.state ∧ ∃ L es, FinD q L0 L F.P o.state es ∧ CaL h B F ab x [q] M es ∧ Rings h B F M L no2 no2))
theorem setD_step {h0 h : Heap} {B : Nat} {F : Fb} {ab q : Nat} {who : Int} {o : Op17} {M0 : MemS} {L0 : Nat → Nat → List Int} {k : Nat} (hq : q < F.P) (hb0 : F.P ≤ F.b0) (hpo : o.port = (q : Int)) (ho8 : o.kind = 8) (hs : rightSt o.state = true) (hl : M0.locks[q]? = some (-1)) (hz : M0.cells[q]? = some 0) (hpk : (pendK L0 q F.P 0).length ≤ 9000) (ht : M0.t + k < 800000) (hk : k < stepsD L0 q F.P o.state) (H : SetD h0 B F ab q who o M0 L0 k h) :
    HCalls Tryz.prog 31 #[.pointer (some ⟨ab, 0, none⟩)] h (fun v h' => v = .bool (k + 1 == stepsD L0 q F.P o.state) ∧ SetD h0 B F ab q who o M0 L0 (k + 1) h') := by
  have hlt : q < M0.locks.length := (List.getElem?_eq_some_iff.1 hl).1
  have hlc : q < M0.cells.length := (List.getElem?_eq_some_iff.1 hz).1
  have h4 : 4 ≤ stepsD L0 q F.P o.state := by unfold stepsD; split <;> omega
  obtain ⟨c0, x, M, hT, xo, xw, H⟩ := H
  rcases H with ⟨hk2, ⟨E, S⟩, W, hC, hpop, hfrom, hheld, hlk, H⟩ | ⟨hlk, hn, hst, j, p, L, es, hj, hp2, D, hrem, H⟩ | ⟨hlk, hn, hheld, hk1, L, es, D, S, W⟩ | ⟨_, _, e, _⟩
  · rcases H with ⟨rfl, hn⟩ | ⟨rfl, hn⟩ | ⟨rfl, sb, hn, hsb⟩
    · rw [if_pos rfl] at hheld hlk
      refine (aStep_of (cap := []) (K := fun _ => True) (x' := { x with held := x.held + 1 }) (M' := { M with locks := M.locks.set q x.who, t := M.t + 1 }) (E' := E) (.func (.func 136) #[] #[]) false S hn (.inr ⟨_, _, rfl, rfl⟩) ((aLock_spec S (p := q) (by rw [hheld]; rfl) hq (by rw [hlk]; exact hl) (by omega)).mono ?_) (fun _ _ _ _ => trivial)).mono ?_
      · rintro v h1 ⟨rfl, S1, c1⟩
        refine ⟨?_, S1, c1, trivial⟩
        rw [if_neg (by rw [hheld]; show ¬ (0 + 1 < 1); decide), if_neg (by rw [xo, ho8]; decide)]
      · rintro v h1 ⟨rfl, S1, c1, _⟩
        refine ⟨by rw [show (0 + 1 == stepsD L0 q F.P o.state) = false from beq_eq_false_iff_ne.2 (by omega)], c0.trans c1.toD, _, _, ?_, ?_, ?_, .inl ⟨by omega, ⟨_, S1⟩, W.typ (M' := { M with locks := M.locks.set q x.who, t := M.t + 1 }) c1 (by decide) rfl (fun _ _ => rfl), hC, hpop, hfrom, ?_, ?_, .inr (.inl ⟨rfl, rfl⟩)⟩⟩
        · show M.t + 1 = M0.t + (0 + 1); omega
        · exact xo
        · exact xw
        · show x.held + 1 = _; rw [hheld]; rfl
        · show M.locks.set q x.who = _; rw [hlk, xw]; rfl
    · rw [if_neg (by decide)] at hheld hlk
      refine (aStep_go (cap := []) (K := fun nx y g => y = x ∧ (∃ sb, nx = .func (.func 189) #[] #[.pointer (some ⟨sb, 0, none⟩)] ∧ g[sb]? = some (.cells [Value.int .i64 0, Value.int .u32 0].toArray 167 (0, 0))) ∧ CaS g B F ab x [q] { M with t := M.t + 1 } E ∧ ChgT B TyC h g) S.raw hn ((aRead_spec S (by rw [xo]; exact hpo) hq (by rw [hC]; exact hz) (by omega)).mono ?_)).mono ?_
      · rintro v h1 ⟨sb, rfl, hsb, S1, c1⟩
        exact ⟨_, _, rfl, x, S1.raw, rfl, ⟨sb, rfl, hsb⟩, S1, c1⟩
      · rintro v h2 ⟨rfl, nx, y, h1, ⟨rfl, ⟨sb, rfl, hsb⟩, S1, c1⟩, r2, c2⟩
        have cc := c1.trans (S1.frF c2)
        refine ⟨by rw [show (1 + 1 == stepsD L0 q F.P o.state) = false from beq_eq_false_iff_ne.2 (by omega)], c0.trans cc.toD, _, _, ?_, ?_, ?_, .inl ⟨by omega, ⟨_, S1.next r2 c2⟩, W.typ (M' := { M with t := M.t + 1 }) cc (by decide) rfl (fun _ _ => rfl), hC, hpop, hfrom, ?_, ?_, .inr (.inr ⟨rfl, sb, rfl, c2.blk hsb (by simp)⟩)⟩⟩
        · show M.t + 1 = M0.t + (1 + 1); omega
        · exact xo
        · exact xw
        · exact hheld
        · exact hlk
    · rw [if_neg (by decide)] at hheld hlk
      refine (aStep_of (cap := [.pointer (some ⟨sb, 0, none⟩)]) (K := fun _ => True) (x' := x) (M' := { M with cells := M.cells.set q (o.state + 256), t := M.t + 1 }) (E' := { E with mark := ((M.t + 1 : Nat) : Int), fin := ((M.t + 1 : Nat) : Int), ans := 1 }) (.func (.func (if o.state = 4 then 224 else 228)) #[] #[]) false S hn (.inr ⟨_, _, rfl, rfl⟩) ((aRead1_any S hsb (by rw [xo]; exact hpo) (by rw [xo]) hs hq (by rw [hC]; exact hlc) (by omega)).mono ?_) (fun _ _ _ _ => trivial)).mono ?_
      · rintro v h1 ⟨rfl, S1, c1⟩
        exact ⟨rfl, S1, c1, trivial⟩
      · rintro v h1 ⟨rfl, S1, c1, _⟩
        have W1 := W.typ (M' := { M with cells := M.cells.set q (o.state + 256), t := M.t + 1 }) c1 (by decide) (List.length_set ..) (fun k hk => List.getElem?_set_ne (by omega))
        refine ⟨by rw [show (2 + 1 == stepsD L0 q F.P o.state) = false from beq_eq_false_iff_ne.2 (by omega)], c0.trans c1.toD, { x with next := .func (.func (if o.state = 4 then 224 else 228)) #[] #[] }, { M with cells := M.cells.set q (o.state + 256), t := M.t + 1 }, ?_, xo, xw, .inr ?_⟩
        · show M.t + 1 = M0.t + (2 + 1); omega
        · by_cases e4 : o.state = 4
          · rw [if_pos e4] at S1 ⊢
            refine .inr (.inl ⟨hlk, rfl, hheld, by unfold stepsD; rw [if_pos e4], L0, _, ⟨fun _ _ _ => rfl, fun g => absurd e4 g, fun _ => rfl, _, [], rfl, ?_, rfl, by simp, by rw [if_pos e4]; rfl⟩, S1.toL, W1⟩)
            show (0 : Int) < ((M.t + 1 : Nat) : Int)
            omega
          · rw [if_neg e4] at S1 ⊢
            refine .inl ⟨hlk, rfl, e4, 0, 0, L0, _, by omega, by omega, ⟨fun _ _ _ => rfl, fun a ha => by omega, _, [], rfl, ?_, rfl, by simp, rfl⟩, ?_, .inl ⟨rfl, ⟨xo, xw, hpo, hheld, hfrom⟩, hpop, S1.toL, W1⟩⟩
            · show (0 : Int) < ((M.t + 1 : Nat) : Int)
              omega
            · unfold stepsD; rw [if_neg e4, Nat.sub_zero]; omega
  · have raw : CaRaw h ab x := by rcases H with ⟨_, _, _, H, _⟩ | ⟨_, _, _, _, _, _, _, _, H, _⟩ <;> exact H.raw
    have hlen := D.len
    obtain ⟨m, hm⟩ : ∃ m, F.P - j = m + 1 := ⟨F.P - j - 1, by omega⟩
    have hm' : F.P - (j + 1) = m := by omega
    have er : remE L q (F.P - j) j = 3 * (L j q).length + 1 + remE L q m (j + 1) := by rw [hm]; rfl
    refine (aStep_go (cap := []) (K := fun nx y g => ∃ M', Near F M M' ∧ ChgT B TyD h g ∧ B ≤ ab ∧ 
      ((nx = .func (.func 228) #[] #[] ∧ L j q ≠ [] ∧ EmpP g B F ab q who o M' L j (p + 1) es y) ∨
       (nx = .func (.func (if j + 1 < F.P then 228 else 224)) #[] #[] ∧ p = 0 ∧ L j q = [] ∧ EmpN g B F ab q who o M' L (j + 1) es y) ∨
       (nx = .func (.func 228) #[] #[] ∧ p = 2 ∧ ∃ y' r T0, L j q = y' :: r ∧ EmpN g B F ab q who o M' (up2 L j q r) j (es ++ [gotH who T0 j q ((M.t + 1 : Nat) : Int) ((M.t + 1 : Nat) : Int) (IntKind.i64.wrap y')]) y))) raw hn ((aEmpty_spec H hj hq (by omega) (by omega)).mono ?_)).mono ?_
    · have gab : B ≤ ab := by rcases H with ⟨_, _, _, H, _⟩ | ⟨_, _, _, _, _, _, _, _, H, _⟩ <;> exact H.b0
      rintro v h1 ⟨x', M', r1, N1, c1, H1⟩
      have hv : ∃ g, v = .func (.func g) #[] #[] := by
        rcases H1 with ⟨e, _⟩ | ⟨e, _⟩ | ⟨e, _⟩ <;> exact ⟨_, e⟩
      obtain ⟨g, hv⟩ := hv
      exact ⟨g, #[], hv, x', r1, M', N1, c1, gab, H1⟩
    · rintro v h2 ⟨rfl, nx, y, h1, ⟨M', N1, c1, gab, H1⟩, r2, c2⟩
      have f2 : ChgT B TyD h1 h2 := c2.chgT (by rcases H1 with ⟨_, _, _, _, _, _, _, _, _, S, _⟩ | ⟨_, _, _, _, _, S, _⟩ | ⟨_, _, _, _, _, _, _, _, S, _⟩ <;> exact S.hB) fun p hp => by simp at hp; subst hp; exact ⟨gab, by simp [TyD, TyC]⟩
      have hkl : M'.locks = M0.locks.set q who := by rw [N1.locks]; exact hlk
      have ht' : M'.t = M0.t + (k + 1) := by rw [N1.t]; omega
      have he : (k + 1 == stepsD L0 q F.P o.state) = false := by
        refine beq_eq_false_iff_ne.2 ?_
        rcases H1 with ⟨_, hne, _⟩ | ⟨_, h0', hL, _⟩ | ⟨_, h2', y', r, T0, hL, _⟩
        · have : 0 < (L j q).length := List.length_pos_iff.2 hne
          omega
        · omega
        · rw [hL, List.length_cons] at er; omega
      refine ⟨by rw [he], (c0.trans c1).trans f2, { y with next := nx }, M', ht', ?_, ?_, .inr ?_⟩
      · rcases H1 with ⟨_, _, X, _⟩ | ⟨_, _, _, X, _⟩ | ⟨_, _, _, _, _, _, X, _⟩ <;> exact X.xo
      · rcases H1 with ⟨_, _, X, _⟩ | ⟨_, _, _, X, _⟩ | ⟨_, _, _, _, _, _, X, _⟩ <;> exact X.xw
      rcases H1 with ⟨rfl, hne, E1⟩ | ⟨rfl, h0', hL, E1⟩ | ⟨rfl, h2', y', r, T0, hL, E1⟩
      · have hlen1 : 0 < (L j q).length := List.length_pos_iff.2 hne
        have hp1 : p + 1 ≤ 2 := by
          obtain ⟨_, _, _, _, _, _, _, _, _, ph, _⟩ := E1
          rcases ph with ⟨g, _⟩ | ⟨g, _⟩ | ⟨g, _⟩ <;> omega
        exact .inl ⟨hkl, rfl, hst, j, p + 1, L, es, hj, hp1, D, by omega, .inr ⟨by omega, E1.next r2 c2⟩⟩
      · rw [hL, List.length_nil] at er
        obtain ⟨E0, gs, e0, e1, e2, e3, e4⟩ := D.log
        have e4' : gs.map keyH ++ pendK L q (F.P - (j + 1)) (j + 1) = pendK L0 q F.P 0 := by
          rw [hm']
          rw [hm, pendK_succ, hL] at e4
          exact e4
        have low : ∀ a, a < j + 1 → L a q = [] := fun a ha => by
          rcases Nat.lt_or_ge a j with g | g
          · exact D.low a g
          · have : a = j := by omega
            rw [this]; exact hL
        by_cases hj1 : j + 1 < F.P
        · rw [if_pos hj1] at r2 ⊢
          exact .inl ⟨hkl, rfl, hst, j + 1, 0, L, es, hj1, by omega, ⟨D.oth, low, E0, gs, e0, e1, e2, e3, e4'⟩, by rw [hm']; omega, .inl ⟨rfl, E1.next r2 c2⟩⟩
        · rw [if_neg hj1] at r2 ⊢
          have m0 : m = 0 := by omega
          subst m0
          obtain ⟨X, hpop, S, W⟩ := E1.next r2 c2
          refine .inr (.inl ⟨hkl, rfl, X.held, ?_, L, es, ⟨D.oth, fun _ a ha => low a (by omega), fun g => absurd g hst, E0, gs, e0, e1, e2, e3, ?_⟩, S, W⟩)
          · have : remE L q 0 (j + 1) = 0 := rfl
            omega
          · rw [if_neg hst, ← e4', hm']
            rw [show pendK L q 0 (j + 1) = [] from rfl, List.append_nil]
      · rw [hL, List.length_cons] at er
        obtain ⟨E0, gs, e0, e1, e2, e3, e4⟩ := D.log
        refine .inl ⟨hkl, rfl, hst, j, 0, up2 L j q r, _, hj, by omega, ⟨fun a b hb => ?_, fun a ha => ?_, E0, gs ++ [gotH who T0 j q ((M.t + 1 : Nat) : Int) ((M.t + 1 : Nat) : Int) (IntKind.i64.wrap y')], ?_, e1, e2, ?_, ?_⟩, ?_, .inl ⟨rfl, E1.next r2 c2⟩⟩
        · rw [up2_ne (by omega)]; exact D.oth a b hb
        · rw [up2_ne (by omega)]; exact D.low a ha
        · rw [e0]; rfl
        · intro g hg
          rcases List.mem_append.1 hg with hg | hg
          · exact e3 g hg
          · rw [List.mem_singleton] at hg
            subst hg
            show (0 : Int) < ((M.t + 1 : Nat) : Int)
            omega
        · rw [← e4, hm, pendK_succ, pendK_succ, up2_self, hL, pendK_up m (j + 1) (by omega), List.map_append, List.append_assoc]
          rfl
        · have : remE (up2 L j q r) q (F.P - j) j = 3 * r.length + 1 + remE L q m (j + 1) := by
            rw [hm, remE_succ, up2_self, remE_up m (j + 1) (by omega)]
          rw [this]
          omega
  · refine (aStep_spec (cap := []) .nilFunc true (K := fun y g => y = { x with held := 0 } ∧ CaL g B F ab y [q] { M with locks := M.locks.set q (-1), t := M.t + 1 } es ∧ Rings g B F { M with locks := M.locks.set q (-1), t := M.t + 1 } L no2 no2 ∧ ChgT B TyD h g) S.raw hn (.inl ⟨rfl, rfl⟩) ((aUnlock_log (k := 0) S hheld (p := q) rfl hq (by rw [hlk, xw]; exact List.getElem?_set_self hlt) (by omega)).mono ?_)).mono ?_
    · rintro v h1 ⟨rfl, S1, h2, c1, c2⟩
      refine ⟨rfl, _, S1.raw, rfl, S1, ?_, ?_⟩
      · exact (W.same (M' := M) c1 (by simp) rfl (fun _ _ => rfl)).same (M' := { M with locks := M.locks.set q (-1), t := M.t + 1 }) c2 (by simp [ML]) rfl (fun _ _ => rfl)
      · have f1 := S.frF c1
        refine f1.trans (c2.chgT (Nat.le_trans S.hB c1.size) fun p hp => ?_)
        simp [ML] at hp
        rcases hp with rfl | rfl | rfl
        · exact ⟨S.b1, by simp [TyD, TyC]⟩
        · exact ⟨S.b2, by simp [TyD, TyC]⟩
        · exact ⟨S.b3, by simp [TyD, TyC]⟩
    · rintro v h2 ⟨rfl, y, h1, ⟨rfl, S1, W1, c1⟩, r2, c2⟩
      refine ⟨by rw [hk1, beq_self_eq_true], (c0.trans c1).trans (S1.frF c2), _, _, ?_, ?_, ?_, .inr (.inr (.inr ⟨?_, rfl, hk1, L, es, D, S1.next r2 c2, W1.same (M' := { M with locks := M.locks.set q (-1), t := M.t + 1 }) c2 (by simp) rfl (fun _ _ => rfl)⟩))⟩
      · show M.t + 1 = M0.t + (k + 1); omega
      · exact xo
      · exact xw
      · show M.locks.set q (-1) = _
        rw [hlk]
  · omega
theorem FabAt.withP {h : Heap} {F : Fb} (H : FabAt h F) (pl : List (Nat × Array Value)) : FabAt h { F with prot := pl } := ⟨H.blk, H.rules, H.vls, H.p1, H.p2, H.s1, H.s2, H.r1, H.v1⟩
theorem Rings.withP {h : Heap} {B : Nat} {F : Fb} {M : MemS} {L : Nat → Nat → List Int} {ib ob : Nat → Nat → Bool} (W : Rings h B F M L ib ob) (pl : List (Nat × Array Value)) : Rings h B { F with prot := pl } M L ib ob := ⟨W.ring, W.inj, W.ge, W.len, W.big⟩
end Go.Proofs.YtjjempefncgfhaaGreatDoorE
/- An order waits for a lock; what was noted is told. Conditions: none. -/
set_option linter.unusedVariables false
set_option linter.unusedSimpArgs false
set_option maxRecDepth 100000
namespace Go.Proofs.YtjjempefncgfhaaGreatDoorE
open Go Go.Proofs
section
variable {h h' : Heap} {B : Nat} {F : Fb} {ab : Nat} {x : CaV} {ls : List Nat} {M : MemS} {E : He} {es : List He}
/-- The next lock isn't given. -/
theorem aLock_no (S : CaS h B F ab x ls M E) {p : Nat} {a : Int} (hk : ls[x.held]? = some p) (hp : p < F.P) (hl : M.locks[p]? = some a) (ha : a ≠ -1) (ht : M.t < 900000) :
    HCalls Tryz.prog 81 #[.pointer (some ⟨ab, 0, none⟩)] h (fun v h' => v = .func (.func 81) #[] #[] ∧ CaS h' B F ab x ls { M with t := M.t + 1 } E ∧ ChgT B TyC h h') := by
  obtain ⟨f', who, o, next, gA, gn, gc, kA, kn, kc, held, from_, pop, act⟩ := x
  have raw := S.raw
  have hf := S.xf
  have hkn := S.kn
  have keys := S.keys
  have small := S.small
  simp only at hf hkn hk keys
  subst hf hkn
  have hkl : held < ls.length := (List.getElem?_eq_some_iff.1 hk).1
  obtain ⟨a', ha', hrd⟩ := keys.row encI_len held p (lsI_get hk)
  refine xcalls env_aLock2 Tryz.func81 rfl (by kernel_rfl) rfl (by kernel_rfl) ?_
  repeat (first | refine ⟨_, cell_blk (raw) rfl, ?_⟩)
  refine ⟨a', ha', Int.natCast_nonneg held, Int.ofNat_lt.2 hkl, _, hrd.cons, ?_⟩
  repeat (first | refine ⟨_, cell_blk (raw) rfl, ?_⟩)
  refine (cTake_no S.fab S.mem hp hl ha S.w0 (by omega)).mono ?_
  rintro v h1 ⟨rfl, m1, c1⟩
  exact ⟨rfl, S.memory c1 m1, S.frM c1⟩
theorem aLog_all (S : CaL h B F ab x ls M es) (hm : ∀ e ∈ es, 0 < e.mark) (hlen : es.length ≤ 100000) (h0 : 0 < es.length) : HCalls Tryz.prog 35 #[.pointer (some ⟨ab, 0, none⟩)] h (fun v h' => ∃ A c, v = .slice A es.length c ∧ OwnA encHe 19 150 h.size h' A c es ∧ Ext h h') := by
  have raw := S.raw
  have hgn := S.gn
  have ol := S.log
  obtain ⟨f', who, o, next, gA, gn, gc, kA, kn, kc, held, from_, pop, act⟩ := x
  simp only at hgn ol
  subst hgn
  refine xcalls env0 Tryz.func35 rfl (by kernel_rfl) rfl (by kernel_rfl) ?_
  repeat (first | refine ⟨_, cell_blk (raw) rfl, ?_⟩)
  refine (hClone_spec ol rfl hlen).mono ?_
  rintro v h1 ⟨A', c', rfl, o1, x1⟩
  refine xif_of (fun g => ?_) (fun g => ?_)
  · have g : (es.length : Int) > 1 := of_decide_eq_true g
    obtain ⟨m, hm1⟩ : ∃ m, es.length = m + 1 := ⟨es.length - 1, by omega⟩
    obtain ⟨e, he⟩ : ∃ e, es[m]? = some e := ⟨_, List.getElem?_eq_getElem (by omega)⟩
    obtain ⟨a, ha, hrd⟩ := o1.row encHe_len m e he
    have hw : IntKind.i64.wrap ((es.length : Int) - 1) = (m : Int) := by rw [wrap_i64 (by omega) (by omega)]; omega
    have r3 : cell h1 ((a.add (m * 19)).add 3) = some (.int .i64 e.fin) := hrd.get 3 rfl
    have r2 : cell h1 ((a.add (m * 19)).add 2) = some (.int .i64 e.mark) := hrd.get 2 rfl
    have pos := hm e (List.mem_of_getElem? he)
    refine ⟨a, ha, by rw [hw]; omega, by rw [hw]; omega, .int .i64 e.fin, ?_, ?_⟩
    · show cell h1 ((a.add ((IntKind.i64.wrap ((es.length : Int) - 1)).toNat * 19)).add 3) = _
      rw [hw, Int.toNat_natCast]; exact r3
    refine xif_of (fun g2 => ?_) (fun g2 => ?_)
    · refine ⟨a, ha, by rw [hw]; omega, by rw [hw]; omega, .int .i64 e.mark, ?_, ?_⟩
      · show cell h1 ((a.add ((IntKind.i64.wrap ((es.length : Int) - 1)).toNat * 19)).add 2) = _
        rw [hw, Int.toNat_natCast]; exact r2
      refine xif_false (beq_eq_false_iff_ne.2 (show e.mark ≠ 0 by omega)) ?_
      exact ⟨A', c', rfl, o1, x1⟩
    · exact ⟨A', c', rfl, o1, x1⟩
  · exact ⟨A', c', rfl, o1, x1⟩
theorem aLog_one (S : CaS h B F ab x ls M E) : HCalls Tryz.prog 35 #[.pointer (some ⟨ab, 0, none⟩)] h (fun v h' => ∃ A c, v = .slice A 1 c ∧ OwnA encHe 19 150 h.size h' A c [E] ∧ Ext h h') := by
  have raw := S.raw
  have hgn := S.gn
  have ol := S.log
  obtain ⟨f', who, o, next, gA, gn, gc, kA, kn, kc, held, from_, pop, act⟩ := x
  simp only at hgn ol
  subst hgn
  refine xcalls env0 Tryz.func35 rfl (by kernel_rfl) rfl (by kernel_rfl) ?_
  repeat (first | refine ⟨_, cell_blk (raw) rfl, ?_⟩)
  refine (hClone_spec ol rfl (by show 1 ≤ 100000; decide)).mono ?_
  rintro v h1 ⟨A', c', rfl, o1, x1⟩
  exact ⟨A', c', rfl, o1, x1⟩
end
/-- An order waits: behind i steps. Its lock number d is port q's, which another one has. -/
def WaitS (h0 : Heap) (B : Nat) (F : Fb) (ab q d : Nat) (who : Int) (o : Op17) (ls : List Nat) (M0 : MemS) (E : He) (i : Nat) (h : Heap) : Prop :=
  ChgT B TyC h0 h ∧ ∃ x M, CaS h B F ab x ls M E ∧ x.o = o ∧ x.who = who ∧ (o.kind = 8 → x.from_ = 0 ∧ x.pop = none) ∧ x.next = .func (.func 81) #[] #[] ∧ x.held = min i d ∧ M.t = M0.t + i ∧ M.cells = M0.cells ∧ M.locks.length = M0.locks.length ∧ ∀ p, p < F.P → M.locks[p]? = some (if p = q then 70 else if p < x.held then who else -1)
theorem wait_step {h0 h : Heap} {B : Nat} {F : Fb} {ab q d i : Nat} {who : Int} {o : Op17} {ls : List Nat} {M0 : MemS} {E : He} (hq : q < F.P) (hd : d ≤ q) (hls : ∀ i, i < d → ls[i]? = some i) (hlq : ls[d]? = some q) (ht : M0.t + i < 800000) (H : WaitS h0 B F ab q d who o ls M0 E i h) :
    HCalls Tryz.prog 31 #[.pointer (some ⟨ab, 0, none⟩)] h (fun v h' => v = .bool false ∧ WaitS h0 B F ab q d who o ls M0 E (i + 1) h') := by
  obtain ⟨c0, x, M, S, xo, xw, xf, hn, hh, hT, hC, hL, hlk⟩ := H
  have hdl : d < ls.length := (List.getElem?_eq_some_iff.1 hlq).1
  rcases Nat.lt_or_ge i d with h1 | h1
  · have hh1 : x.held = i := by omega
    have hl : M.locks[i]? = some (-1) := by rw [hlk i (by omega), if_neg (by omega), if_neg (by omega)]
    refine (aStep_of (cap := []) (K := fun _ => True) (x' := { x with held := x.held + 1 }) (M' := { M with locks := M.locks.set i x.who, t := M.t + 1 }) (E' := E) (.func (.func 81) #[] #[]) false S hn (.inr ⟨_, _, rfl, rfl⟩) ((aLock_spec S (p := i) (by rw [hh1]; exact hls i h1) (by omega) hl (by omega)).mono ?_) (fun _ _ _ _ => trivial)).mono ?_
    · rintro v h2 ⟨rfl, S1, c1⟩
      refine ⟨?_, S1, c1, trivial⟩
      rw [if_pos (by omega)]
    · rintro v h2 ⟨rfl, S1, c1, _⟩
      refine ⟨rfl, c0.trans c1, _, _, S1, xo, xw, xf, rfl, by show x.held + 1 = _; omega, by show M.t + 1 = _; omega, hC, by show (M.locks.set i x.who).length = _; rw [List.length_set]; exact hL, fun p hp => ?_⟩
      show (M.locks.set i x.who)[p]? = some (if p = q then 70 else if p < x.held + 1 then who else -1)
      by_cases e : p = i
      · subst e
        rw [List.getElem?_set_self (List.getElem?_eq_some_iff.1 hl).1, if_neg (by omega), if_pos (by omega), xw]
      · rw [List.getElem?_set_ne (Ne.symm e), hlk p hp]
        congr 1
        by_cases g : p = q
        · rw [if_pos g, if_pos g]
        · rw [if_neg g, if_neg g]
          by_cases g2 : p < x.held
          · rw [if_pos g2, if_pos (by omega)]
          · rw [if_neg g2, if_neg (by omega)]
  · have hh1 : x.held = d := by omega
    have hl : M.locks[q]? = some 70 := by rw [hlk q hq, if_pos rfl]
    refine (aStep_of (cap := []) (K := fun _ => True) (x' := x) (M' := { M with t := M.t + 1 }) (E' := E) (.func (.func 81) #[] #[]) false S hn (.inr ⟨_, _, rfl, rfl⟩) ((aLock_no S (p := q) (by rw [hh1]; exact hlq) hq hl (by decide) (by omega)).mono ?_) (fun _ _ _ _ => trivial)).mono ?_
    · rintro v h2 ⟨rfl, S1, c1⟩
      exact ⟨rfl, S1, c1, trivial⟩
    · rintro v h2 ⟨rfl, S1, c1, _⟩
      exact ⟨rfl, c0.trans c1, _, _, S1, xo, xw, xf, rfl, by show x.held = _; omega, by show M.t + 1 = _; omega, hC, hL, hlk⟩
end Go.Proofs.YtjjempefncgfhaaGreatDoorE
