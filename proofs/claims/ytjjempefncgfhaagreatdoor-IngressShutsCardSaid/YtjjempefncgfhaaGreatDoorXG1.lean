/- An order that is being carried out: how it lies in memory; its locks are taken, and left. Conditions: the locks are free. -/
import Derived.Test.YtjjempefncgfhaaGreatDoorXFM
set_option linter.unusedVariables false
set_option linter.unusedSimpArgs false
set_option maxRecDepth 100000
namespace Go.Proofs.YtjjempefncgfhaaGreatDoorE
open Go Go.Proofs
def env_aMarks : Nat → Ann
  | 0 => ⟨.op 0 [] <| .op 1 [] <| .op 2 [] <| .op 3 [] <| .op 4 [] <| .op 5 [] <| .op 6 [] <| .op 7 [] <| .op 8 [] <| .op 9 [] <| .op 10 [] <| .op 11 [3] <| .op 12 [] <| .op 13 [] <| .op 14 [] <| .nil, [0, 1, 3, 7, 0, 16, 48, 112, 240, 496, 1008, 2032, 4095, 8191, 16383], false⟩
  | _ => ⟨.nil, [], false⟩
def env_aDone : Nat → Ann
  | 0 => ⟨.op 0 [] <| .op 1 [] <| .op 2 [] <| .op 3 [] <| .op 4 [] <| .op 5 [] <| .op 6 [] <| .op 7 [] <| .op 8 [] <| .op 9 [] <| .op 10 [] <| .op 11 [] <| .op 12 [] <| .op 13 [] <| .op 14 [] <| .op 16 [] <| .op 15 [3, 7] <| .op 17 [] <| .op 18 [] <| .op 19 [] <| .op 20 [] <| .op 21 [] <| .op 22 [] <| .nil, [0, 1, 3, 7, 0, 16, 48, 112, 0, 256, 768, 1792, 3840, 7936, 16128, 32512, 0, 65535, 196607, 458751, 1048575, 2097151, 4194303], false⟩
  | _ => ⟨.nil, [], false⟩
def env_aLock : Nat → Ann
  | 1 => ⟨.op 0 [] <| .op 1 [] <| .op 2 [] <| .op 3 [] <| .op 4 [] <| .op 5 [] <| .op 6 [] <| .op 7 [] <| .op 8 [] <| .op 9 [] <| .op 10 [] <| .op 11 [] <| .op 12 [] <| .op 13 [] <| .op 14 [] <| .op 15 [] <| .op 16 [] <| .op 17 [] <| .op 18 [] <| .op 19 [] <| .nil, [0, 1, 3, 7, 0, 16, 48, 112, 0, 256, 768, 1792, 4080, 8176, 0, 16384, 49152, 114688, 262143, 524287], false⟩
  | 4 => ⟨.op 0 [] <| .op 1 [] <| .op 2 [] <| .op 3 [] <| .op 4 [] <| .op 5 [] <| .op 6 [] <| .op 7 [] <| .op 8 [] <| .op 9 [] <| .op 10 [] <| .nil, [0, 1, 3, 7, 0, 16, 48, 112, 240, 511, 1023], false⟩
  | _ => ⟨.nil, [], false⟩
def env_aUnlock : Nat → Ann
  | 2 => ⟨.op 0 [] <| .op 1 [] <| .op 2 [] <| .op 3 [] <| .op 4 [] <| .op 5 [] <| .op 6 [] <| .op 7 [] <| .op 8 [] <| .op 9 [] <| .op 10 [] <| .op 11 [] <| .op 12 [] <| .op 13 [] <| .op 14 [] <| .op 15 [] <| .op 16 [] <| .op 17 [] <| .op 18 [] <| .nil, [0, 1, 3, 7, 0, 16, 48, 112, 0, 256, 768, 1792, 4080, 8176, 0, 16384, 49152, 114688, 262143], false⟩
  | _ => ⟨.nil, [], false⟩
def env_aBare : Nat → Ann
  | 1 => ⟨.op 0 [] <| .op 1 [] <| .op 2 [] <| .op 3 [] <| .op 4 [] <| .op 5 [] <| .op 6 [] <| .op 7 [] <| .op 8 [] <| .op 9 [] <| .op 10 [] <| .op 11 [] <| .op 12 [] <| .op 13 [4] <| .op 14 [] <| .op 15 [] <| .nil, [0, 1, 3, 7, 15, 0, 32, 96, 224, 480, 992, 2016, 4064, 8160, 16383, 32767], false⟩
  | 2 => ⟨.op 0 [] <| .op 1 [] <| .op 2 [] <| .op 3 [] <| .op 4 [] <| .op 5 [] <| .op 6 [] <| .op 7 [] <| .op 8 [] <| .op 9 [] <| .op 10 [] <| .op 11 [] <| .op 12 [] <| .op 13 [] <| .op 14 [] <| .op 15 [] <| .op 16 [] <| .op 17 [] <| .op 18 [] <| .op 19 [] <| .op 23 [] <| .op 24 [] <| .op 25 [] <| .op 26 [] <| .op 27 [] <| .op 28 [] <| .op 29 [] <| .op 20 [3, 6, 10, 27] <| .op 21 [3, 6, 27] <| .op 22 [] <| .op 30 [] <| .nil, [0, 1, 3, 7, 15, 31, 63, 0, 128, 384, 896, 0, 2048, 6144, 14336, 0, 32768, 98304, 229376, 491520, 1046528, 2097024, 4194176, 0, 8388608, 25165824, 58720256, 125829120, 0, 528482304, 1073741823], true⟩
  | _ => ⟨.nil, [], false⟩
def env_aMembers : Nat → Ann
  | 1 => ⟨.op 0 [] <| .op 1 [] <| .op 2 [] <| .op 3 [] <| .op 4 [] <| .op 5 [] <| .op 6 [] <| .op 7 [] <| .op 8 [] <| .op 9 [] <| .op 10 [] <| .op 11 [] <| .op 12 [] <| .op 13 [] <| .op 14 [] <| .op 15 [] <| .op 16 [] <| .op 17 [] <| .op 18 [] <| .op 19 [] <| .op 22 [] <| .op 23 [] <| .op 24 [] <| .op 25 [] <| .op 26 [] <| .op 27 [] <| .op 28 [] <| .op 29 [] <| .op 30 [] <| .op 31 [] <| .op 32 [] <| .op 33 [] <| .op 34 [] <| .op 20 [3, 6, 10, 26, 30, 34] <| .op 21 [3, 6, 26, 30, 34] <| .op 35 [3, 6, 26] <| .op 36 [] <| .op 37 [] <| .nil, [0, 1, 3, 7, 15, 31, 63, 0, 128, 384, 896, 0, 2048, 6144, 14336, 0, 32768, 98304, 229376, 491520, 1046528, 2097024, 0, 4194304, 12582912, 29360128, 62914560, 0, 134217728, 402653184, 939524096, 2013265920, 4160749568, 8455716864, 17045651456, 34229714816, 68719476608, 137438953471], false⟩
  | _ => ⟨.nil, [], false⟩
structure CaV where
  f : Nat
  who : Int
  o : Op17
  next : Value
  gA : Option Addr
  gn : Nat
  gc : Nat
  kA : Option Addr
  kn : Nat
  kc : Nat
  held : Nat
  from_ : Int
  pop : Option Nat
  act : Option Nat
def encCa (x : CaV) : List Value := [.pointer (some ⟨x.f, 0, none⟩), .int .i64 x.who, .int .i64 x.o.kind, .int .i64 x.o.port, .int .i64 x.o.to, .int .i64 x.o.vid, .int .i64 x.o.state, .int .i64 x.o.kvid, .int .u64 x.o.mac, .int .u64 x.o.mem, .int .u64 x.o.unt, .int .u32 x.o.now, .int .u32 x.o.limit, .int .i64 x.o.shard, .int .i64 x.o.bucket, .int .i64 x.o.id,
  x.next, .slice x.gA x.gn x.gc, .slice x.kA x.kn x.kc, .int .i64 (x.held : Int), .int .i64 x.from_, ptrO x.pop, ptrO x.act]
def CaRaw (h : Heap) (ab : Nat) (x : CaV) : Prop := h[ab]? = some (.cells (encCa x).toArray 200 (0, 0))
def TyC : List TypeId := [200, 150, 205, 51, 3]
def lsI (ls : List Nat) : List Int := ls.map fun (n : Nat) => (n : Int)
/-- An order whose log is one entry, with its locks, and the switch's memory. -/
structure CaS (h : Heap) (B : Nat) (F : Fb) (ab : Nat) (x : CaV) (ls : List Nat) (M : MemS) (E : He) : Prop where
  raw : CaRaw h ab x
  xf : x.f = F.fb
  kn : x.kn = ls.length
  keys : OwnA encI 1 3 B h x.kA x.kc (lsI ls)
  kne : ∀ b, x.kA = some ⟨b, 0, none⟩ → b ≠ F.lb
  gn : x.gn = 1
  log : OwnA encHe 19 150 B h x.gA x.gc [E]
  fab : FabAt h F
  mem : MemAt h F.mb F.cb F.lb M
  b0 : B ≤ ab
  b1 : B ≤ F.mb
  b2 : B ≤ F.cb
  b3 : B ≤ F.lb
  hB : B ≤ h.size
  w0 : 0 ≤ x.who
  small : ls.length ≤ 64
  prot : ∀ p ∈ F.prot, h[p.1]? = some (.cells p.2 3 (0, 0)) ∧ p.1 ≠ F.lb
theorem FabAt.chgC {l : List (Nat × TypeId)} {h h' : Heap} {F : Fb} (H : FabAt h F) (c : Chg l h h') (hl : ∀ p ∈ l, p.2 ∈ TyC) : FabAt h' F :=
  H.chgT (c.chgT (B := 0) (Nat.zero_le _) fun p hp => ⟨Nat.zero_le _, hl p hp⟩) (by decide) (by decide) (by decide) (by decide) (by decide)
section
variable {h h' : Heap} {B : Nat} {F : Fb} {ab : Nat} {x : CaV} {ls : List Nat} {M : MemS} {E : He}
/-- The memory goes on. -/
theorem CaS.memory (S : CaS h B F ab x ls M E) (c : Chg (ML F.mb F.cb F.lb) h h') {M' : MemS} (m : MemAt h' F.mb F.cb F.lb M') : CaS h' B F ab x ls M' E :=
  ⟨c.blk S.raw (by simp [ML]), S.xf, S.kn, S.keys.chg c (fun b hb => by have := S.kne b hb; simp [ML, this]), S.kne, S.gn, S.log.chg c (fun b _ => by simp [ML]), S.fab.chgC c (by simp [ML, TyC]), m, S.b0, S.b1, S.b2, S.b3, Nat.le_trans S.hB c.size, S.w0, S.small, fun p hp => ⟨c.blk (S.prot p hp).1 (by simp [ML, (S.prot p hp).2]), (S.prot p hp).2⟩⟩
theorem CaS.ext (S : CaS h B F ab x ls M E) (e : Ext h h') : CaS h' B F ab x ls M E := S.memory (e.chg _) (S.mem.ext e)
/-- Another field. -/
theorem CaS.field (S : CaS h B F ab x ls M E) {x' : CaV} (c : Chg [(ab, 200)] h h') (r : CaRaw h' ab x') (e1 : x'.f = x.f) (e2 : x'.kn = x.kn) (e3 : x'.kA = x.kA) (e4 : x'.kc = x.kc) (e5 : x'.gn = x.gn) (e6 : x'.gA = x.gA) (e7 : x'.gc = x.gc) (e8 : x'.who = x.who) : CaS h' B F ab x' ls M E :=
  ⟨r, by rw [e1]; exact S.xf, by rw [e2]; exact S.kn, by rw [e3, e4]; exact S.keys.chg c (fun b _ => by simp), by rw [e3]; exact S.kne, by rw [e5]; exact S.gn, by rw [e6, e7]; exact S.log.chg c (fun b _ => by simp), S.fab.chgC c (by simp [TyC]), S.mem.chg c (by simp) (by simp) (by simp), S.b0, S.b1, S.b2, S.b3, Nat.le_trans S.hB c.size, by rw [e8]; exact S.w0, S.small, fun p hp => ⟨c.blk (S.prot p hp).1 (by simp), (S.prot p hp).2⟩⟩
theorem CaS.frM (S : CaS h B F ab x ls M E) (c : Chg (ML F.mb F.cb F.lb) h h') : ChgT B TyC h h' := c.chgT S.hB fun p hp => by
  simp [ML] at hp
  rcases hp with rfl | rfl | rfl
  · exact ⟨S.b1, by simp [TyC]⟩
  · exact ⟨S.b2, by simp [TyC]⟩
  · exact ⟨S.b3, by simp [TyC]⟩
theorem CaS.frF (S : CaS h B F ab x ls M E) (c : Chg [(ab, 200)] h h') : ChgT B TyC h h' := c.chgT S.hB fun p hp => by
  simp at hp
  subst hp
  exact ⟨S.b0, by simp [TyC]⟩
theorem lsI_get {k p : Nat} (hk : ls[k]? = some p) : (lsI ls)[k]? = some (p : Int) := by unfold lsI; rw [List.getElem?_map, hk]; rfl
theorem aOver_nil (H : CaRaw h ab x) (hn : x.next = .nilFunc) : HCalls Tryz.prog 59 #[.pointer (some ⟨ab, 0, none⟩)] h (fun r h' => r = .bool true ∧ h' = h) := by
  obtain ⟨f, who, o, next, gA, gn, gc, kA, kn, kc, held, from_, pop, act⟩ := x
  simp only at hn
  subst hn
  refine xcalls env0 Tryz.func59 rfl (by kernel_rfl) rfl (by kernel_rfl) ?_
  repeat (first | refine ⟨_, cell_blk (H) rfl, ?_⟩)
  exact ⟨rfl, rfl⟩
theorem aOver_fn (H : CaRaw h ab x) {f : Nat} {cap : Array Value} (hn : x.next = .func (.func f) #[] cap) : HCalls Tryz.prog 59 #[.pointer (some ⟨ab, 0, none⟩)] h (fun r h' => r = .bool false ∧ h' = h) := by
  obtain ⟨f', who, o, next, gA, gn, gc, kA, kn, kc, held, from_, pop, act⟩ := x
  simp only at hn
  subst hn
  refine xcalls env0 Tryz.func59 rfl (by kernel_rfl) rfl (by kernel_rfl) ?_
  repeat (first | refine ⟨_, cell_blk (H) rfl, ?_⟩)
  exact ⟨rfl, rfl⟩
theorem aStep_spec {f : Nat} {cap : List Value} (nx : Value) (b : Bool) {K : CaV → Heap → Prop} (H : CaRaw h ab x) (hn : x.next = .func (.func f) #[] cap.toArray) (hnx : (nx = .nilFunc ∧ b = true) ∨ ∃ (g : Nat) (c : Array Value), nx = .func (.func g) #[] c ∧ b = false)
    (hf : HCalls Tryz.prog f (Value.pointer (some ⟨ab, 0, none⟩) :: cap).toArray h (fun v h' => v = nx ∧ ∃ x', CaRaw h' ab x' ∧ K x' h')) :
    HCalls Tryz.prog 31 #[.pointer (some ⟨ab, 0, none⟩)] h (fun v h' => v = .bool b ∧ ∃ x' h1, K x' h1 ∧ CaRaw h' ab { x' with next := nx } ∧ Chg [(ab, 200)] h1 h') := by
  have hov := aOver_fn H hn
  obtain ⟨f', who, o, next, gA, gn, gc, kA, kn, kc, held, from_, pop, act⟩ := x
  simp only at hn
  subst hn
  refine xcalls env0 Tryz.func31 rfl (by kernel_rfl) rfl (by kernel_rfl) ?_
  refine hov.mono ?_
  rintro v h1 ⟨rfl, rfl⟩
  repeat (first | refine ⟨_, cell_blk (H) rfl, ?_⟩)
  refine hf.mono ?_
  rintro v h2 ⟨rfl, x', H2, k⟩
  obtain ⟨f', who, o, next, gA, gn, gc, kA, kn, kc, held, from_, pop, act⟩ := x'
  rcases hnx with ⟨rfl, rfl⟩ | ⟨g, c, rfl, rfl⟩
  · refine ⟨rfl, rfl, canset_blk H2 rfl, fun h3 s3 => ?_⟩
    have H3 : CaRaw h3 ab ⟨f', who, o, .nilFunc, gA, gn, gc, kA, kn, kc, held, from_, pop, act⟩ := s3.put H2
    refine (aOver_nil H3 rfl).mono ?_
    rintro v h4 ⟨rfl, rfl⟩
    exact ⟨rfl, _, h2, k, H3, s3.chg H2 (.head _)⟩
  · refine ⟨rfl, rfl, canset_blk H2 rfl, fun h3 s3 => ?_⟩
    have H3 : CaRaw h3 ab ⟨f', who, o, .func (.func g) #[] c, gA, gn, gc, kA, kn, kc, held, from_, pop, act⟩ := s3.put H2
    refine (aOver_fn H3 rfl).mono ?_
    rintro v h4 ⟨rfl, rfl⟩
    exact ⟨rfl, _, h2, k, H3, s3.chg H2 (.head _)⟩
/-- The next lock is taken. -/
theorem aLock_spec (S : CaS h B F ab x ls M E) {p : Nat} (hk : ls[x.held]? = some p) (hp : p < F.P) (hl : M.locks[p]? = some (-1)) (ht : M.t < 900000) :
    HCalls Tryz.prog 81 #[.pointer (some ⟨ab, 0, none⟩)] h (fun v h' => v = (if x.held + 1 < ls.length then .func (.func 81) #[] #[] else if x.o.kind = 9 then .func (.func 135) #[] #[] else .func (.func 136) #[] #[]) ∧
      CaS h' B F ab { x with held := x.held + 1 } ls { M with locks := M.locks.set p x.who, t := M.t + 1 } E ∧ ChgT B TyC h h') := by
  obtain ⟨f', who, o, next, gA, gn, gc, kA, kn, kc, held, from_, pop, act⟩ := x
  have raw := S.raw
  have hf := S.xf
  have hkn := S.kn
  have keys := S.keys
  have small := S.small
  simp only at hf hkn hk keys
  subst hf hkn
  have hkl : held < ls.length := (List.getElem?_eq_some_iff.1 hk).1
  obtain ⟨a, ha, hrd⟩ := keys.row encI_len held p (lsI_get hk)
  refine xcalls env_aLock Tryz.func81 rfl (by kernel_rfl) rfl (by kernel_rfl) ?_
  repeat (first | refine ⟨_, cell_blk (raw) rfl, ?_⟩)
  refine ⟨a, ha, Int.natCast_nonneg held, Int.ofNat_lt.2 hkl, _, hrd.cons, ?_⟩
  repeat (first | refine ⟨_, cell_blk (raw) rfl, ?_⟩)
  refine (cTake_spec S.fab S.mem hp hl S.w0 (by omega)).mono ?_
  rintro v h1 ⟨rfl, m1, c1⟩
  have S1 := S.memory c1 m1
  have raw1 := S1.raw
  repeat (first | refine ⟨_, cell_blk (raw1) rfl, ?_⟩)
  refine ⟨rfl, rfl, canset_blk raw1 rfl, fun h2 s2 => ?_⟩
  have raw2 : CaRaw h2 ab ⟨F.fb, who, o, next, gA, gn, gc, kA, ls.length, kc, held + 1, from_, pop, act⟩ := by
    have := s2.put raw1
    rw [wrap_add1 held (by omega)] at this
    exact this
  have c2 : Chg [(ab, 200)] h1 h2 := s2.chg raw1 (.head _)
  have S2 := S1.field c2 raw2 rfl rfl rfl rfl rfl rfl rfl rfl
  have fr := (S.frM c1).trans (S1.frF c2)
  repeat (first | refine ⟨_, cell_blk (raw2) rfl, ?_⟩)
  refine xif_of (fun q => ?_) (fun q => ?_)
  · have q : ((held + 1 : Nat) : Int) < (ls.length : Int) := of_decide_eq_true q
    exact ⟨by rw [if_pos (show held + 1 < ls.length by omega)]; rfl, S2, fr⟩
  · have q : ¬ ((held + 1 : Nat) : Int) < (ls.length : Int) := of_decide_eq_false q
    rw [if_neg (show ¬ (held + 1 < ls.length) by omega)]
    repeat (first | refine ⟨_, cell_blk (raw2) rfl, ?_⟩)
    refine xif_of (fun g => ?_) (fun g => ?_)
    · have g : (o.kind == 9) = true := g
      exact ⟨by rw [if_pos (by simpa using g)]; rfl, S2, fr⟩
    · have g : (o.kind == 9) = false := g
      exact ⟨by rw [if_neg (by simpa using g)]; rfl, S2, fr⟩
/-- The last lock is left. -/
theorem aUnlock_spec {k : Nat} (S : CaS h B F ab x ls M E) (hh : x.held = k + 1) {p : Nat} (hk : ls[k]? = some p) (hp : p < F.P) (hl : M.locks[p]? = some x.who) (ht : M.t < 900000) :
    HCalls Tryz.prog 224 #[.pointer (some ⟨ab, 0, none⟩)] h (fun v h' => v = (if 0 < k then .func (.func 224) #[] #[] else .nilFunc) ∧
      CaS h' B F ab { x with held := k } ls { M with locks := M.locks.set p (-1), t := M.t + 1 } E ∧ ChgT B TyC h h') := by
  obtain ⟨f', who, o, next, gA, gn, gc, kA, kn, kc, held, from_, pop, act⟩ := x
  have raw := S.raw
  have hf := S.xf
  have hkn := S.kn
  have small := S.small
  simp only at hf hkn hh
  subst hf hkn hh
  have hkl : k < ls.length := (List.getElem?_eq_some_iff.1 hk).1
  refine xcalls env_aUnlock Tryz.func224 rfl (by kernel_rfl) rfl (by kernel_rfl) ?_
  repeat (first | refine ⟨_, cell_blk (raw) rfl, ?_⟩)
  refine ⟨rfl, rfl, canset_blk raw rfl, fun h1 s1 => ?_⟩
  have raw1 : CaRaw h1 ab ⟨F.fb, who, o, next, gA, gn, gc, kA, ls.length, kc, k, from_, pop, act⟩ := by
    have := s1.put raw
    rw [show IntKind.i64.wrap (((k + 1 : Nat) : Int) - 1) = (k : Int) by rw [wrap_i64 (by omega) (by omega)]; omega] at this
    exact this
  have c1 : Chg [(ab, 200)] h h1 := s1.chg raw (.head _)
  have S1 := S.field c1 raw1 rfl rfl rfl rfl rfl rfl rfl rfl
  obtain ⟨a, ha, hrd⟩ := S1.keys.row encI_len k p (lsI_get hk)
  repeat (first | refine ⟨_, cell_blk (raw1) rfl, ?_⟩)
  refine ⟨a, ha, Int.natCast_nonneg k, Int.ofNat_lt.2 hkl, _, hrd.cons, ?_⟩
  repeat (first | refine ⟨_, cell_blk (raw1) rfl, ?_⟩)
  refine (cFree_spec S1.fab S1.mem hp hl S.w0 (by omega)).mono ?_
  rintro v h2 ⟨rfl, m2, c2⟩
  have S2 := S1.memory c2 m2
  have raw2 := S2.raw
  have fr := (S.frF c1).trans (S1.frM c2)
  repeat (first | refine ⟨_, cell_blk (raw2) rfl, ?_⟩)
  refine xif_of (fun g => ?_) (fun g => ?_)
  · have g : (k : Int) > 0 := of_decide_eq_true g
    exact ⟨by rw [if_pos (show 0 < k by omega)]; rfl, S2, fr⟩
  · have g : ¬ (k : Int) > 0 := of_decide_eq_false g
    exact ⟨by rw [if_neg (show ¬ 0 < k by omega)]; rfl, S2, fr⟩
end
end Go.Proofs.YtjjempefncgfhaaGreatDoorE
/- An order that is being carried out: a VLAN is written; what it notes. Conditions: the locks are held. -/
set_option linter.unusedVariables false
set_option linter.unusedSimpArgs false
set_option maxRecDepth 100000
namespace Go.Proofs.YtjjempefncgfhaaGreatDoorE
open Go Go.Proofs
section
variable {h h' : Heap} {B : Nat} {F : Fb} {ab : Nat} {x : CaV} {ls : List Nat} {M : MemS} {E : He}
theorem cVlan_spec (H : FabAt h F) (vid : Int) : HCalls Tryz.prog 82 #[.pointer (some ⟨F.fb, 0, none⟩), .int .i64 vid] h (fun v h' => v = .int .i64 (findV vid F.vls 0) ∧ Ext h h') := by
  obtain ⟨RA, rc, hb', hr⟩ := H.blk
  refine xcalls env0 Tryz.func82 rfl (by kernel_rfl) rfl (by kernel_rfl) ?_
  repeat (first | refine ⟨_, cell_blk (hb') rfl, ?_⟩)
  refine (vFind_spec (H.vls.row encVl_len) (by have := H.v1; omega)).mono ?_
  rintro v h1 ⟨rfl, x1⟩
  exact ⟨rfl, x1⟩
theorem cVlanAt_fab (H : FabAt h F) {i : Nat} (hi : i ≤ 1000) : HCalls Tryz.prog 67 #[.pointer (some ⟨F.fb, 0, none⟩), .int .i64 i] h (fun v h' => v = .int .i64 ((F.P + 2 * i : Nat) : Int) ∧ h' = h) := by
  obtain ⟨RA, rc, hb', hr⟩ := H.blk
  exact cVlanAt_spec hb' H.p2 hi
/-- A field of the entry is stored. -/
theorem CaS.entry (S : CaS h B F ab x ls M E) {lb : Nat} (hg : x.gA = some ⟨lb, 0, none⟩) {j : Nat} {vs : List Value} {E' : He} (s : Stored h ⟨lb, j, none⟩ vs h') (hj : j + vs.length ≤ 19) (he : encHe E' = lset (encHe E) j vs) : CaS h' B F ab x ls M E' ∧ ChgT B TyC h h' := by
  have ol := S.log
  rw [hg] at ol
  obtain ⟨cs, hb⟩ := ol.block
  have c : Chg [(lb, 150)] h h' := s.chg hb (.head _)
  have s' : Stored h ⟨lb, 0 * 19 + j, none⟩ vs h' := by simpa using s
  have o' := ol.put encHe_len (x' := E') rfl s' (show [E][0]? = some E from rfl) hj he
  refine ⟨⟨c.blk S.raw (by simp), S.xf, S.kn, S.keys.chg c (fun b _ => by simp), S.kne, S.gn, ?_, S.fab.chgC c (by simp [TyC]), S.mem.chg c (by simp) (by simp) (by simp), S.b0, S.b1, S.b2, S.b3, Nat.le_trans S.hB c.size, S.w0, S.small, fun p hp => ⟨c.blk (S.prot p hp).1 (by simp), (S.prot p hp).2⟩⟩, c.chgT S.hB fun p hp => ?_⟩
  · rw [hg]; exact o'
  · simp at hp
    subst hp
    exact ⟨ol.ge _ rfl, by simp [TyC]⟩
theorem CaS.logAt (S : CaS h B F ab x ls M E) : ∃ lb, x.gA = some ⟨lb, 0, none⟩ := by
  rcases S.log with ⟨_, h1, _⟩ | ⟨b, _, h1, _⟩
  · cases h1
  · exact ⟨b, h1⟩
theorem CaS.csE (S : CaS h B F ab x ls M E) {lb : Nat} (hg : x.gA = some ⟨lb, 0, none⟩) {j : Nat} (hj : j + 1 ≤ 19) : CanSet h ⟨lb, j, none⟩ 1 := by
  have ol := S.log
  rw [hg] at ol
  obtain ⟨b, e, _, cs⟩ := ol.canset encHe_len (i := 0) (j := j) (n := 1) (Nat.zero_lt_one) hj
  cases e
  simpa using cs
theorem ent_lit (lb j : Nat) : ((⟨lb, 0, none⟩ : Addr).add (0 * 19)).add j = ⟨lb, j, none⟩ := by rw [add_lit, add_lit]; simp
theorem aMarks_spec (S : CaS h B F ab x ls M E) : HCalls Tryz.prog 223 #[.pointer (some ⟨ab, 0, none⟩)] h (fun v h' => v = .tuple #[] ∧ CaS h' B F ab x ls M { E with mark := (M.t : Int) } ∧ ChgT B TyC h h') := by
  obtain ⟨lb, hg⟩ := S.logAt
  obtain ⟨RA, rc, hb', hr⟩ := S.fab.blk
  have raw := S.raw
  have hf := S.xf
  have hgn := S.gn
  have cs := fun j hj => S.csE hg (j := j) hj
  obtain ⟨f', who, o, next, gA, gn, gc, kA, kn, kc, held, from_, pop, act⟩ := x
  simp only at hf hgn hg
  subst hf hgn hg
  refine xcalls env_aMarks Tryz.func223 rfl (by kernel_rfl) rfl (by kernel_rfl) ?_
  repeat (first | refine ⟨_, cell_blk (raw) rfl, ?_⟩ | refine ⟨_, cell_blk (hb') rfl, ?_⟩)
  refine (mTime_spec S.mem).mono ?_
  rintro v h1 ⟨rfl, rfl⟩
  try (refine ⟨by ((repeat (first | refine ⟨cell_blk (raw) rfl, ?_⟩)); exact trivial), ?_⟩)
  refine ⟨⟨lb, 0, none⟩, rfl, by decide, (by show (0 : Int) < ((1 : Nat) : Int); decide), rfl, rfl, ?_, fun h2 s2 => ?_⟩
  · show CanSet _ (((⟨lb, 0, none⟩ : Addr).add (0 * 19)).add 2) 1
    rw [ent_lit]; exact cs 2 (by decide)
  have s2' : Stored _ (((⟨lb, 0, none⟩ : Addr).add (0 * 19)).add 2) [.int .i64 (M.t : Int)] h2 := s2
  rw [ent_lit] at s2'
  obtain ⟨S2, c2⟩ := S.entry rfl (E' := { E with mark := (M.t : Int) }) s2' (by show 2 + 1 ≤ 19; decide) rfl
  exact ⟨rfl, S2, c2⟩
theorem aDone_spec (S : CaS h B F ab x ls M E) (ans : Int) : HCalls Tryz.prog 143 #[.pointer (some ⟨ab, 0, none⟩), .int .i64 ans] h (fun v h' => v = .tuple #[] ∧ CaS h' B F ab x ls M { E with fin := (M.t : Int), ans := ans } ∧ ChgT B TyC h h') := by
  obtain ⟨lb, hg⟩ := S.logAt
  obtain ⟨RA, rc, hb', hr⟩ := S.fab.blk
  have raw := S.raw
  have hf := S.xf
  have hgn := S.gn
  have cs := fun j hj => S.csE hg (j := j) hj
  obtain ⟨f', who, o, next, gA, gn, gc, kA, kn, kc, held, from_, pop, act⟩ := x
  simp only at hf hgn hg
  subst hf hgn hg
  refine xcalls env_aDone Tryz.func143 rfl (by kernel_rfl) rfl (by kernel_rfl) ?_
  repeat (first | refine ⟨_, cell_blk (raw) rfl, ?_⟩ | refine ⟨_, cell_blk (hb') rfl, ?_⟩)
  refine (mTime_spec S.mem).mono ?_
  rintro v h1 ⟨rfl, rfl⟩
  try (refine ⟨by ((repeat (first | refine ⟨cell_blk (raw) rfl, ?_⟩)); exact trivial), ?_⟩)
  refine ⟨⟨lb, 0, none⟩, rfl, by decide, (by show (0 : Int) < ((1 : Nat) : Int); decide), ?_⟩
  refine ⟨rfl, rfl, ?_, fun h2 s2 => ?_⟩
  · show CanSet _ (((⟨lb, 0, none⟩ : Addr).add (0 * 19)).add 3) 1
    rw [ent_lit]; exact cs 3 (by decide)
  have s2' : Stored _ (((⟨lb, 0, none⟩ : Addr).add (0 * 19)).add 3) [.int .i64 (M.t : Int)] h2 := s2
  rw [ent_lit] at s2'
  obtain ⟨S2, c2⟩ := S.entry rfl (E' := { E with fin := (M.t : Int) }) s2' (by show 3 + 1 ≤ 19; decide) rfl
  refine ⟨⟨lb, 0, none⟩, rfl, by decide, (by show (0 : Int) < ((1 : Nat) : Int); decide), ?_⟩
  refine ⟨rfl, rfl, ?_, fun h3 s3 => ?_⟩
  · show CanSet _ (((⟨lb, 0, none⟩ : Addr).add (0 * 19)).add 18) 1
    rw [ent_lit]; exact S2.csE rfl (by decide)
  have s3' : Stored _ (((⟨lb, 0, none⟩ : Addr).add (0 * 19)).add 18) [.int .i64 ans] h3 := s3
  rw [ent_lit] at s3'
  obtain ⟨S3, c3⟩ := S2.entry rfl (E' := { E with fin := (M.t : Int), ans := ans }) s3' (by show 18 + 1 ≤ 19; decide) rfl
  exact ⟨rfl, S3, c2.trans c3⟩
/-- Who gets the VLAN's frames without a tag. -/
theorem aBare_spec (S : CaS h B F ab x ls M E) {i : Nat} (hi : findV x.o.vid F.vls 0 = (i : Int)) (hv : i < F.vls.length) (wm : SetWf x.o.mem) (wu : SetWf x.o.unt) (hc : F.P + 2 * i + 1 < M.cells.length) (ht : M.t < 900000) :
    HCalls Tryz.prog 135 #[.pointer (some ⟨ab, 0, none⟩)] h (fun v h' => v = .func (.func 187) #[] #[] ∧ CaS h' B F ab x ls { M with cells := M.cells.set (F.P + 2 * i + 1) (andM x.o.unt (andM x.o.mem (allM F.P))), t := M.t + 1 } E ∧ ChgT B TyC h h') := by
  have raw := S.raw
  have hf := S.xf
  have p2 := S.fab.p2
  have v1 := S.fab.v1
  obtain ⟨RA, rc, hb', hr⟩ := S.fab.blk
  obtain ⟨f', who, o, next, gA, gn, gc, kA, kn, kc, held, from_, pop, act⟩ := x
  simp only at hf hi wm wu
  subst hf
  have wall := allM_wf (F.P : Int)
  have e1 := and_eq wm wall
  have e2 := and_eq wu (andM_wf (b := allM F.P) wm)
  refine xcalls env_aBare Tryz.func135 rfl (by kernel_rfl) rfl (by kernel_rfl) ?_
  refine ⟨Unit, fun _ => [(0, .pointer (some ⟨ab, 0, none⟩)), (3, .int .u64 (andM o.mem (allM F.P)))], fun _ h' => h' = h, ?_, ?_⟩
  · repeat (first | refine ⟨_, cell_blk (raw) rfl, ?_⟩ | refine ⟨_, cell_blk (hb') rfl, ?_⟩)
    refine (vAll_spec (F.P : Int)).mono ?_
    rintro v h1 ⟨rfl, rfl⟩
    try (refine ⟨by ((repeat (first | refine ⟨cell_blk (raw) rfl, ?_⟩)); exact trivial), ?_⟩)
    exact ⟨(), ⟨rfl, congrArg (fun z => some (Value.int .u64 z)) e1, trivial⟩, rfl⟩
  rintro _ h1 rfl
  repeat (first | refine ⟨_, cell_blk (raw) rfl, ?_⟩ | refine ⟨_, cell_blk (hb') rfl, ?_⟩)
  refine (cVlan_spec S.fab o.vid).mono ?_
  rintro v h2 ⟨rfl, x2⟩
  have S2 := S.ext x2
  have raw2 := S2.raw
  obtain ⟨RA2, rc2, hb2, _⟩ := S2.fab.blk
  try (refine ⟨by ((repeat (first | refine ⟨cell_blk (raw2) rfl, ?_⟩ | refine ⟨cell_blk (hb2) rfl, ?_⟩)); exact trivial), ?_⟩)
  rw [hi]
  refine (cVlanAt_fab S2.fab (i := i) (by omega)).mono ?_
  rintro v h3 ⟨rfl, rfl⟩
  try (refine ⟨by ((repeat (first | refine ⟨cell_blk (raw2) rfl, ?_⟩ | refine ⟨cell_blk (hb2) rfl, ?_⟩)); exact trivial), ?_⟩)
  refine (mStore_at S2.mem (i := F.P + 2 * i + 1) (x := andM o.unt (andM o.mem (allM F.P))) (wrap_add1 _ (by omega)) e2 hc (by omega)).mono ?_
  rintro v h4 ⟨rfl, m4, c4⟩
  exact ⟨rfl, S2.memory c4 m4, ((x2.chgT S.hB).trans (S2.frM c4))⟩
/-- Who is in it. -/
theorem aMembers_spec (S : CaS h B F ab x ls M E) {i : Nat} (hi : findV x.o.vid F.vls 0 = (i : Int)) (hv : i < F.vls.length) (wm : SetWf x.o.mem) (hc : F.P + 2 * i < M.cells.length) (ht : M.t < 900000) :
    HCalls Tryz.prog 187 #[.pointer (some ⟨ab, 0, none⟩)] h (fun v h' => v = .func (.func 224) #[] #[] ∧ CaS h' B F ab x ls { M with cells := M.cells.set (F.P + 2 * i) (andM x.o.mem (allM F.P)), t := M.t + 1 } { E with mark := ((M.t + 1 : Nat) : Int), fin := ((M.t + 1 : Nat) : Int), ans := 1 } ∧ ChgT B TyC h h') := by
  have raw := S.raw
  have hf := S.xf
  have p2 := S.fab.p2
  have v1 := S.fab.v1
  obtain ⟨RA, rc, hb', hr⟩ := S.fab.blk
  obtain ⟨f', who, o, next, gA, gn, gc, kA, kn, kc, held, from_, pop, act⟩ := x
  simp only at hf hi wm
  subst hf
  have wall := allM_wf (F.P : Int)
  have e1 := and_eq wm wall
  refine xcalls env_aMembers Tryz.func187 rfl (by kernel_rfl) rfl (by kernel_rfl) ?_
  repeat (first | refine ⟨_, cell_blk (raw) rfl, ?_⟩ | refine ⟨_, cell_blk (hb') rfl, ?_⟩)
  refine (cVlan_spec S.fab o.vid).mono ?_
  rintro v h2 ⟨rfl, x2⟩
  have S2 := S.ext x2
  have raw2 := S2.raw
  obtain ⟨RA2, rc2, hb2, _⟩ := S2.fab.blk
  try (refine ⟨by ((repeat (first | refine ⟨cell_blk (raw2) rfl, ?_⟩ | refine ⟨cell_blk (hb2) rfl, ?_⟩)); exact trivial), ?_⟩)
  rw [hi]
  refine (cVlanAt_fab S2.fab (i := i) (by omega)).mono ?_
  rintro v h3 ⟨rfl, rfl⟩
  try (refine ⟨by ((repeat (first | refine ⟨cell_blk (raw2) rfl, ?_⟩ | refine ⟨cell_blk (hb2) rfl, ?_⟩)); exact trivial), ?_⟩)
  repeat (first | refine ⟨_, cell_blk (raw2) rfl, ?_⟩ | refine ⟨_, cell_blk (hb2) rfl, ?_⟩)
  refine (vAll_spec (F.P : Int)).mono ?_
  rintro v h3 ⟨rfl, rfl⟩
  try (refine ⟨by ((repeat (first | refine ⟨cell_blk (raw2) rfl, ?_⟩ | refine ⟨cell_blk (hb2) rfl, ?_⟩)); exact trivial), ?_⟩)
  refine (mStore_at S2.mem (i := F.P + 2 * i) (x := andM o.mem (allM F.P)) rfl e1 hc (by omega)).mono ?_
  rintro v h4 ⟨rfl, m4, c4⟩
  have S4 := S2.memory c4 m4
  refine (aMarks_spec S4).mono ?_
  rintro v h5 ⟨rfl, S5, c5⟩
  refine (aDone_spec S5 1).mono ?_
  rintro v h6 ⟨rfl, S6, c6⟩
  exact ⟨rfl, S6, (((x2.chgT S.hB).trans (S2.frM c4)).trans c5).trans c6⟩
end
end Go.Proofs.YtjjempefncgfhaaGreatDoorE
