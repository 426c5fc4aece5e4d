/- A port is set to Forwarding; an order goes to its end; what it answers. Conditions: the port wasn't set yet. -/
import Derived.Test.YthoikbogkhpciaaGreatXG3
set_option linter.unusedVariables false
set_option linter.unusedSimpArgs false
set_option maxRecDepth 100000
namespace Go.Proofs.YthoikbogkhpciaaGreatE
open Go Go.Proofs
def env_aRead : Nat → Ann
  | 1 => ⟨.op 0 [] <| .op 1 [] <| .op 2 [] <| .op 3 [] <| .op 4 [] <| .op 5 [] <| .op 6 [] <| .op 7 [] <| .op 8 [] <| .alt (.op 9 [] <| .op 10 [3, 8] <| .op 11 [] <| .nil) (.op 10 [3, 8] <| .op 9 [] <| .op 11 [] <| .nil), [0, 1, 3, 7, 0, 16, 48, 112, 240, 511, 0, 2047], false⟩
  | _ => ⟨.nil, [], false⟩
def env_aWrite : Nat → Ann
  | 1 => ⟨.op 0 [] <| .op 1 [] <| .op 2 [] <| .op 3 [] <| .op 4 [] <| .op 5 [] <| .alt (.op 6 [] <| .op 7 [] <| .op 8 [] <| .op 9 [] <| .op 10 [0, 5] <| .op 11 [] <| .op 12 [] <| .nil) (.op 10 [0, 5] <| .op 6 [] <| .op 7 [] <| .op 8 [] <| .op 9 [] <| .op 11 [] <| .op 12 [] <| .nil), [0, 0, 2, 6, 14, 30, 63, 127, 255, 255, 0, 1535, 4095], false⟩
  | 2 => ⟨.op 0 [] <| .op 1 [] <| .op 2 [] <| .op 3 [] <| .op 4 [] <| .op 5 [] <| .op 6 [] <| .op 7 [] <| .op 8 [] <| .op 9 [] <| .op 10 [] <| .op 11 [] <| .op 12 [] <| .op 13 [3, 6, 11] <| .op 14 [] <| .nil, [0, 1, 3, 7, 15, 31, 63, 0, 128, 384, 896, 1920, 0, 4096, 16383], true⟩
  | _ => ⟨.nil, [], false⟩
section
variable {h h' : Heap} {B : Nat} {F : Fb} {ab : Nat} {x : CaV} {ls : List Nat} {M : MemS} {E : He}
theorem pWord_260 : HCalls Tryz.prog 189 #[.agg #[.int .i64 4, .int .u32 1]] h (fun v h' => v = .int .u64 260 ∧ Ext h h') := by
  refine xcalls env0 Tryz.func189 rfl (by kernel_rfl) rfl (by kernel_rfl) ?_
  intro b h1 n1
  refine ⟨_, cell_blk n1.this rfl, ?_⟩
  refine (pRight_spec 4).mono ?_
  rintro v h2 ⟨rfl, rfl⟩
  refine ⟨_, cell_blk n1.this rfl, _, cell_blk n1.this rfl, ?_⟩
  refine ⟨by decide, ?_, n1.ext⟩
  kernel_rfl
theorem pOf_260 : HCalls Tryz.prog 75 #[.int .u64 260] h (fun v h' => v = .tuple #[.agg #[.int .i64 4, .int .u32 1], .bool true] ∧ Ext h h') := by
  refine xcalls env0 Tryz.func75 rfl (by kernel_rfl) rfl (by kernel_rfl) ?_
  intro b0 h1 n1
  refine ⟨by decide, ?_⟩
  intro b1 h2 n2
  have x02 : Ext h h2 := n1.ext.trans n2.ext
  refine ⟨rfl, rfl, canset_blk n2.this rfl, fun h3 s3 => ?_⟩
  have hb1 : h3[b1]? = some (.cells [Value.int .i64 4, Value.int .u32 1].toArray 72 (0, 0)) := by
    have e : ([Value.int .i64 (IntKind.i64.wrap (IntKind.u64.wrap ((BitVec.ofInt 64 260 &&& BitVec.ofInt 64 255).toNat : Int))), Value.int .u32 (IntKind.u32.wrap (Int.fdiv 260 (2 ^ min (Int.toNat 8) 64)))] : List Value) = [Value.int .i64 4, Value.int .u32 1] := by kernel_rfl
    rw [← e]
    exact n2.fill (vs := [Value.int .i64 (IntKind.i64.wrap (IntKind.u64.wrap ((BitVec.ofInt 64 260 &&& BitVec.ofInt 64 255).toNat : Int))), Value.int .u32 (IntKind.u32.wrap (Int.fdiv 260 (2 ^ min (Int.toNat 8) 64)))]) rfl s3
  have x3 : Ext h h3 := x02.stored s3 (n2.ge n1.ext)
  refine ⟨by decide, _, cell_blk hb1 rfl, ?_⟩
  refine (pRight_spec 4).mono ?_
  rintro v h4 ⟨rfl, rfl⟩
  have hb0 := s3.blk (n2.ext.blk n1.this) (show b0 ≠ b1 by have := n2.at_; have := blk_lt n1.this; omega)
  refine ⟨[.int .i64 4, .int .u32 1], rfl, reads_all hb1, rfl, rfl, canset_blk hb0 rfl, fun h5 s5 => ?_⟩
  have hb5 : h5[b0]? = some (.cells [Value.int .i64 4, Value.int .u32 1].toArray _ (0, 0)) := s5.put hb0
  exact ⟨[.int .i64 4, .int .u32 1], rfl, reads_all hb5, rfl, x3.stored s5 (n1.ge (Ext.refl _))⟩
theorem cStand_260 (H : FabAt h F) (HM : MemAt h F.mb F.cb F.lb M) {p : Nat} (hp : p < F.P) (hx : M.cells[p]? = some 260) (ht : M.t < 1000000) : HCalls Tryz.prog 30 #[.pointer (some ⟨F.fb, 0, none⟩), .int .i64 p] h (fun v h' => v = .agg #[.int .i64 4, .int .u32 1] ∧ MemAt h' F.mb F.cb F.lb { M with t := M.t + 1 } ∧ Chg [(F.mb, 176)] h h') := by
  obtain ⟨RA, rc, hb', hr⟩ := H.blk
  refine xcalls env0 Tryz.func30 rfl (by kernel_rfl) rfl (by kernel_rfl) ?_
  intro b0 h1 n1
  have ob : h1[F.fb]? = _ := n1.ext.blk hb'
  refine (cHas_spec (H.ext n1.ext) p).mono ?_
  rintro v h2 ⟨rfl, rfl⟩
  refine xif_false (has_yes' hp) ?_
  repeat (first | refine ⟨_, cell_blk (ob) rfl, ?_⟩)
  refine (mLoad_spec (HM.ext n1.ext) hx ht).mono ?_
  rintro v h3 ⟨rfl, M3, c3⟩
  refine pOf_260.mono ?_
  rintro v h4 ⟨rfl, x4⟩
  intro b1 h5 n5
  refine ⟨rfl, rfl, canset_blk n5.this rfl, fun h6 s6 => ?_⟩
  have hb6 : h6[b1]? = some (.cells [Value.int .i64 4, Value.int .u32 1].toArray _ (0, 0)) := s6.put n5.this
  have x46 : Ext h4 h6 := n5.ext.stored s6 (n5.ge (Ext.refl _))
  have hb0 : h6[b0]? = some (.cells [Value.int .i64 0, Value.int .u32 0].toArray _ (0, 0)) := x46.blk (x4.blk (c3.blk n1.this (by simp)))
  refine ⟨[.int .i64 4, .int .u32 1], rfl, reads_all hb6, rfl, rfl, canset_blk hb0 rfl, fun h7 s7 => ?_⟩
  have hb7 : h7[b0]? = some (.cells [Value.int .i64 4, Value.int .u32 1].toArray _ (0, 0)) := s7.put hb0
  have hlt : h.size ≤ b0 := n1.ge (Ext.refl _)
  have M6 := (M3.ext x4).ext x46
  have c7 : Chg [(b0, 72)] h6 h7 := s7.chg hb0 (.head _)
  exact ⟨[.int .i64 4, .int .u32 1], rfl, reads_all hb7, rfl, M6.chg c7 (by simp) (by simp) (by simp), (((n1.ext.chg _).trans c3).trans ((x4.trans x46).chg _)).stored s7 hlt⟩
theorem aWrite_spec (S : CaS h B F ab x ls M E) {p : Nat} (hp : x.o.port = (p : Int)) (hst : x.o.state = 4) (hpP : p < F.P) (hc : p < M.cells.length) (ht : M.t < 900000) :
    HCalls Tryz.prog 160 #[.pointer (some ⟨ab, 0, none⟩), .agg #[.int .i64 0, .int .u32 0]] h (fun v h' => v = .func (.func 187) #[] #[] ∧ CaS h' B F ab x ls { M with cells := M.cells.set p 260, t := M.t + 1 } { E with mark := ((M.t + 1 : Nat) : Int), fin := ((M.t + 1 : Nat) : Int), ans := 1 } ∧ ChgT B TyC h h') := by
  have raw := S.raw
  have hf := S.xf
  obtain ⟨RA, rc, hb', hr⟩ := S.fab.blk
  obtain ⟨f', who, o, next, gA, gn, gc, kA, kn, kc, held, from_, pop, act⟩ := x
  simp only at hf hp hst
  subst hf
  refine xcalls env_aWrite Tryz.func160 rfl (by kernel_rfl) rfl (by kernel_rfl) ?_
  intro sb h1 n1
  have S1 := S.ext n1.ext
  have raw1 := S1.raw
  have set4 : ∀ g : Heap, HCalls Tryz.prog 188 #[.agg #[.int .i64 0, .int .u32 0], .int .i64 o.state] g (fun v h' => v = .tuple #[.agg #[.int .i64 4, .int .u32 1], .int .i64 0] ∧ Ext g h') := by
    intro g
    rw [hst]
    refine (pSet_spec ⟨0, 0⟩ 4).mono ?_
    rintro v h3 ⟨rfl, x3⟩
    exact ⟨by kernel_rfl, x3⟩
  refine ⟨Nat, fun z => [(0, .pointer (some ⟨ab, 0, none⟩)), (5, .pointer (some ⟨z, 0, none⟩))], fun z h' => h'[z]? = some (.cells [Value.int .i64 4, Value.int .u32 1].toArray 72 (0, 0)) ∧ Ext h1 h', ?_, ?_⟩
  · refine ⟨[.int .i64 0, .int .u32 0], rfl, reads_all n1.this, ?_⟩
    repeat (first | refine ⟨_, cell_blk (raw1) rfl, ?_⟩)
    refine ⟨?_, ?_⟩
    · refine (set4 _).mono ?_
      rintro v h3 ⟨rfl, x3⟩
      intro tb h4 n4
      refine ⟨⟨cell_blk ((S1.ext x3).ext n4.ext).raw rfl, reads_all ((x3.trans n4.ext).blk n1.this), trivial⟩, ?_⟩
      refine ⟨rfl, rfl, canset_blk n4.this rfl, fun h5 s5 => ?_⟩
      exact ⟨tb, ⟨rfl, rfl, trivial⟩, s5.put n4.this, (x3.trans n4.ext).stored s5 (n4.ge x3)⟩
    · intro tb h2 n2
      refine ⟨⟨cell_blk (S1.ext n2.ext).raw rfl, reads_all (n2.ext.blk n1.this), trivial⟩, ?_⟩
      refine (set4 _).mono ?_
      rintro v h3 ⟨rfl, x3⟩
      refine ⟨rfl, rfl, canset_blk (x3.blk n2.this) rfl, fun h5 s5 => ?_⟩
      exact ⟨tb, ⟨rfl, rfl, trivial⟩, s5.put (x3.blk n2.this), (n2.ext.trans x3).stored s5 (n2.ge (Ext.refl _))⟩
  rintro tb h4 ⟨tb4, x14⟩
  have S4 := S1.ext x14
  have raw4 := S4.raw
  obtain ⟨RA4, rc4, hb4, _⟩ := S4.fab.blk
  repeat (first | refine ⟨_, cell_blk (raw4) rfl, ?_⟩ | refine ⟨_, cell_blk (hb4) rfl, ?_⟩)
  refine ⟨[.int .i64 4, .int .u32 1], rfl, reads_all tb4, ?_⟩
  refine pWord_260.mono ?_
  rintro v h5 ⟨rfl, x5⟩
  have S5 := S4.ext x5
  have raw5 := S5.raw
  obtain ⟨RA5, rc5, hb5, _⟩ := S5.fab.blk
  try (refine ⟨by ((repeat (first | refine ⟨cell_blk (raw5) rfl, ?_⟩ | refine ⟨cell_blk (hb5) rfl, ?_⟩)); exact trivial), ?_⟩)
  refine (mStore_at S5.mem (i := p) (x := 260) hp rfl hc (by omega)).mono ?_
  rintro v h6 ⟨rfl, m6, c6⟩
  have S6 := S5.memory c6 m6
  have tb6 := c6.blk (x5.blk tb4) (by simp [ML])
  refine (aMarks_spec S6).mono ?_
  rintro v h7 ⟨rfl, S7, c7⟩
  have tb7 := c7.typ _ _ _ _ tb6 (by decide)
  repeat (first | refine ⟨_, cell_blk (tb7) rfl, ?_⟩)
  refine (aDone_spec S7 1).mono ?_
  rintro v h8 ⟨rfl, S8, c8⟩
  have tb8 := c8.typ _ _ _ _ tb7 (by decide)
  repeat (first | refine ⟨_, cell_blk (tb8) rfl, ?_⟩)
  refine (pForwards_spec 4).mono ?_
  rintro v h9 ⟨rfl, rfl⟩
  exact ⟨rfl, S8, ((((n1.ext.trans x14).trans x5).chgT S.hB).trans (S5.frM c6)).trans (c7.trans c8)⟩
/-- How the port stands is read. -/
theorem aRead_spec (S : CaS h B F ab x ls M E) {p : Nat} (hp : x.o.port = (p : Int)) (hpP : p < F.P) (hx : M.cells[p]? = some 0) (ht : M.t < 900000) :
    HCalls Tryz.prog 115 #[.pointer (some ⟨ab, 0, none⟩)] h (fun v h' => ∃ sb, v = .func (.func 159) #[] #[.pointer (some ⟨sb, 0, none⟩)] ∧ h'[sb]? = some (.cells [Value.int .i64 0, Value.int .u32 0].toArray 72 (0, 0)) ∧ CaS h' B F ab x ls { M with t := M.t + 1 } E ∧ ChgT B TyC h h') := by
  have raw := S.raw
  have hf := S.xf
  obtain ⟨f', who, o, next, gA, gn, gc, kA, kn, kc, held, from_, pop, act⟩ := x
  simp only at hf hp
  subst hf
  refine xcalls env_aRead Tryz.func115 rfl (by kernel_rfl) rfl (by kernel_rfl) ?_
  have stand : ∀ g, Ext h g → HCalls Tryz.prog 30 #[.pointer (some ⟨F.fb, 0, none⟩), .int .i64 o.port] g (fun v h' => v = .agg #[.int .i64 0, .int .u32 0] ∧ MemAt h' F.mb F.cb F.lb { M with t := M.t + 1 } ∧ Chg (ML F.mb F.cb F.lb) g h') := by
    intro g e
    rw [hp]
    refine (cStand_spec (S.ext e).fab (S.ext e).mem hpP hx (by omega)).mono ?_
    rintro v h1 ⟨rfl, m1, c1⟩
    exact ⟨rfl, m1, c1.mono (by first | (simp; done) | (intro p hp; simp [hp]; done) | (simp [ML]; done) | (intro p hp; simp [ML] at hp ⊢; rcases hp with h | h | h <;> simp [h]; done))⟩
  repeat (first | refine ⟨_, cell_blk (raw) rfl, ?_⟩)
  refine ⟨?_, ?_⟩
  · refine (stand h (Ext.refl _)).mono ?_
    rintro v h1 ⟨rfl, m1, c1⟩
    have S1 := S.memory c1 m1
    intro sb h2 n2
    have S2 := S1.ext n2.ext
    have raw2 := S2.raw
    obtain ⟨RA2, rc2, hb2, _⟩ := S2.fab.blk
    try (refine ⟨by ((repeat (first | refine ⟨cell_blk (raw2) rfl, ?_⟩ | refine ⟨cell_blk (hb2) rfl, ?_⟩)); exact trivial), ?_⟩)
    refine ⟨rfl, rfl, canset_blk n2.this rfl, fun h3 s3 => ?_⟩
    have x3 : Ext h1 h3 := n2.ext.stored s3 (n2.ge (Ext.refl _))
    exact ⟨sb, rfl, s3.put n2.this, S1.ext x3, (S.frM c1).trans (x3.chgT S1.hB)⟩
  · intro sb h2 n2
    have S2 := S.ext n2.ext
    have raw2 := S2.raw
    obtain ⟨RA2, rc2, hb2, _⟩ := S2.fab.blk
    try (refine ⟨by ((repeat (first | refine ⟨cell_blk (raw2) rfl, ?_⟩ | refine ⟨cell_blk (hb2) rfl, ?_⟩)); exact trivial), ?_⟩)
    refine (stand h2 n2.ext).mono ?_
    rintro v h3 ⟨rfl, m3, c3⟩
    have S3 := S2.memory c3 m3
    have hsb := c3.blk n2.this (by simp [ML])
    have raw3 := S3.raw
    obtain ⟨RA3, rc3, hb3, _⟩ := S3.fab.blk
    try (refine ⟨by ((repeat (first | refine ⟨cell_blk (raw3) rfl, ?_⟩ | refine ⟨cell_blk (hb3) rfl, ?_⟩)); exact trivial), ?_⟩)
    refine ⟨rfl, rfl, canset_blk hsb rfl, fun h4 s4 => ?_⟩
    have e4 : h4 = h3 := s4.same hsb rfl
    subst e4
    exact ⟨sb, rfl, hsb, S3, (n2.ext.chgT S.hB).trans (S2.frM c3)⟩
theorem aRead1_spec (S : CaS h B F ab x ls M E) {sb : Nat} (hs : h[sb]? = some (.cells [Value.int .i64 0, Value.int .u32 0].toArray 72 (0, 0))) {p : Nat} (hp : x.o.port = (p : Int)) (hst : x.o.state = 4) (hpP : p < F.P) (hc : p < M.cells.length) (ht : M.t < 900000) :
    HCalls Tryz.prog 159 #[.pointer (some ⟨ab, 0, none⟩), .pointer (some ⟨sb, 0, none⟩)] h (fun v h' => v = .func (.func 187) #[] #[] ∧ CaS h' B F ab x ls { M with cells := M.cells.set p 260, t := M.t + 1 } { E with mark := ((M.t + 1 : Nat) : Int), fin := ((M.t + 1 : Nat) : Int), ans := 1 } ∧ ChgT B TyC h h') := by
  refine xcalls env0 Tryz.func159 rfl (by kernel_rfl) rfl (by kernel_rfl) ?_
  refine ⟨[.int .i64 0, .int .u32 0], rfl, reads_all hs, ?_⟩
  refine (aWrite_spec S hp hst hpP hc ht).mono ?_
  rintro v h1 ⟨rfl, r⟩
  exact ⟨rfl, r⟩
theorem aAnswer_spec (S : CaS h B F ab x ls M E) (hn : x.next = .nilFunc) : HCalls Tryz.prog 34 #[.pointer (some ⟨ab, 0, none⟩)] h (fun v h' => v = .int .i64 E.ans ∧ h' = h) := by
  obtain ⟨lb, hg⟩ := S.logAt
  have raw := S.raw
  have hgn := S.gn
  have ol := S.log
  obtain ⟨f', who, o, next, gA, gn, gc, kA, kn, kc, held, from_, pop, act⟩ := x
  simp only at hgn hg hn ol
  subst hgn hg hn
  obtain ⟨a, ha, hrd⟩ := ol.row encHe_len 0 E rfl
  have r5 : cell h ((a.add (0 * 19)).add 18) = some (.int .i64 E.ans) := hrd.get 18 rfl
  refine xcalls env0 Tryz.func34 rfl (by kernel_rfl) rfl (by kernel_rfl) ?_
  repeat (first | refine ⟨_, cell_blk (raw) rfl, ?_⟩)
  refine ⟨a, ha, by decide, (by show (0 : Int) < ((1 : Nat) : Int); decide), _, r5, ?_⟩
  exact ⟨rfl, rfl⟩
theorem aLog_spec (S : CaS h B F ab x ls M E) : HCalls Tryz.prog 31 #[.pointer (some ⟨ab, 0, none⟩)] h (fun v h' => ∃ A c, v = .slice A 1 c ∧ Ext h h') := by
  have raw := S.raw
  have hgn := S.gn
  have ol := S.log
  obtain ⟨f', who, o, next, gA, gn, gc, kA, kn, kc, held, from_, pop, act⟩ := x
  simp only at hgn ol
  subst hgn
  refine xcalls env0 Tryz.func31 rfl (by kernel_rfl) rfl (by kernel_rfl) ?_
  repeat (first | refine ⟨_, cell_blk (raw) rfl, ?_⟩)
  refine (hClone_spec ol rfl (by show 1 ≤ 100000; decide)).mono ?_
  rintro v h1 ⟨A', c', rfl, o1, x1⟩
  exact ⟨A', c', rfl, x1⟩
/-- An order goes to its end: Q tells how all is behind so many steps. -/
theorem lFinish_spec {n most : Nat} {Q : Nat → Heap → Prop} (h0 : 0 < n) (hm : n ≤ most) (hmost : most < 100000) (hq : Q 0 h) (step : ∀ k, k < n → ∀ g, Q k g → HCalls Tryz.prog 29 #[.pointer (some ⟨ab, 0, none⟩)] g (fun v h' => v = .bool (k + 1 == n) ∧ Q (k + 1) h')) (over : ∀ g, Q n g → HCalls Tryz.prog 49 #[.pointer (some ⟨ab, 0, none⟩)] g (fun v h' => v = .bool true ∧ h' = g)) :
    HCalls Tryz.prog 33 #[.pointer (some ⟨ab, 0, none⟩), .int .i64 most] h (fun v h' => v = .bool true ∧ Q n h') := by
  refine xcalls env0 Tryz.func33 rfl (by kernel_rfl) rfl (by kernel_rfl) ?_
  refine ⟨Nat, fun i => [(0, .pointer (some ⟨ab, 0, none⟩)), (1, .int .i64 most), (5, .int .i64 i)], fun i h' => i < n ∧ Q i h', fun i => n - i, 0, ⟨rfl, rfl, rfl, trivial⟩, ⟨h0, hq⟩, ?_⟩
  rintro i h1 ⟨hi, q1⟩
  refine xif_true (decide_eq_true ?_) ?_
  · show (i : Int) < (most : Int)
    omega
  refine (step i hi h1 q1).mono ?_
  rintro v h2 ⟨rfl, q2⟩
  by_cases e : i + 1 = n
  · rw [show (i + 1 == n) = true from beq_iff_eq.2 e]
    rw [e] at q2
    refine (over h2 q2).mono ?_
    rintro v h3 ⟨rfl, rfl⟩
    exact ⟨rfl, q2⟩
  · rw [show (i + 1 == n) = false from beq_eq_false_iff_ne.2 e]
    exact ⟨i + 1, ⟨rfl, rfl, slot_inc (by omega), trivial⟩, ⟨by omega, q2⟩, by show n - (i + 1) < n - i; omega⟩
end
end Go.Proofs.YthoikbogkhpciaaGreatE
