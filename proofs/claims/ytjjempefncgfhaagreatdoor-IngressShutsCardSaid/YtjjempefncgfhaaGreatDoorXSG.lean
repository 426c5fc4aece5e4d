/- A port is set to any state, whatever it was; all that waits for it is taken: how all is, step by step, and what stands in the cells. Conditions: the port's lock is free. -/
import Derived.Test.YtjjempefncgfhaaGreatDoorXGC
set_option linter.unusedVariables false
set_option linter.unusedSimpArgs false
set_option maxRecDepth 100000
namespace Go.Proofs.YtjjempefncgfhaaGreatDoorE
open Go Go.Proofs
def env_dPlaces : Nat → Ann
  | 5 => ⟨.op 0 [] <| .op 1 [] <| .op 2 [] <| .op 3 [] <| .op 4 [] <| .op 5 [] <| .op 6 [] <| .op 7 [] <| .op 8 [] <| .op 9 [] <| .op 10 [] <| .op 11 [] <| .op 12 [] <| .op 13 [] <| .op 14 [] <| .op 15 [] <| .op 16 [] <| .op 17 [] <| .op 18 [] <| .op 19 [] <| .op 20 [] <| .op 21 [] <| .op 22 [] <| .op 23 [] <| .op 24 [] <| .nil, [0, 0, 0, 0, 0, 0, 32, 112, 240, 0, 0, 1024, 3072, 7680, 15872, 32752, 65520, 131056, 131056, 262131, 786419, 1834995, 4194303, 8388607, 16777215], false⟩
  | _ => ⟨.nil, [], false⟩
def env_dWhere : Nat → Ann
  | 1 => ⟨.op 0 [] <| .op 1 [] <| .op 2 [] <| .op 3 [] <| .op 4 [] <| .op 5 [] <| .op 6 [] <| .op 7 [] <| .op 8 [] <| .op 9 [] <| .op 10 [] <| .op 11 [] <| .op 12 [] <| .op 13 [] <| .op 14 [] <| .op 15 [] <| .op 16 [] <| .op 17 [] <| .op 18 [] <| .op 19 [] <| .op 20 [] <| .op 21 [] <| .op 22 [] <| .op 23 [] <| .op 24 [] <| .op 25 [] <| .op 26 [] <| .op 27 [] <| .op 28 [] <| .op 29 [] <| .nil, [0, 1, 3, 7, 0, 0, 32, 96, 224, 480, 1008, 0, 4080, 0, 8192, 24576, 57344, 122880, 253952, 516096, 1048560, 2097151, 0, 4194304, 12582912, 29360128, 0, 130023424, 268435455, 536870911], false⟩
  | _ => ⟨.nil, [], false⟩
def env_dBucket : Nat → Ann
  | 8 => ⟨.op 0 [] <| .op 1 [] <| .op 2 [] <| .op 3 [] <| .op 4 [] <| .op 5 [] <| .op 6 [] <| .op 7 [] <| .op 8 [5] <| .op 9 [] <| .op 10 [] <| .op 11 [] <| .nil, [0, 0, 0, 4, 12, 28, 0, 0, 192, 508, 1023, 2047], false⟩
  | _ => ⟨.nil, [], false⟩
def env_aReadG : Nat → Ann
  | 1 => ⟨.op 0 [] <| .op 1 [] <| .op 2 [] <| .op 3 [] <| .op 4 [] <| .op 5 [] <| .op 6 [] <| .op 7 [] <| .op 8 [] <| .alt (.op 9 [] <| .op 10 [3, 8] <| .op 11 [] <| .nil) (.op 10 [3, 8] <| .op 9 [] <| .op 11 [] <| .nil), [0, 1, 3, 7, 0, 16, 48, 112, 240, 511, 0, 2047], false⟩
  | _ => ⟨.nil, [], false⟩
def env_aWriteG : Nat → Ann
  | 1 => ⟨.op 0 [] <| .op 1 [] <| .op 2 [] <| .op 3 [] <| .op 4 [] <| .op 5 [] <| .alt (.op 6 [] <| .op 7 [] <| .op 8 [] <| .op 9 [] <| .op 10 [0, 5] <| .op 11 [] <| .op 12 [] <| .nil) (.op 10 [0, 5] <| .op 6 [] <| .op 7 [] <| .op 8 [] <| .op 9 [] <| .op 11 [] <| .op 12 [] <| .nil), [0, 0, 2, 6, 14, 30, 63, 127, 255, 255, 0, 1535, 4095], false⟩
  | 2 => ⟨.op 0 [] <| .op 1 [] <| .op 2 [] <| .op 3 [] <| .op 4 [] <| .op 5 [] <| .op 6 [] <| .op 7 [] <| .op 8 [] <| .op 9 [] <| .op 10 [] <| .op 11 [] <| .op 12 [] <| .op 13 [3, 6, 11] <| .op 14 [] <| .nil, [0, 1, 3, 7, 15, 31, 63, 0, 128, 384, 896, 1920, 0, 4096, 16383], true⟩
  | _ => ⟨.nil, [], false⟩
/-- How a port stands, as a number. -/
def standW (s e : Int) : Int := s + 256 * e
def upE (ep : Int) : Int := IntKind.u32.wrap (ep + 1)
theorem upE_range (ep : Int) : 0 ≤ upE ep ∧ upE ep < 4294967296 := by unfold upE; rw [IntKind.wrap_u32]; omega
section
variable {h h' : Heap} {B : Nat} {F : Fb} {ab : Nat} {x : CaV} {ls : List Nat} {M : MemS} {E : He}
theorem pOfG_spec {s e : Int} (hs : rightSt s = true) (e0 : 0 ≤ e) (e1 : e < 4294967296) : HCalls Tryz.prog 63 #[.int .u64 (standW s e)] h (fun v h' => v = .tuple #[.agg #[.int .i64 s, .int .u32 e], .bool true] ∧ Ext h h') := by
  have hr : 0 ≤ s ∧ s ≤ 4 := of_decide_eq_true hs
  have m1 : IntKind.i64.wrap (IntKind.u64.wrap ((BitVec.ofInt 64 (standW s e) &&& BitVec.ofInt 64 255).toNat : Int)) = s := by
    have := and_mask (m := standW s e) 8 (by decide) (by unfold standW; omega) (by unfold standW; omega)
    have e8 : ((2 ^ 8 - 1 : Nat) : Int) = 255 := by decide
    rw [e8] at this
    rw [this]
    have e9 : ((2 ^ 8 : Nat) : Int) = 256 := by decide
    rw [e9]
    unfold standW
    rw [wrap_i64 (by omega) (by omega)]
    omega
  have m2 : IntKind.u32.wrap (Int.fdiv (standW s e) (2 ^ min (Int.toNat 8) 64)) = e := by
    have := shr_eq (z := standW s e) 8 256 (by decide) (by decide)
    have e8 : (2 : Int) ^ (min (Int.toNat 8) IntKind.u64.bits) = 2 ^ min (Int.toNat 8) 64 := rfl
    rw [e8] at this
    rw [this]
    unfold standW
    rw [IntKind.wrap_u32]
    omega
  have m3 : Int.fdiv (standW s e) (2 ^ min (Int.toNat 40) 64) = 0 := by
    have := shr_eq (z := standW s e) 40 1099511627776 (by decide) (by decide)
    have e8 : (2 : Int) ^ (min (Int.toNat 40) IntKind.u64.bits) = 2 ^ min (Int.toNat 40) 64 := rfl
    rw [e8] at this
    rw [this]
    unfold standW
    omega
  refine xcalls env0 Tryz.func63 rfl (by kernel_rfl) rfl (by kernel_rfl) ?_
  intro b0 h1 n1
  refine ⟨by decide, ?_⟩
  intro b1 h2 n2
  refine ⟨rfl, rfl, canset_blk n2.this rfl, fun h3 s3 => ?_⟩
  have x02 : Ext h h2 := n1.ext.trans n2.ext
  have e1 : [Value.int .i64 (IntKind.i64.wrap (IntKind.u64.wrap ((BitVec.ofInt 64 (standW s e) &&& BitVec.ofInt 64 255).toNat : Int))), Value.int .u32 (IntKind.u32.wrap (Int.fdiv (standW s e) (2 ^ min (Int.toNat 8) 64)))] = [Value.int .i64 s, Value.int .u32 e] := by rw [m1, m2]
  have s3' : Stored h2 ⟨b1, 0, none⟩ [Value.int .i64 s, Value.int .u32 e] h3 := (congrArg (fun l => Stored h2 ⟨b1, 0, none⟩ l h3) e1).mp s3
  have hb1 : h3[b1]? = some (.cells [Value.int .i64 s, Value.int .u32 e].toArray 167 (0, 0)) := s3'.put n2.this
  refine ⟨by decide, ?_⟩
  refine xif_false (show (Int.fdiv (standW s e) (2 ^ min (Int.toNat 40) 64) != 0) = false by rw [m3]; rfl) ?_
  refine ⟨_, cell_blk hb1 rfl, ?_⟩
  refine (pRight_spec s).mono ?_
  rintro v h4 ⟨rfl, rfl⟩
  refine xif_false (by rw [hs]; rfl) ?_
  have hb0 : h4[b0]? = some (.cells [Value.int .i64 0, Value.int .u32 0].toArray 167 (0, 0)) := s3'.blk (n2.ext.blk n1.this) (by have := n2.at_; have := blk_lt n1.this; show b0 ≠ b1; omega)
  refine ⟨[.int .i64 s, .int .u32 e], rfl, reads_all hb1, rfl, rfl, canset_blk hb0 rfl, fun h5 s5 => ?_⟩
  have hb5 : h5[b0]? = some (.cells [Value.int .i64 s, Value.int .u32 e].toArray 167 (0, 0)) := s5.put hb0
  exact ⟨[.int .i64 s, .int .u32 e], rfl, reads_all hb5, rfl, (x02.stored s3' (n2.ge n1.ext)).stored s5 (n1.ge (Ext.refl _))⟩
theorem cStandS_spec (H : FabAt h F) (HM : MemAt h F.mb F.cb F.lb M) {p : Nat} (hp : p < F.P) {s e : Int} (hs : rightSt s = true) (e0 : 0 ≤ e) (e1 : e < 4294967296) (hx : M.cells[p]? = some (standW s e)) (ht : M.t < 1000000) : HCalls Tryz.prog 188 #[.pointer (some ⟨F.fb, 0, none⟩), .int .i64 p] h (fun v h' => v = .agg #[.int .i64 s, .int .u32 e] ∧ MemAt h' F.mb F.cb F.lb { M with t := M.t + 1 } ∧ Chg [(F.mb, 205)] h h') := by
  obtain ⟨RA, rc, hb', hr⟩ := H.blk
  refine xcalls env0 Tryz.func188 rfl (by kernel_rfl) rfl (by kernel_rfl) ?_
  intro b0 h1 n1
  have ob : h1[F.fb]? = _ := n1.ext.blk hb'
  refine (cHas_spec (H.ext n1.ext) p).mono ?_
  rintro v h2 ⟨rfl, rfl⟩
  refine xif_false (has_yes' hp) ?_
  repeat (first | refine ⟨_, cell_blk (ob) rfl, ?_⟩)
  refine (mLoad_spec (HM.ext n1.ext) hx ht).mono ?_
  rintro v h3 ⟨rfl, M3, c3⟩
  refine (pOfG_spec hs e0 e1).mono ?_
  rintro v h4 ⟨rfl, x4⟩
  intro b1 h5 n5
  refine ⟨rfl, rfl, canset_blk n5.this rfl, fun h6 s6 => ?_⟩
  have hb6 : h6[b1]? = some (.cells [Value.int .i64 s, Value.int .u32 e].toArray _ (0, 0)) := s6.put n5.this
  have x46 : Ext h4 h6 := n5.ext.stored s6 (n5.ge (Ext.refl _))
  have hb0 : h6[b0]? = some (.cells [Value.int .i64 0, Value.int .u32 0].toArray _ (0, 0)) := x46.blk (x4.blk (c3.blk n1.this (by simp)))
  refine ⟨[.int .i64 s, .int .u32 e], rfl, reads_all hb6, rfl, rfl, canset_blk hb0 rfl, fun h7 s7 => ?_⟩
  have hb7 : h7[b0]? = some (.cells [Value.int .i64 s, Value.int .u32 e].toArray _ (0, 0)) := s7.put hb0
  have c7 : Chg [(b0, 167)] h6 h7 := s7.chg hb0 (.head _)
  exact ⟨[.int .i64 s, .int .u32 e], rfl, reads_all hb7, rfl, ((M3.ext x4).ext x46).chg c7 (by simp) (by simp) (by simp), ((n1.ext.chg _).trans (c3.trans ((x4.trans x46).chg _))).stored s7 (n1.ge (Ext.refl _))⟩
theorem pWordG_spec {s e : Int} (hs : rightSt s = true) (e0 : 0 ≤ e) (e1 : e < 4294967296) : HCalls Tryz.prog 226 #[.agg #[.int .i64 s, .int .u32 e]] h (fun v h' => v = .int .u64 (standW s e) ∧ Ext h h') := by
  have hr : 0 ≤ s ∧ s ≤ 4 := of_decide_eq_true hs
  refine xcalls env0 Tryz.func226 rfl (by kernel_rfl) rfl (by kernel_rfl) ?_
  intro b h1 n1
  refine ⟨_, cell_blk n1.this rfl, ?_⟩
  refine (pRight_spec s).mono ?_
  rintro v h2 ⟨rfl, rfl⟩
  refine xif_false (by rw [hs]; rfl) ?_
  refine ⟨_, cell_blk n1.this rfl, _, cell_blk n1.this rfl, ?_⟩
  refine ⟨by decide, ?_, n1.ext⟩
  refine congrArg (Value.int .u64) ?_
  obtain ⟨a, rfl⟩ : ∃ a : Nat, s = a := ⟨s.toNat, by omega⟩
  obtain ⟨c, rfl⟩ : ∃ c : Nat, e = c := ⟨e.toNat, by omega⟩
  have k1 : IntKind.u64.wrap (a : Int) = (a : Int) := wrap_u64 (by omega) (by omega)
  have sh : c <<< 8 = c * 256 := by rw [Nat.shiftLeft_eq]
  have k2 : IntKind.u64.wrap (IntKind.u64.wrap (c : Int) * 2 ^ min (Int.toNat 8) IntKind.u64.bits) = ((c <<< 8 : Nat) : Int) := by
    have e8 : min (Int.toNat 8) IntKind.u64.bits = 8 := by decide
    rw [wrap_u64 (x := (c : Int)) (by omega) (by omega), e8, sh]
    rw [show (c : Int) * 2 ^ 8 = ((c * 256 : Nat) : Int) by push_cast; rfl]
    exact wrap_u64 (by omega) (by omega)
  refine (or_eq k1 k2 (by omega) (by omega)).trans ?_
  rw [Nat.or_comm, ← Nat.shiftLeft_add_eq_or_of_lt (show a < 2 ^ 8 by omega), sh]
  unfold standW
  omega
theorem aWriteG_spec (S : CaS h B F ab x ls M E) {p : Nat} (hp : x.o.port = (p : Int)) {st ep s : Int} (hst : x.o.state = s) (hs : rightSt s = true) (hpP : p < F.P) (hc : p < M.cells.length) (ht : M.t < 900000) :
    HCalls Tryz.prog 190 #[.pointer (some ⟨ab, 0, none⟩), .agg #[.int .i64 st, .int .u32 ep]] h (fun v h' => v = .func (.func (if s = 4 then 224 else 228)) #[] #[] ∧ CaS h' B F ab x ls { M with cells := M.cells.set p (standW s (upE ep)), t := M.t + 1 } { E with mark := ((M.t + 1 : Nat) : Int), fin := ((M.t + 1 : Nat) : Int), ans := upE ep } ∧ ChgT B TyC h h') := by
  have raw := S.raw
  have hf := S.xf
  obtain ⟨RA, rc, hb', hr⟩ := S.fab.blk
  obtain ⟨f', who, o, next, gA, gn, gc, kA, kn, kc, held, from_, pop, act⟩ := x
  simp only at hf hp hst
  subst hf
  refine xcalls env_aWriteG Tryz.func190 rfl (by kernel_rfl) rfl (by kernel_rfl) ?_
  intro sb h1 n1
  have S1 := S.ext n1.ext
  have raw1 := S1.raw
  have set4 : ∀ g : Heap, HCalls Tryz.prog 225 #[.agg #[.int .i64 st, .int .u32 ep], .int .i64 o.state] g (fun v h' => v = .tuple #[.agg #[.int .i64 s, .int .u32 (upE ep)], .int .i64 0] ∧ Ext g h') := by
    intro g
    rw [hst]
    refine (pSet_spec ⟨st, ep⟩ s).mono ?_
    rintro v h3 ⟨rfl, x3⟩
    rw [if_pos hs, if_pos hs]
    exact ⟨rfl, x3⟩
  refine ⟨Nat, fun z => [(0, .pointer (some ⟨ab, 0, none⟩)), (5, .pointer (some ⟨z, 0, none⟩))], fun z h' => h'[z]? = some (.cells [Value.int .i64 s, Value.int .u32 (upE ep)].toArray 167 (0, 0)) ∧ Ext h1 h', ?_, ?_⟩
  · refine ⟨[.int .i64 st, .int .u32 ep], rfl, reads_all n1.this, ?_⟩
    repeat (first | refine ⟨_, cell_blk (raw1) rfl, ?_⟩)
    refine ⟨?_, ?_⟩
    · refine (set4 _).mono ?_
      rintro v h3 ⟨rfl, x3⟩
      intro tb h4 n4
      refine ⟨⟨cell_blk ((S1.ext x3).ext n4.ext).raw rfl, reads_all ((x3.trans n4.ext).blk n1.this), trivial⟩, ?_⟩
      refine ⟨rfl, rfl, canset_blk n4.this rfl, fun h5 s5 => ?_⟩
      exact ⟨tb, ⟨rfl, rfl, trivial⟩, s5.put n4.this, (x3.trans n4.ext).stored s5 (n4.ge x3)⟩
    · intro tb h2 n2
      refine ⟨⟨cell_blk (S1.ext n2.ext).raw rfl, reads_all (n2.ext.blk n1.this), trivial⟩, ?_⟩
      refine (set4 _).mono ?_
      rintro v h3 ⟨rfl, x3⟩
      refine ⟨rfl, rfl, canset_blk (x3.blk n2.this) rfl, fun h5 s5 => ?_⟩
      exact ⟨tb, ⟨rfl, rfl, trivial⟩, s5.put (x3.blk n2.this), (n2.ext.trans x3).stored s5 (n2.ge (Ext.refl _))⟩
  rintro tb h4 ⟨tb4, x14⟩
  have S4 := S1.ext x14
  have raw4 := S4.raw
  obtain ⟨RA4, rc4, hb4, _⟩ := S4.fab.blk
  repeat (first | refine ⟨_, cell_blk (raw4) rfl, ?_⟩ | refine ⟨_, cell_blk (hb4) rfl, ?_⟩)
  refine ⟨[.int .i64 s, .int .u32 (upE ep)], rfl, reads_all tb4, ?_⟩
  refine (pWordG_spec hs (upE_range ep).1 (upE_range ep).2).mono ?_
  rintro v h5 ⟨rfl, x5⟩
  have S5 := S4.ext x5
  have raw5 := S5.raw
  obtain ⟨RA5, rc5, hb5, _⟩ := S5.fab.blk
  try (refine ⟨by ((repeat (first | refine ⟨cell_blk (raw5) rfl, ?_⟩ | refine ⟨cell_blk (hb5) rfl, ?_⟩)); exact trivial), ?_⟩)
  have hrg : 0 ≤ s ∧ s ≤ 4 := of_decide_eq_true hs
  refine (mStore_at S5.mem (i := p) (x := standW s (upE ep)) hp rfl hc (by omega)).mono ?_
  rintro v h6 ⟨rfl, m6, c6⟩
  have S6 := S5.memory c6 m6
  have tb6 := c6.blk (x5.blk tb4) (by simp [ML])
  refine (aMarks_spec S6).mono ?_
  rintro v h7 ⟨rfl, S7, c7⟩
  have tb7 := c7.typ _ _ _ _ tb6 (by decide)
  repeat (first | refine ⟨_, cell_blk (tb7) rfl, ?_⟩)
  refine (aDone_spec S7 _).mono ?_
  rintro v h8 ⟨rfl, S8, c8⟩
  rw [wrap_i64 (x := upE ep) (by have := upE_range ep; omega) (by have := upE_range ep; omega)] at S8
  have tb8 := c8.typ _ _ _ _ tb7 (by decide)
  repeat (first | refine ⟨_, cell_blk (tb8) rfl, ?_⟩)
  refine (pForwards_spec s).mono ?_
  rintro v h9 ⟨rfl, rfl⟩
  have fr := ((((n1.ext.trans x14).trans x5).chgT S.hB).trans (S5.frM c6)).trans (c7.trans c8)
  refine xif_of (fun g => ?_) (fun g => ?_)
  · have g : (s == 4) = true := g
    exact ⟨by rw [if_pos (by simpa using g)]; rfl, S8, fr⟩
  · have g : (s == 4) = false := g
    exact ⟨by rw [if_neg (by simpa using g)]; rfl, S8, fr⟩
theorem aRead1G_spec (S : CaS h B F ab x ls M E) {st ep : Int} {sb : Nat} (hsb : h[sb]? = some (.cells [Value.int .i64 st, Value.int .u32 ep].toArray 167 (0, 0))) {p : Nat} (hp : x.o.port = (p : Int)) {s : Int} (hst : x.o.state = s) (hs : rightSt s = true) (hpP : p < F.P) (hc : p < M.cells.length) (ht : M.t < 900000) :
    HCalls Tryz.prog 189 #[.pointer (some ⟨ab, 0, none⟩), .pointer (some ⟨sb, 0, none⟩)] h (fun v h' => v = .func (.func (if s = 4 then 224 else 228)) #[] #[] ∧ CaS h' B F ab x ls { M with cells := M.cells.set p (standW s (upE ep)), t := M.t + 1 } { E with mark := ((M.t + 1 : Nat) : Int), fin := ((M.t + 1 : Nat) : Int), ans := upE ep } ∧ ChgT B TyC h h') := by
  refine xcalls env0 Tryz.func189 rfl (by kernel_rfl) rfl (by kernel_rfl) ?_
  refine ⟨[.int .i64 st, .int .u32 ep], rfl, reads_all hsb, ?_⟩
  refine (aWriteG_spec S hp hst hs hpP hc ht).mono ?_
  rintro v h1 ⟨rfl, r⟩
  exact ⟨rfl, r⟩
theorem aReadG_spec (S : CaS h B F ab x ls M E) {st ep : Int} (hs : rightSt st = true) (e0 : 0 ≤ ep) (e1 : ep < 4294967296) {p : Nat} (hp : x.o.port = (p : Int)) (hpP : p < F.P) (hx : M.cells[p]? = some (standW st ep)) (ht : M.t < 900000) :
    HCalls Tryz.prog 136 #[.pointer (some ⟨ab, 0, none⟩)] h (fun v h' => ∃ sb, v = .func (.func 189) #[] #[.pointer (some ⟨sb, 0, none⟩)] ∧ h'[sb]? = some (.cells [Value.int .i64 st, Value.int .u32 ep].toArray 167 (0, 0)) ∧ CaS h' B F ab x ls { M with t := M.t + 1 } E ∧ ChgT B TyC h h') := by
  have raw := S.raw
  have hf := S.xf
  obtain ⟨f', who, o, next, gA, gn, gc, kA, kn, kc, held, from_, pop, act⟩ := x
  simp only at hf hp
  subst hf
  refine xcalls env_aReadG Tryz.func136 rfl (by kernel_rfl) rfl (by kernel_rfl) ?_
  have stand : ∀ g, Ext h g → HCalls Tryz.prog 188 #[.pointer (some ⟨F.fb, 0, none⟩), .int .i64 o.port] g (fun v h' => v = .agg #[.int .i64 st, .int .u32 ep] ∧ MemAt h' F.mb F.cb F.lb { M with t := M.t + 1 } ∧ Chg (ML F.mb F.cb F.lb) g h') := by
    intro g e
    rw [hp]
    refine (cStandS_spec (S.ext e).fab (S.ext e).mem hpP hs e0 e1 hx (by omega)).mono ?_
    rintro v h1 ⟨rfl, m1, c1⟩
    exact ⟨rfl, m1, c1.mono (by first | (simp; done) | (intro p hp; simp [hp]; done) | (simp [ML]; done) | (intro p hp; simp [ML] at hp ⊢; rcases hp with h | h | h <;> simp [h]; done))⟩
  repeat (first | refine ⟨_, cell_blk (raw) rfl, ?_⟩)
  refine ⟨?_, ?_⟩
  · refine (stand h (Ext.refl _)).mono ?_
    rintro v h1 ⟨rfl, m1, c1⟩
    have S1 := S.memory c1 m1
    intro sb h2 n2
    have S2 := S1.ext n2.ext
    have raw2 := S2.raw
    obtain ⟨RA2, rc2, hb2, _⟩ := S2.fab.blk
    try (refine ⟨by ((repeat (first | refine ⟨cell_blk (raw2) rfl, ?_⟩ | refine ⟨cell_blk (hb2) rfl, ?_⟩)); exact trivial), ?_⟩)
    refine ⟨rfl, rfl, canset_blk n2.this rfl, fun h3 s3 => ?_⟩
    have x3 : Ext h1 h3 := n2.ext.stored s3 (n2.ge (Ext.refl _))
    exact ⟨sb, rfl, s3.put n2.this, S1.ext x3, (S.frM c1).trans (x3.chgT S1.hB)⟩
  · intro sb h2 n2
    have S2 := S.ext n2.ext
    have raw2 := S2.raw
    obtain ⟨RA2, rc2, hb2, _⟩ := S2.fab.blk
    try (refine ⟨by ((repeat (first | refine ⟨cell_blk (raw2) rfl, ?_⟩ | refine ⟨cell_blk (hb2) rfl, ?_⟩)); exact trivial), ?_⟩)
    refine (stand h2 n2.ext).mono ?_
    rintro v h3 ⟨rfl, m3, c3⟩
    have S3 := S2.memory c3 m3
    have hsb := c3.blk n2.this (by simp [ML])
    have raw3 := S3.raw
    obtain ⟨RA3, rc3, hb3, _⟩ := S3.fab.blk
    try (refine ⟨by ((repeat (first | refine ⟨cell_blk (raw3) rfl, ?_⟩ | refine ⟨cell_blk (hb3) rfl, ?_⟩)); exact trivial), ?_⟩)
    refine ⟨rfl, rfl, canset_blk hsb rfl, fun h4 s4 => ?_⟩
    have hsb4 : h4[sb]? = some (.cells [Value.int .i64 st, Value.int .u32 ep].toArray 167 (0, 0)) := s4.put hsb
    have c4 : Chg [(sb, 167)] h3 h4 := s4.chg hsb (.head _)
    have c04 : Chg (ML F.mb F.cb F.lb) h h4 := ((n2.ext.chg _).trans c3).stored s4 (n2.ge (Ext.refl _))
    exact ⟨sb, rfl, hsb4, S.memory c04 (S3.mem.chg c4 (by simp) (by simp) (by simp)), S.frM c04⟩
end
/-- What was noted and what waits, when m rings from j on are still to be emptied. -/
structure MidG (E0 : He) (q : Nat) (L0 L : Nat → Nat → List Int) (P j : Nat) (es : List He) : Prop where
  oth : ∀ a b, b ≠ q → L a b = L0 a b
  low : ∀ a, a < j → L a q = []
  log : ∃ gs, es = E0 :: gs ∧ (∀ g ∈ gs, 0 < g.mark) ∧ gs.map keyH ++ pendK L q (P - j) j = pendK L0 q P 0
/-- What was noted and what waits at the end. -/
structure FinG (E0 : He) (q : Nat) (L0 L : Nat → Nat → List Int) (P : Nat) (s : Int) (es : List He) : Prop where
  oth : ∀ a b, b ≠ q → L a b = L0 a b
  low : s ≠ 4 → ∀ a, a < P → L a q = []
  all : s = 4 → L = L0
  log : ∃ gs, es = E0 :: gs ∧ (∀ g ∈ gs, 0 < g.mark) ∧ gs.map keyH = if s = 4 then [] else pendK L0 q P 0
theorem MidG.len {E0 : He} {q : Nat} {L0 L : Nat → Nat → List Int} {P j : Nat} {es : List He} (D : MidG E0 q L0 L P j es) : es.length ≤ 1 + (pendK L0 q P 0).length := by
  obtain ⟨gs, rfl, _, e⟩ := D.log
  rw [← e, List.length_append, List.length_map, List.length_cons]
  omega
/-- A port is set: behind k steps. -/
def setE (who : Int) (o : Op17) (T : Nat) (ep : Int) : He := ⟨who, (T : Int), ((T + 3 : Nat) : Int), ((T + 3 : Nat) : Int), o, ep⟩
def LowG (F : Fb) (q : Nat) (w : Int) (M0 M : MemS) : Prop := ∀ i, i < F.b0 → M.cells[i]? = (M0.cells.set q w)[i]?
def SetG (h0 : Heap) (B : Nat) (F : Fb) (ab q : Nat) (who : Int) (o : Op17) (st ep : Int) (M0 : MemS) (L0 : Nat → Nat → List Int) (k : Nat) (h : Heap) : Prop :=
  ChgT B TyD h0 h ∧ ∃ x M, M.t = M0.t + k ∧ x.o = o ∧ x.who = who ∧
    ((k ≤ 2 ∧ CaS h B F ab x [q] M ⟨who, (M0.t : Int), 0, 0, o, 0⟩ ∧ Rings h B F M L0 no2 no2 ∧ M.cells = M0.cells ∧ x.pop = none ∧ x.from_ = 0 ∧ x.held = (if k = 0 then 0 else 1) ∧ M.locks = (if k = 0 then M0.locks else M0.locks.set q who) ∧
        ((k = 0 ∧ x.next = .func (.func 81) #[] #[]) ∨ (k = 1 ∧ x.next = .func (.func 136) #[] #[]) ∨ (k = 2 ∧ ∃ sb, x.next = .func (.func 189) #[] #[.pointer (some ⟨sb, 0, none⟩)] ∧ h[sb]? = some (.cells [Value.int .i64 st, Value.int .u32 ep].toArray 167 (0, 0))))) ∨
     (M.locks = M0.locks.set q who ∧ LowG F q (standW o.state (upE ep)) M0 M ∧ x.next = .func (.func 228) #[] #[] ∧ o.state ≠ 4 ∧ ∃ j p L es, j < F.P ∧ p ≤ 2 ∧ MidG (setE who o M0.t (upE ep)) q L0 L F.P j es ∧ k + remE L q (F.P - j) j + 1 = stepsD L0 q F.P o.state + p ∧ ((p = 0 ∧ EmpN h B F ab q who o M L j es x) ∨ (0 < p ∧ EmpP h B F ab q who o M L j p es x))) ∨
     (M.locks = M0.locks.set q who ∧ LowG F q (standW o.state (upE ep)) M0 M ∧ x.next = .func (.func 224) #[] #[] ∧ x.held = 1 ∧ k + 1 = stepsD L0 q F.P o.state ∧ ∃ L es, FinG (setE who o M0.t (upE ep)) q L0 L F.P o.state es ∧ CaL h B F ab x [q] M es ∧ Rings h B F M L no2 no2) ∨
     (M.locks = (M0.locks.set q who).set q (-1) ∧ LowG F q (standW o.state (upE ep)) M0 M ∧ x.next = .nilFunc ∧ k = stepsD L0 q F.P o.state ∧ ∃ L es, FinG (setE who o M0.t (upE ep)) q L0 L F.P o.state es ∧ CaL h B F ab x [q] M es ∧ Rings h B F M L no2 no2))
theorem setG_step {h0 h : Heap} {B : Nat} {F : Fb} {ab q : Nat} {who : Int} {o : Op17} {st ep : Int} {M0 : MemS} {L0 : Nat → Nat → List Int} {k : Nat} (hq : q < F.P) (hb0 : F.P ≤ F.b0) (hpo : o.port = (q : Int)) (ho8 : o.kind = 8) (hs : rightSt o.state = true) (hl : M0.locks[q]? = some (-1)) (hst0 : rightSt st = true) (he0 : 0 ≤ ep) (he1 : ep < 4294967296) (hz : M0.cells[q]? = some (standW st ep)) (hpk : (pendK L0 q F.P 0).length ≤ 9000) (ht : M0.t + k < 800000) (hk : k < stepsD L0 q F.P o.state) (H : SetG h0 B F ab q who o st ep M0 L0 k h) :
    HCalls Tryz.prog 31 #[.pointer (some ⟨ab, 0, none⟩)] h (fun v h' => v = .bool (k + 1 == stepsD L0 q F.P o.state) ∧ SetG h0 B F ab q who o st ep M0 L0 (k + 1) h') := by
  have hlt : q < M0.locks.length := (List.getElem?_eq_some_iff.1 hl).1
  have hlc : q < M0.cells.length := (List.getElem?_eq_some_iff.1 hz).1
  have h4 : 4 ≤ stepsD L0 q F.P o.state := by unfold stepsD; split <;> omega
  obtain ⟨c0, x, M, hT, xo, xw, H⟩ := H
  rcases H with ⟨hk2, S, W, hC, hpop, hfrom, hheld, hlk, H⟩ | ⟨hlk, low, hn, hst, j, p, L, es, hj, hp2, D, hrem, H⟩ | ⟨hlk, low, hn, hheld, hk1, L, es, D, S, W⟩ | ⟨_, _, _, e, _⟩
  · rcases H with ⟨rfl, hn⟩ | ⟨rfl, hn⟩ | ⟨rfl, sb, hn, hsb⟩
    · rw [if_pos rfl] at hheld hlk
      refine (aStep_of (cap := []) (K := fun _ => True) (x' := { x with held := x.held + 1 }) (M' := { M with locks := M.locks.set q x.who, t := M.t + 1 }) (E' := ⟨who, (M0.t : Int), 0, 0, o, 0⟩) (.func (.func 136) #[] #[]) false S hn (.inr ⟨_, _, rfl, rfl⟩) ((aLock_spec S (p := q) (by rw [hheld]; rfl) hq (by rw [hlk]; exact hl) (by omega)).mono ?_) (fun _ _ _ _ => trivial)).mono ?_
      · rintro v h1 ⟨rfl, S1, c1⟩
        refine ⟨?_, S1, c1, trivial⟩
        rw [if_neg (by rw [hheld]; show ¬ (0 + 1 < 1); decide), if_neg (by rw [xo, ho8]; decide)]
      · rintro v h1 ⟨rfl, S1, c1, _⟩
        refine ⟨by rw [show (0 + 1 == stepsD L0 q F.P o.state) = false from beq_eq_false_iff_ne.2 (by omega)], c0.trans c1.toD, _, _, ?_, ?_, ?_, .inl ⟨by omega, S1, W.typ (M' := { M with locks := M.locks.set q x.who, t := M.t + 1 }) c1 (by decide) rfl (fun _ _ => rfl), hC, hpop, hfrom, ?_, ?_, .inr (.inl ⟨rfl, rfl⟩)⟩⟩
        · show M.t + 1 = M0.t + (0 + 1); omega
        · exact xo
        · exact xw
        · show x.held + 1 = _; rw [hheld]; rfl
        · show M.locks.set q x.who = _; rw [hlk, xw]; rfl
    · rw [if_neg (by decide)] at hheld hlk
      refine (aStep_go (cap := []) (K := fun nx y g => y = x ∧ (∃ sb, nx = .func (.func 189) #[] #[.pointer (some ⟨sb, 0, none⟩)] ∧ g[sb]? = some (.cells [Value.int .i64 st, Value.int .u32 ep].toArray 167 (0, 0))) ∧ CaS g B F ab x [q] { M with t := M.t + 1 } ⟨who, (M0.t : Int), 0, 0, o, 0⟩ ∧ ChgT B TyC h g) S.raw hn ((aReadG_spec S hst0 he0 he1 (by rw [xo]; exact hpo) hq (by rw [hC]; exact hz) (by omega)).mono ?_)).mono ?_
      · rintro v h1 ⟨sb, rfl, hsb, S1, c1⟩
        exact ⟨_, _, rfl, x, S1.raw, rfl, ⟨sb, rfl, hsb⟩, S1, c1⟩
      · rintro v h2 ⟨rfl, nx, y, h1, ⟨rfl, ⟨sb, rfl, hsb⟩, S1, c1⟩, r2, c2⟩
        have cc := c1.trans (S1.frF c2)
        refine ⟨by rw [show (1 + 1 == stepsD L0 q F.P o.state) = false from beq_eq_false_iff_ne.2 (by omega)], c0.trans cc.toD, _, _, ?_, ?_, ?_, .inl ⟨by omega, S1.next r2 c2, W.typ (M' := { M with t := M.t + 1 }) cc (by decide) rfl (fun _ _ => rfl), hC, hpop, hfrom, ?_, ?_, .inr (.inr ⟨rfl, sb, rfl, c2.blk hsb (by simp)⟩)⟩⟩
        · show M.t + 1 = M0.t + (1 + 1); omega
        · exact xo
        · exact xw
        · exact hheld
        · exact hlk
    · rw [if_neg (by decide)] at hheld hlk
      have htm : M.t + 1 = M0.t + 3 := by omega
      refine (aStep_of (cap := [.pointer (some ⟨sb, 0, none⟩)]) (K := fun _ => True) (x' := x) (M' := { M with cells := M.cells.set q (standW o.state (upE ep)), t := M.t + 1 }) (E' := setE who o M0.t (upE ep)) (.func (.func (if o.state = 4 then 224 else 228)) #[] #[]) false S hn (.inr ⟨_, _, rfl, rfl⟩) ((aRead1G_spec S hsb (by rw [xo]; exact hpo) (by rw [xo]) hs hq (by rw [hC]; exact hlc) (by omega)).mono ?_) (fun _ _ _ _ => trivial)).mono ?_
      · rintro v h1 ⟨rfl, S1, c1⟩
        refine ⟨rfl, ?_, c1, trivial⟩
        have eE : setE who o M0.t (upE ep) = ⟨who, (M0.t : Int), ((M.t + 1 : Nat) : Int), ((M.t + 1 : Nat) : Int), o, upE ep⟩ := by unfold setE; rw [htm]
        rw [eE]
        exact S1
      · rintro v h1 ⟨rfl, S1, c1, _⟩
        have low1 : LowG F q (standW o.state (upE ep)) M0 { M with cells := M.cells.set q (standW o.state (upE ep)), t := M.t + 1 } := fun i _ => by rw [← hC]
        have W1 := W.typ (M' := { M with cells := M.cells.set q (standW o.state (upE ep)), t := M.t + 1 }) c1 (by decide) (List.length_set ..) (fun k hk => List.getElem?_set_ne (by omega))
        refine ⟨by rw [show (2 + 1 == stepsD L0 q F.P o.state) = false from beq_eq_false_iff_ne.2 (by omega)], c0.trans c1.toD, { x with next := .func (.func (if o.state = 4 then 224 else 228)) #[] #[] }, { M with cells := M.cells.set q (standW o.state (upE ep)), t := M.t + 1 }, ?_, xo, xw, .inr ?_⟩
        · show M.t + 1 = M0.t + (2 + 1); omega
        · by_cases e4 : o.state = 4
          · rw [if_pos e4] at S1 ⊢
            exact .inr (.inl ⟨hlk, low1, rfl, hheld, by unfold stepsD; rw [if_pos e4], L0, _, ⟨fun _ _ _ => rfl, fun g => absurd e4 g, fun _ => rfl, [], rfl, by simp, by rw [if_pos e4]; rfl⟩, S1.toL, W1⟩)
          · rw [if_neg e4] at S1 ⊢
            refine .inl ⟨hlk, low1, rfl, e4, 0, 0, L0, _, by omega, by omega, ⟨fun _ _ _ => rfl, fun a ha => by omega, [], rfl, by simp, rfl⟩, ?_, .inl ⟨rfl, ⟨xo, xw, hpo, hheld, hfrom⟩, hpop, S1.toL, W1⟩⟩
            · unfold stepsD; rw [if_neg e4, Nat.sub_zero]; omega
  · have raw : CaRaw h ab x := by rcases H with ⟨_, _, _, H, _⟩ | ⟨_, _, _, _, _, _, _, _, H, _⟩ <;> exact H.raw
    have hlen := D.len
    obtain ⟨m, hm⟩ : ∃ m, F.P - j = m + 1 := ⟨F.P - j - 1, by omega⟩
    have hm' : F.P - (j + 1) = m := by omega
    have er : remE L q (F.P - j) j = 3 * (L j q).length + 1 + remE L q m (j + 1) := by rw [hm]; rfl
    refine (aStep_go (cap := []) (K := fun nx y g => ∃ M', Near F M M' ∧ ChgT B TyD h g ∧ B ≤ ab ∧ 
      ((nx = .func (.func 228) #[] #[] ∧ L j q ≠ [] ∧ EmpP g B F ab q who o M' L j (p + 1) es y) ∨
       (nx = .func (.func (if j + 1 < F.P then 228 else 224)) #[] #[] ∧ p = 0 ∧ L j q = [] ∧ EmpN g B F ab q who o M' L (j + 1) es y) ∨
       (nx = .func (.func 228) #[] #[] ∧ p = 2 ∧ ∃ y' r T0, L j q = y' :: r ∧ EmpN g B F ab q who o M' (up2 L j q r) j (es ++ [gotH who T0 j q ((M.t + 1 : Nat) : Int) ((M.t + 1 : Nat) : Int) (IntKind.i64.wrap y')]) y))) raw hn ((aEmpty_spec H hj hq (by omega) (by omega)).mono ?_)).mono ?_
    · have gab : B ≤ ab := by rcases H with ⟨_, _, _, H, _⟩ | ⟨_, _, _, _, _, _, _, _, H, _⟩ <;> exact H.b0
      rintro v h1 ⟨x', M', r1, N1, c1, H1⟩
      have hv : ∃ g, v = .func (.func g) #[] #[] := by
        rcases H1 with ⟨e, _⟩ | ⟨e, _⟩ | ⟨e, _⟩ <;> exact ⟨_, e⟩
      obtain ⟨g, hv⟩ := hv
      exact ⟨g, #[], hv, x', r1, M', N1, c1, gab, H1⟩
    · rintro v h2 ⟨rfl, nx, y, h1, ⟨M', N1, c1, gab, H1⟩, r2, c2⟩
      have f2 : ChgT B TyD h1 h2 := c2.chgT (by rcases H1 with ⟨_, _, _, _, _, _, _, _, _, S, _⟩ | ⟨_, _, _, _, _, S, _⟩ | ⟨_, _, _, _, _, _, _, _, S, _⟩ <;> exact S.hB) fun p hp => by simp at hp; subst hp; exact ⟨gab, by simp [TyD, TyC]⟩
      have hkl : M'.locks = M0.locks.set q who := by rw [N1.locks]; exact hlk
      have ht' : M'.t = M0.t + (k + 1) := by rw [N1.t]; omega
      have low1 : LowG F q (standW o.state (upE ep)) M0 M' := fun i hi => (N1.low i hi).trans (low i hi)
      have he : (k + 1 == stepsD L0 q F.P o.state) = false := by
        refine beq_eq_false_iff_ne.2 ?_
        rcases H1 with ⟨_, hne, _⟩ | ⟨_, h0', hL, _⟩ | ⟨_, h2', y', r, T0, hL, _⟩
        · have : 0 < (L j q).length := List.length_pos_iff.2 hne
          omega
        · omega
        · rw [hL, List.length_cons] at er; omega
      refine ⟨by rw [he], (c0.trans c1).trans f2, { y with next := nx }, M', ht', ?_, ?_, .inr ?_⟩
      · rcases H1 with ⟨_, _, X, _⟩ | ⟨_, _, _, X, _⟩ | ⟨_, _, _, _, _, _, X, _⟩ <;> exact X.xo
      · rcases H1 with ⟨_, _, X, _⟩ | ⟨_, _, _, X, _⟩ | ⟨_, _, _, _, _, _, X, _⟩ <;> exact X.xw
      rcases H1 with ⟨rfl, hne, E1⟩ | ⟨rfl, h0', hL, E1⟩ | ⟨rfl, h2', y', r, T0, hL, E1⟩
      · have hlen1 : 0 < (L j q).length := List.length_pos_iff.2 hne
        have hp1 : p + 1 ≤ 2 := by
          obtain ⟨_, _, _, _, _, _, _, _, _, ph, _⟩ := E1
          rcases ph with ⟨g, _⟩ | ⟨g, _⟩ | ⟨g, _⟩ <;> omega
        exact .inl ⟨hkl, low1, rfl, hst, j, p + 1, L, es, hj, hp1, D, by omega, .inr ⟨by omega, E1.next r2 c2⟩⟩
      · rw [hL, List.length_nil] at er
        obtain ⟨gs, e0, e3, e4⟩ := D.log
        have e4' : gs.map keyH ++ pendK L q (F.P - (j + 1)) (j + 1) = pendK L0 q F.P 0 := by
          rw [hm']
          rw [hm, pendK_succ, hL] at e4
          exact e4
        have lowq : ∀ a, a < j + 1 → L a q = [] := fun a ha => by
          rcases Nat.lt_or_ge a j with g | g
          · exact D.low a g
          · have : a = j := by omega
            rw [this]; exact hL
        by_cases hj1 : j + 1 < F.P
        · rw [if_pos hj1] at r2 ⊢
          exact .inl ⟨hkl, low1, rfl, hst, j + 1, 0, L, es, hj1, by omega, ⟨D.oth, lowq, gs, e0, e3, e4'⟩, by rw [hm']; omega, .inl ⟨rfl, E1.next r2 c2⟩⟩
        · rw [if_neg hj1] at r2 ⊢
          have m0 : m = 0 := by omega
          subst m0
          obtain ⟨X, hpop, S, W⟩ := E1.next r2 c2
          refine .inr (.inl ⟨hkl, low1, rfl, X.held, ?_, L, es, ⟨D.oth, fun _ a ha => lowq a (by omega), fun g => absurd g hst, gs, e0, e3, ?_⟩, S, W⟩)
          · have : remE L q 0 (j + 1) = 0 := rfl
            omega
          · rw [if_neg hst, ← e4', hm']
            rw [show pendK L q 0 (j + 1) = [] from rfl, List.append_nil]
      · rw [hL, List.length_cons] at er
        obtain ⟨gs, e0, e3, e4⟩ := D.log
        refine .inl ⟨hkl, low1, rfl, hst, j, 0, up2 L j q r, _, hj, by omega, ⟨fun a b hb => ?_, fun a ha => ?_, gs ++ [gotH who T0 j q ((M.t + 1 : Nat) : Int) ((M.t + 1 : Nat) : Int) (IntKind.i64.wrap y')], ?_, ?_, ?_⟩, ?_, .inl ⟨rfl, E1.next r2 c2⟩⟩
        · rw [up2_ne (by omega)]; exact D.oth a b hb
        · rw [up2_ne (by omega)]; exact D.low a ha
        · rw [e0]; rfl
        · intro g hg
          rcases List.mem_append.1 hg with hg | hg
          · exact e3 g hg
          · rw [List.mem_singleton] at hg
            subst hg
            show (0 : Int) < ((M.t + 1 : Nat) : Int)
            omega
        · rw [← e4, hm, pendK_succ, pendK_succ, up2_self, hL, pendK_up m (j + 1) (by omega), List.map_append, List.append_assoc]
          rfl
        · have : remE (up2 L j q r) q (F.P - j) j = 3 * r.length + 1 + remE L q m (j + 1) := by
            rw [hm, remE_succ, up2_self, remE_up m (j + 1) (by omega)]
          rw [this]
          omega
  · refine (aStep_spec (cap := []) .nilFunc true (K := fun y g => y = { x with held := 0 } ∧ CaL g B F ab y [q] { M with locks := M.locks.set q (-1), t := M.t + 1 } es ∧ Rings g B F { M with locks := M.locks.set q (-1), t := M.t + 1 } L no2 no2 ∧ ChgT B TyD h g) S.raw hn (.inl ⟨rfl, rfl⟩) ((aUnlock_log (k := 0) S hheld (p := q) rfl hq (by rw [hlk, xw]; exact List.getElem?_set_self hlt) (by omega)).mono ?_)).mono ?_
    · rintro v h1 ⟨rfl, S1, h2, c1, c2⟩
      refine ⟨rfl, _, S1.raw, rfl, S1, ?_, ?_⟩
      · exact (W.same (M' := M) c1 (by simp) rfl (fun _ _ => rfl)).same (M' := { M with locks := M.locks.set q (-1), t := M.t + 1 }) c2 (by simp [ML]) rfl (fun _ _ => rfl)
      · have f1 := S.frF c1
        refine f1.trans (c2.chgT (Nat.le_trans S.hB c1.size) fun p hp => ?_)
        simp [ML] at hp
        rcases hp with rfl | rfl | rfl
        · exact ⟨S.b1, by simp [TyD, TyC]⟩
        · exact ⟨S.b2, by simp [TyD, TyC]⟩
        · exact ⟨S.b3, by simp [TyD, TyC]⟩
    · rintro v h2 ⟨rfl, y, h1, ⟨rfl, S1, W1, c1⟩, r2, c2⟩
      refine ⟨by rw [hk1, beq_self_eq_true], (c0.trans c1).trans (S1.frF c2), _, _, ?_, ?_, ?_, .inr (.inr (.inr ⟨?_, (show LowG F q (standW o.state (upE ep)) M0 { M with locks := M.locks.set q (-1), t := M.t + 1 } from low), rfl, hk1, L, es, D, S1.next r2 c2, W1.same (M' := { M with locks := M.locks.set q (-1), t := M.t + 1 }) c2 (by simp) rfl (fun _ _ => rfl)⟩))⟩
      · show M.t + 1 = M0.t + (k + 1); omega
      · exact xo
      · exact xw
      · show M.locks.set q (-1) = _
        rw [hlk]
  · omega
theorem setG_over {h0 g : Heap} {B : Nat} {F : Fb} {ab q : Nat} {who : Int} {o : Op17} {st ep : Int} {M0 : MemS} {L0 : Nat → Nat → List Int} (H : SetG h0 B F ab q who o st ep M0 L0 (stepsD L0 q F.P o.state) g) :
    ChgT B TyD h0 g ∧ ∃ x M L es, x.next = .nilFunc ∧ M.t = M0.t + stepsD L0 q F.P o.state ∧ M.locks = (M0.locks.set q who).set q (-1) ∧ LowG F q (standW o.state (upE ep)) M0 M ∧ FinG (setE who o M0.t (upE ep)) q L0 L F.P o.state es ∧ CaL g B F ab x [q] M es ∧ Rings g B F M L no2 no2 := by
  have h4 : 4 ≤ stepsD L0 q F.P o.state := by unfold stepsD; split <;> omega
  obtain ⟨cg, y, M', hT, _, _, H⟩ := H
  rcases H with ⟨hk2, _⟩ | ⟨_, _, _, _, j, p, L, es, hj, hp2, D, hrem, H⟩ | ⟨_, _, _, _, hk1, _⟩ | ⟨hl, hlow, hn, _, L, es, D, S', W'⟩
  · omega
  · exfalso
    obtain ⟨m, hm⟩ : ∃ m, F.P - j = m + 1 := ⟨F.P - j - 1, by omega⟩
    rw [hm, remE_succ] at hrem
    rcases H with ⟨rfl, _⟩ | ⟨hp, _, _, _, _, _, _, _, _, _, ph, _⟩
    · omega
    · have : L j q ≠ [] := by
        rcases ph with ⟨g, _⟩ | ⟨_, _, g⟩ | ⟨_, _, y, r, g, _⟩
        · omega
        · exact g
        · rw [g]; simp
      have : 0 < (L j q).length := List.length_pos_iff.2 this
      omega
  · omega
  · exact ⟨cg, y, M', L, es, hn, hT, hl, hlow, D, S', W'⟩
theorem setG_prot {h0 g : Heap} {B : Nat} {F : Fb} {ab q k : Nat} {who : Int} {o : Op17} {st ep : Int} {M0 : MemS} {L0 : Nat → Nat → List Int} (H : SetG h0 B F ab q who o st ep M0 L0 k g) : ∀ p ∈ F.prot, g[p.1]? = some (.cells p.2 3 (0, 0)) := by
  obtain ⟨cg, y, M', hT, _, _, H⟩ := H
  rcases H with ⟨_, S, _⟩ | ⟨_, _, _, _, j, p, L, es, hj, hp2, D, hrem, H⟩ | ⟨_, _, _, _, _, L, es, D, S, _⟩ | ⟨_, _, _, _, L, es, D, S, _⟩
  · exact fun p hp => (S.prot p hp).1
  · rcases H with ⟨_, _, _, S, _⟩ | ⟨_, _, _, _, _, _, _, _, S, _⟩
    · exact fun p hp => (S.prot p hp).1
    · exact fun p hp => (S.prot p hp).1
  · exact fun p hp => (S.prot p hp).1
  · exact fun p hp => (S.prot p hp).1
theorem setG_ext {h0 g g' : Heap} {B : Nat} {F : Fb} {ab q k : Nat} {who : Int} {o : Op17} {st ep : Int} {M0 : MemS} {L0 : Nat → Nat → List Int} (H : SetG h0 B F ab q who o st ep M0 L0 k g) (x : Ext g g') : SetG h0 B F ab q who o st ep M0 L0 k g' := by
  obtain ⟨cg, y, M', hT, xo, xw, H⟩ := H
  rcases H with ⟨h2, S, W, a1, a2, a3, a4, a5, H⟩ | ⟨a1, a2, a3, a4, j, p, L, es, hj, hp2, D, hrem, H⟩ | ⟨a1, a2, a3, a4, a5, L, es, D, S, W⟩ | ⟨a1, a2, a3, a4, L, es, D, S, W⟩
  · refine ⟨cg.trans (x.chgT S.hB), y, M', hT, xo, xw, .inl ⟨h2, S.ext x, W.ext x, a1, a2, a3, a4, a5, ?_⟩⟩
    rcases H with H | H | ⟨e, sb, e1, e2⟩
    · exact .inl H
    · exact .inr (.inl H)
    · exact .inr (.inr ⟨e, sb, e1, x.blk e2⟩)
  · rcases H with ⟨e, X, b1, S, W⟩ | ⟨e, X, pb, nx, val, T0, b1, b2, S, A, ph, W⟩
    · exact ⟨cg.trans (x.chgT S.hB), y, M', hT, xo, xw, .inr (.inl ⟨a1, a2, a3, a4, j, p, L, es, hj, hp2, D, hrem, .inl ⟨e, X, b1, S.ext x, W.ext x⟩⟩)⟩
    · exact ⟨cg.trans (x.chgT S.hB), y, M', hT, xo, xw, .inr (.inl ⟨a1, a2, a3, a4, j, p, L, es, hj, hp2, D, hrem, .inr ⟨e, X, pb, nx, val, T0, b1, b2, S.ext x, x.blk A, ph, W.ext x⟩⟩)⟩
  · exact ⟨cg.trans (x.chgT S.hB), y, M', hT, xo, xw, .inr (.inr (.inl ⟨a1, a2, a3, a4, a5, L, es, D, S.ext x, W.ext x⟩))⟩
  · exact ⟨cg.trans (x.chgT S.hB), y, M', hT, xo, xw, .inr (.inr (.inr ⟨a1, a2, a3, a4, L, es, D, S.ext x, W.ext x⟩))⟩
end Go.Proofs.YtjjempefncgfhaaGreatDoorE
/- A bucket's entries, read out of the cells. Conditions: each place's cells tell an entry, or none. -/
set_option linter.unusedVariables false
set_option linter.unusedSimpArgs false
set_option maxRecDepth 100000
namespace Go.Proofs.YtjjempefncgfhaaGreatDoorE
open Go Go.Proofs
section
variable {h h' : Heap}
theorem kOf0_spec : HCalls Tryz.prog 219 #[.int .u64 0] h (fun v h' => v = .tuple #[.agg #[.int .i64 0, .int .u64 0], .bool false] ∧ Ext h h') := by
  refine xcalls env0 Tryz.func219 rfl (by kernel_rfl) rfl (by kernel_rfl) ?_
  intro rb h1 n1
  have hr1 : h1[rb]? = some (.cells [.int .i64 0, .int .u64 0].toArray 104 (0, 0)) := n1.this
  refine ⟨by decide, ?_⟩
  intro kb h2 n2
  refine ⟨rfl, rfl, canset_blk n2.this rfl, fun h3 s3 => ?_⟩
  have ne : rb ≠ kb := by have := n2.at_; have := blk_lt n1.this; omega
  have hr3 := s3.blk (n2.ext.blk hr1) ne
  have x3 : Ext h h3 := (n1.ext.trans n2.ext).stored s3 (n2.ge n1.ext)
  refine ⟨rfl, rfl, canset_blk hr3 rfl, fun h4 s4 => ?_⟩
  have hr4 : h4[rb]? = some (.cells [.int .i64 0, .int .u64 0].toArray 104 (0, 0)) := s4.put hr3
  exact ⟨_, rfl, reads_all hr4, rfl, x3.stored s4 (n1.ge (Ext.refl _))⟩
/-- What two cells of an entry tell. -/
def SlotOk (a b : Int) (pl : Place) : Prop := ∀ h : Heap, HCalls Tryz.prog 182 #[.int .u64 a, .int .u64 b] h (fun v h' => v = .tuple #[.agg (encE pl).toArray, .bool pl.used] ∧ Ext h h')
theorem slotOk_zero : SlotOk 0 0 Place.none := by
  intro h
  refine xcalls env0 Tryz.func182 rfl (by kernel_rfl) rfl (by kernel_rfl) ?_
  intro rb h1 n1
  have hr1 : h1[rb]? = some (.cells (encE Place.none).toArray 244 (0, 0)) := n1.this
  refine kOf0_spec.mono ?_
  rintro v h2 ⟨rfl, x2⟩
  intro kb h3 n3
  refine ⟨rfl, rfl, canset_blk n3.this rfl, fun h4 s4 => ?_⟩
  have hk4 : h4[kb]? = some (.cells [.int .i64 0, .int .u64 0].toArray 104 (0, 0)) := s4.put n3.this
  have x3 := (n1.ext.trans x2).trans n3.ext
  have x4 : Ext h h4 := x3.stored s4 (n3.ge (n1.ext.trans x2))
  refine ⟨_, rfl, reads_all hk4, ?_⟩
  refine ⟨by decide, ?_⟩
  intro eb h5 n5
  have c4 := s4.chg (l := [(kb, 104)]) n3.this (.head _)
  have hr5 := n5.ext.blk (c4.blk (n3.ext.blk (x2.blk hr1)) (by simp))
  refine ⟨rfl, rfl, canset_blk n5.this rfl, fun h6 s6 => ?_⟩
  have ne : rb ≠ eb := by have := n5.at_; have := blk_lt (c4.blk (n3.ext.blk (x2.blk hr1)) (by simp)); omega
  have hr6 := s6.blk hr5 ne
  have x6 : Ext h h6 := (x4.trans n5.ext).stored s6 (n5.ge x4)
  refine ⟨rfl, rfl, canset_blk hr6 rfl, fun h7 s7 => ?_⟩
  have hr7 : h7[rb]? = some (.cells (encE Place.none).toArray 244 (0, 0)) := s7.put hr6
  exact ⟨_, rfl, reads_all hr7, rfl, x6.stored s7 (n1.ge (Ext.refl _))⟩
theorem dPlaces_spec {A : Option Addr} {c k : Nat} {ws : List Int} (hr : Row encU64 1 h A ws) (hl : ws.length = 2 * k) (hk : k ≤ 1000) {pls : List Place} (hp : pls.length = k) (hs : ∀ i pl, pls[i]? = some pl → ∃ a b, ws[2 * i]? = some a ∧ ws[2 * i + 1]? = some b ∧ SlotOk a b pl) :
    HCalls Tryz.prog 125 #[.slice A (2 * k) c] h (fun v h' => ∃ A' c', v = .slice A' k c' ∧ OwnA encP 6 246 h.size h' A' c' pls ∧ Ext h h') := by
  have ek : IntKind.i64.wrap (((2 * k : Nat) : Int).tdiv 2) = (k : Int) := by
    rw [Int.tdiv_eq_ediv_of_nonneg (by omega), wrap_i64 (by omega) (by omega)]; omega
  refine xcalls env_dPlaces Tryz.func125 rfl (by kernel_rfl) rfl (by kernel_rfl) ?_
  refine ⟨by decide, by rw [ek]; omega, Int.le_refl _, by rw [ek]; show ((40 : Nat) : Int) * (k : Int) ≤ 140737488355328; omega, by rw [ek]; omega, ?_⟩
  intro pb h1 n1
  rw [ek, Int.toNat_natCast] at n1
  have o1 : OwnA encP 6 246 h.size h1 (some ⟨pb, 0, none⟩) k (List.replicate k Place.none) := OwnA.made (z := Place.none) k n1 rfl (Nat.le_refl _)
  have hr1 := n1.ext.row hr
  refine ⟨Nat, fun i => [(0, .slice A (2 * k) c), (3, .slice (some ⟨pb, 0, none⟩) k k), (10, .int .i64 k), (11, .int .i64 i)], fun i h' => i ≤ k ∧ OwnA encP 6 246 h.size h' (some ⟨pb, 0, none⟩) k (pls.take i ++ List.replicate (k - i) Place.none) ∧ Ext h h' ∧ True, fun i => k - i, 0, ⟨rfl, ?_, ?_, rfl, trivial⟩, ⟨Nat.zero_le _, by simpa using o1, n1.ext, trivial⟩, ?_⟩
  · show some (Value.slice _ (IntKind.i64.wrap (((2 * k : Nat) : Int).tdiv 2)).toNat (IntKind.i64.wrap (((2 * k : Nat) : Int).tdiv 2)).toNat) = _
    rw [ek]; rfl
  · show some (Value.int .i64 (((IntKind.i64.wrap (((2 * k : Nat) : Int).tdiv 2)).toNat : Nat) : Int)) = _
    rw [ek]; rfl
  rintro i h2 ⟨hi, o2, x2, _⟩
  refine xif_of (fun g => ?_) (fun g => ?_)
  · have g : (i : Int) < k := of_decide_eq_true g
    have hik : i < k := by omega
    obtain ⟨pl, hpl⟩ : ∃ pl, pls[i]? = some pl := ⟨_, List.getElem?_eq_getElem (by omega)⟩
    obtain ⟨a, b, ha, hb, hsl⟩ := hs i pl hpl
    obtain ⟨aw, haw, hra⟩ := (x2.row hr) _ a ha
    obtain ⟨aw2, haw2, hrb⟩ := (x2.row hr) _ b hb
    rw [haw] at haw2
    injection haw2 with haw2
    subst haw2
    have e2 : IntKind.i64.wrap (2 * (i : Int)) = ((2 * i : Nat) : Int) := by rw [wrap_i64 (by omega) (by omega)]; omega
    have e3 : IntKind.i64.wrap (IntKind.i64.wrap (2 * (i : Int)) + 1) = ((2 * i + 1 : Nat) : Int) := by rw [e2, wrap_i64 (by omega) (by omega)]; omega
    refine ⟨aw, haw, by rw [e2]; omega, by rw [e2]; omega, .int .u64 a, by rw [e2, Int.toNat_natCast]; exact hra.cons, ?_⟩
    refine ⟨aw, haw, by rw [e3]; omega, by rw [e3]; omega, .int .u64 b, by rw [e3, Int.toNat_natCast]; exact hrb.cons, ?_⟩
    refine (hsl h2).mono ?_
    rintro v h3 ⟨rfl, x3⟩
    have o3 := o2.ext x3
    have hlen : (pls.take i ++ List.replicate (k - i) Place.none).length = k := by rw [List.length_append, List.length_take, List.length_replicate]; omega
    have hget : (pls.take i ++ List.replicate (k - i) Place.none)[i]? = some Place.none := by
      rw [List.getElem?_append_right (by rw [List.length_take]; omega), List.length_take, List.getElem?_replicate, if_pos (by omega)]
    have eap : ∀ f : Nat, ((⟨pb, 0, none⟩ : Addr).add (((i : Int)).toNat * 6)).add f = ⟨pb, i * 6 + f, none⟩ := fun f => by rw [add_lit, add_lit, Int.toNat_natCast, Nat.zero_add]
    have cs : ∀ (g : Heap) (l : List Place), OwnA encP 6 246 h.size g (some ⟨pb, 0, none⟩) k l → l.length = k → ∀ f n, f + n ≤ 6 → CanSet g (((⟨pb, 0, none⟩ : Addr).add (((i : Int)).toNat * 6)).add f) n := fun g l og hl f n hf => by
      obtain ⟨b, e, _, cs⟩ := og.canset encP_len (i := i) (j := f) (n := n) (by omega) hf
      cases e
      rw [eap]; exact cs
    have gpb := o1.ge pb rfl
    have hset : (pls.take i ++ List.replicate (k - i) Place.none).set i pl = pls.take (i + 1) ++ List.replicate (k - (i + 1)) Place.none := by
      have ht : (pls.take i).length = i := by rw [List.length_take]; omega
      rw [List.set_append_right _ _ (by omega), ht, Nat.sub_self, show k - i = (k - (i + 1)) + 1 by omega, List.replicate_succ, List.set_cons_zero, List.take_add_one, hpl, List.append_assoc]
      rfl
    refine ⟨_, rfl, Int.natCast_nonneg i, g, rfl, rfl, cs _ _ o3 hlen 1 5 (by decide), fun h4 s4 => ?_⟩
    have s4' : Stored h3 ⟨pb, i * 6 + 1, none⟩ (encE pl) h4 := by rw [← eap]; exact s4
    have o4 := o3.put encP_len (x' := { pl with used := false }) rfl s4' hget (by show 1 + 5 ≤ 6; decide) rfl
    refine ⟨_, rfl, Int.natCast_nonneg i, g, rfl, rfl, cs _ _ o4 (by rw [List.length_set]; exact hlen) 0 1 (by decide), fun h5 s5 => ?_⟩
    have s5' : Stored h4 ⟨pb, i * 6 + 0, none⟩ [.bool pl.used] h5 := by rw [← eap]; exact s5
    have o5 := o4.put encP_len (x' := pl) rfl s5' (List.getElem?_set_self (by rw [hlen]; exact hik)) (by show 0 + 1 ≤ 6; decide) rfl
    rw [List.set_set, hset] at o5
    exact ⟨i + 1, ⟨rfl, rfl, rfl, slot_inc (by omega), trivial⟩, ⟨by omega, o5, ((x2.trans x3).stored s4' gpb).stored s5' gpb, trivial⟩, by show k - (i + 1) < k - i; omega⟩
  · have g : ¬ (i : Int) < k := of_decide_eq_false g
    have e : i = k := by omega
    subst e
    rw [Nat.sub_self, List.replicate_zero, List.append_nil, List.take_of_length_le (by omega)] at o2
    exact ⟨some ⟨pb, 0, none⟩, i, rfl, o2, x2⟩
/-- Where a bucket's cells are. -/
def fdbV (mb base lock : Nat) (s : Sz) (tries : Int) : List Value := [.pointer (some ⟨mb, 0, none⟩), .int .i64 (base : Int), .int .i64 (lock : Int), .int .i64 s.sh, .int .i64 s.bk, .int .i64 s.sl, .int .i64 tries]
theorem dThere_spec {db mb base lock : Nat} {s : Sz} {tries x y : Int} (hd : h[db]? = some (.cells (fdbV mb base lock s tries).toArray 258 (0, 0))) (h0 : 0 ≤ x) (h1 : x < s.sh) (h2 : 0 ≤ y) (h3 : y < s.bk) : HCalls Tryz.prog 122 #[.pointer (some ⟨db, 0, none⟩), .int .i64 x, .int .i64 y] h (fun v h' => v = .bool true ∧ h' = h) := by
  refine xcalls env0 Tryz.func122 rfl (by kernel_rfl) rfl (by kernel_rfl) ?_
  refine xif_true (decide_eq_true h0) ?_
  repeat (first | refine ⟨_, cell_blk (hd) rfl, ?_⟩)
  refine xif_true (decide_eq_true h1) ?_
  refine xif_true (decide_eq_true h2) ?_
  repeat (first | refine ⟨_, cell_blk (hd) rfl, ?_⟩)
  exact ⟨congrArg Value.bool (decide_eq_true h3), rfl⟩
theorem dWhere_spec {db mb base lock : Nat} {s : Sz} (o : s.Ok) {tries : Int} {i : Nat} (hi : (i : Int) < s.sh * s.bk) {x y : Int} (hx : x = (i : Int) / s.bk) (hy : y = (i : Int) % s.bk) (hbs : base < 100000000) (hlk : lock < 1000) (hd : h[db]? = some (.cells (fdbV mb base lock s tries).toArray 258 (0, 0))) :
    HCalls Tryz.prog 123 #[.pointer (some ⟨db, 0, none⟩), .int .i64 x, .int .i64 y] h (fun v h' => ∃ l : Int, v = .agg #[.int .i64 ((base : Int) + (i : Int) * (1 + 2 * s.sl)), .int .i64 l] ∧ Ext h h') := by
  refine xcalls env_dWhere Tryz.func123 rfl (by kernel_rfl) rfl (by kernel_rfl) ?_
  intro rb h1 n1
  have hd1 := n1.ext.blk hd
  repeat (first | refine ⟨_, cell_blk (hd1) rfl, ?_⟩)
  refine ⟨rfl, rfl, canset_blk n1.this rfl, fun h2 s2 => ?_⟩
  obtain ⟨o1, o2, o3, o4, o5, o6⟩ := o
  have hmul : x * s.bk + y = (i : Int) := by rw [hx, hy, Int.mul_comm]; exact Int.mul_ediv_add_emod _ _
  obtain ⟨q1, q2⟩ := mul_bd (a := s.sh) (b := s.bk) (m := 8) (n := 16) (by omega) (by omega) (by omega) (by omega)
  have i128 : (i : Int) ≤ 128 := by omega
  have hx0 : 0 ≤ x := by rw [hx]; exact Int.ediv_nonneg (by omega) (by omega)
  have hy0 : 0 ≤ y := by rw [hy]; exact Int.emod_nonneg _ (by omega)
  have hxb : 0 ≤ x * s.bk := Int.mul_nonneg hx0 (by omega)
  obtain ⟨r1, r2⟩ := mul_bd (a := (i : Int)) (b := 1 + 2 * s.sl) (m := 128) (n := 17) (by omega) i128 (by omega) (by omega)
  have e1 : IntKind.i64.wrap ((base : Int) + IntKind.i64.wrap (IntKind.i64.wrap (IntKind.i64.wrap (x * s.bk) + y) * IntKind.i64.wrap (1 + IntKind.i64.wrap (2 * s.sl)))) = (base : Int) + (i : Int) * (1 + 2 * s.sl) := by
    rw [wrap_i64 (x := x * s.bk) (by omega) (by omega), hmul, wrap_i64 (x := (i : Int)) (by omega) (by omega), wrap_i64 (x := 2 * s.sl) (by omega) (by omega), wrap_i64 (x := 1 + 2 * s.sl) (by omega) (by omega), wrap_i64 (x := (i : Int) * (1 + 2 * s.sl)) (by omega) (by omega), wrap_i64 (by omega) (by omega)]
  have hb2 : h2[rb]? = some (.cells [.int .i64 (IntKind.i64.wrap ((base : Int) + IntKind.i64.wrap (IntKind.i64.wrap (IntKind.i64.wrap (x * s.bk) + y) * IntKind.i64.wrap (1 + IntKind.i64.wrap (2 * s.sl))))), .int .i64 (IntKind.i64.wrap ((lock : Int) + x))].toArray 255 (0, 0)) := s2.put n1.this
  rw [e1] at hb2
  exact ⟨_, rfl, reads_all hb2, IntKind.i64.wrap ((lock : Int) + x), rfl, n1.ext.stored s2 (n1.ge (Ext.refl _))⟩
theorem dWord_spec {b l i : Int} : HCalls Tryz.prog 124 #[.agg #[.int .i64 b, .int .i64 l], .int .i64 i] h (fun v h' => v = .int .i64 (IntKind.i64.wrap (IntKind.i64.wrap (b + 1) + i)) ∧ Ext h h') := by
  refine xcalls env0 Tryz.func124 rfl (by kernel_rfl) rfl (by kernel_rfl) ?_
  intro rb h1 n1
  exact ⟨_, cell_blk n1.this rfl, rfl, n1.ext⟩
/-- A bucket's entries. -/
theorem dBucket_spec {db mb cb lb base lock : Nat} {M : MemS} {s : Sz} (o : s.Ok) {tries : Int} (HM : MemAt h mb cb lb M) (hd : h[db]? = some (.cells (fdbV mb base lock s tries).toArray 258 (0, 0))) {i : Nat} (hi : (i : Int) < s.sh * s.bk) {x y : Int} (hx : x = (i : Int) / s.bk) (hy : y = (i : Int) % s.bk) (hbs : base < 10000000) (hlk : lock < 1000) {sl : Nat} (hsl : s.sl = sl)
    {pls : List Place} (hp : pls.length = sl) (hs : ∀ j pl, pls[j]? = some pl → ∃ a b, M.cells[base + i * (1 + 2 * sl) + 1 + 2 * j]? = some a ∧ M.cells[base + i * (1 + 2 * sl) + 2 + 2 * j]? = some b ∧ SlotOk a b pl) :
    HCalls Tryz.prog 68 #[.pointer (some ⟨db, 0, none⟩), .int .i64 x, .int .i64 y] h (fun v h' => ∃ A c, v = .slice A sl c ∧ OwnA encP 6 246 h.size h' A c pls ∧ Ext h h') := by
  have o' := o
  obtain ⟨o1, o2, o3, o4, o5, o6⟩ := o
  have hx0 : 0 ≤ x := by rw [hx]; exact Int.ediv_nonneg (by omega) (by omega)
  have hy0 : 0 ≤ y := by rw [hy]; exact Int.emod_nonneg _ (by omega)
  have hx1 : x < s.sh := by rw [hx]; exact Int.ediv_lt_of_lt_mul (by omega) hi
  have hy1 : y < s.bk := by rw [hy]; exact Int.emod_lt_of_pos _ (by omega)
  refine xcalls env_dBucket Tryz.func68 rfl (by kernel_rfl) rfl (by kernel_rfl) ?_
  refine (dThere_spec hd hx0 hx1 hy0 hy1).mono ?_
  rintro v h1 ⟨rfl, rfl⟩
  refine (dWhere_spec o' hi hx hy (by omega) hlk hd).mono ?_
  rintro v h2 ⟨l, rfl, x2⟩
  intro ab h3 n3
  refine ⟨rfl, rfl, canset_blk n3.this rfl, fun h4 s4 => ?_⟩
  have ha4 : h4[ab]? = some (.cells [.int .i64 ((base : Int) + (i : Int) * (1 + 2 * s.sl)), .int .i64 l].toArray 255 (0, 0)) := s4.put n3.this
  have x4 := (x2.trans n3.ext).stored s4 (n3.ge x2)
  have hd4 := x4.blk hd
  repeat (first | refine ⟨_, cell_blk (hd4) rfl, ?_⟩)
  have ew : IntKind.i64.wrap (2 * s.sl) = ((2 * sl : Nat) : Int) := by rw [hsl, wrap_i64 (by omega) (by omega)]; omega
  refine ⟨by rw [ew]; omega, Int.le_refl _, by rw [ew]; show ((8 : Nat) : Int) * ((2 * sl : Nat) : Int) ≤ 140737488355328; omega, by rw [ew]; omega, ?_⟩
  intro wb h5 n5
  rw [ew, Int.toNat_natCast] at n5
  have own5 : OwnA encU64 1 51 h1.size h5 (some ⟨wb, 0, none⟩) (2 * sl) (List.replicate (2 * sl) 0) := OwnA.made (z := (0 : Int)) (2 * sl) n5 rfl x4.size
  obtain ⟨b0, hb0⟩ : ∃ b0 : Nat, b0 = base + i * (1 + 2 * sl) + 1 := ⟨_, rfl⟩
  obtain ⟨ws, hws⟩ : ∃ ws : List Int, ws = (List.range (2 * sl)).map fun k => M.cells.getD (b0 + k) 0 := ⟨_, rfl⟩
  have hwl : ws.length = 2 * sl := by rw [hws, List.length_map, List.length_range]
  have hcell : ∀ k, k < 2 * sl → ∃ z, M.cells[b0 + k]? = some z ∧ ws[k]? = some z := fun k hk => by
    obtain ⟨pl, hpl⟩ : ∃ pl, pls[k / 2]? = some pl := ⟨_, List.getElem?_eq_getElem (by omega)⟩
    obtain ⟨a, b, ha, hb, _⟩ := hs (k / 2) pl hpl
    have hz : ∃ z, M.cells[b0 + k]? = some z := by
      by_cases e : k % 2 = 0
      · exact ⟨a, by rw [show b0 + k = base + i * (1 + 2 * sl) + 1 + 2 * (k / 2) by omega]; exact ha⟩
      · exact ⟨b, by rw [show b0 + k = base + i * (1 + 2 * sl) + 2 + 2 * (k / 2) by omega]; exact hb⟩
    obtain ⟨z, hz⟩ := hz
    refine ⟨z, hz, ?_⟩
    rw [hws, List.getElem?_map, List.getElem?_range hk]
    show some (M.cells.getD (b0 + k) 0) = some z
    rw [List.getD_eq_getElem?_getD, hz]; rfl
  have x5 := x4.trans n5.ext
  have ha5 := n5.ext.blk ha4
  refine ⟨Nat, fun k => [(0, .pointer (some ⟨db, 0, none⟩)), (7, .pointer (some ⟨ab, 0, none⟩)), (8, .slice (some ⟨wb, 0, none⟩) (2 * sl) (2 * sl)), (27, .int .i64 ((2 * sl : Nat) : Int)), (28, .int .i64 (k : Int))], fun k h' => k ≤ 2 * sl ∧ OwnA encU64 1 51 h1.size h' (some ⟨wb, 0, none⟩) (2 * sl) (ws.take k ++ List.replicate (2 * sl - k) 0) ∧ h'[ab]? = some (.cells [.int .i64 ((base : Int) + (i : Int) * (1 + 2 * s.sl)), .int .i64 l].toArray 255 (0, 0)) ∧ Ext h1 h', fun k => 2 * sl - k, 0, ⟨rfl, rfl, ?_, ?_, rfl, trivial⟩, ⟨Nat.zero_le _, by simpa using own5, ha5, x5⟩, ?_⟩
  · show some (Value.slice _ (IntKind.i64.wrap (2 * s.sl)).toNat (IntKind.i64.wrap (2 * s.sl)).toNat) = _
    rw [ew]; rfl
  · show some (Value.int .i64 (((IntKind.i64.wrap (2 * s.sl)).toNat : Nat) : Int)) = _
    rw [ew]; rfl
  rintro k h6 ⟨hk, o6, ha6, x6⟩
  have hd6 := x6.blk hd
  refine xif_of (fun g => ?_) (fun g => ?_)
  · have g : (k : Int) < ((2 * sl : Nat) : Int) := of_decide_eq_true g
    have hkn : k < 2 * sl := by omega
    obtain ⟨z, hz1, hz2⟩ := hcell k hkn
    have M6 := HM.ext x6
    repeat (first | refine ⟨_, cell_blk (hd6) rfl, ?_⟩)
    refine ⟨_, rfl, reads_all ha6, ?_⟩
    refine dWord_spec.mono ?_
    rintro v h7 ⟨rfl, x7⟩
    have hd7 := x7.blk hd6
    have ha7 := x7.blk ha6
    try (refine ⟨by ((repeat (first | refine ⟨cell_blk (hd7) rfl, ?_⟩ | refine ⟨reads_all (ha7), ?_⟩)); exact trivial), ?_⟩)
    have e1 : IntKind.i64.wrap (IntKind.i64.wrap ((base : Int) + (i : Int) * (1 + 2 * s.sl) + 1) + (k : Int)) = ((b0 + k : Nat) : Int) := by
      obtain ⟨q1, q2⟩ := mul_bd (a := s.sh) (b := s.bk) (m := 8) (n := 16) (by omega) (by omega) (by omega) (by omega)
      obtain ⟨r1, r2⟩ := mul_bd (a := (i : Int)) (b := 1 + 2 * s.sl) (m := 128) (n := 17) (by omega) (by omega) (by omega) (by omega)
      have e0 : (i : Int) * (1 + 2 * s.sl) = ((i * (1 + 2 * sl) : Nat) : Int) := by rw [hsl]; push_cast; rfl
      rw [e0] at r1 r2 ⊢
      rw [wrap_i64 (x := (base : Int) + ((i * (1 + 2 * sl) : Nat) : Int) + 1) (by omega) (by omega), wrap_i64 (by omega) (by omega), hb0]
      omega
    refine (mPeek_at (M6.ext x7) e1 hz1).mono ?_
    rintro v h8 ⟨rfl, rfl⟩
    try (refine ⟨by ((repeat (first | refine ⟨cell_blk (hd7) rfl, ?_⟩ | refine ⟨reads_all (ha7), ?_⟩)); exact trivial), ?_⟩)
    have o7 := o6.ext x7
    have hlen : (ws.take k ++ List.replicate (2 * sl - k) (0 : Int)).length = 2 * sl := by rw [List.length_append, List.length_take, List.length_replicate]; omega
    have ht : (ws.take k).length = k := by rw [List.length_take]; omega
    have hset : (ws.take k ++ List.replicate (2 * sl - k) (0 : Int)).set k z = ws.take (k + 1) ++ List.replicate (2 * sl - (k + 1)) 0 := by
      rw [List.set_append_right _ _ (by omega), ht, Nat.sub_self, show 2 * sl - k = (2 * sl - (k + 1)) + 1 by omega, List.replicate_succ, List.set_cons_zero, List.take_add_one, hz2, List.append_assoc]
      rfl
    have hget : (ws.take k ++ List.replicate (2 * sl - k) (0 : Int))[k]? = some 0 := by
      rw [List.getElem?_append_right (by omega), ht, List.getElem?_replicate, if_pos (by omega)]
    obtain ⟨b, eb, _, cs⟩ := o7.canset encU64_len (i := k) (j := 0) (n := 1) (by omega) (by omega)
    cases eb
    refine ⟨_, rfl, Int.natCast_nonneg k, g, rfl, rfl, ?_, fun h9 s9 => ?_⟩
    · show CanSet h8 ((⟨wb, 0, none⟩ : Addr).add (((k : Int)).toNat * 1)) 1
      rw [idx_lit]
      simpa using cs
    have s9 : Stored h8 ((⟨wb, 0, none⟩ : Addr).add (((k : Int)).toNat * 1)) [.int .u64 z] h9 := s9
    rw [idx_lit] at s9
    have s9' : Stored h8 ⟨wb, k * 1 + 0, none⟩ [.int .u64 z] h9 := by simpa using s9
    have o9 := o7.put encU64_len (x' := z) rfl s9' hget (by show 0 + 1 ≤ 1; decide) rfl
    rw [hset] at o9
    have ne : ab ≠ wb := by
      obtain ⟨cs0, hcs0⟩ := o7.block
      exact blk_ne ha7 hcs0 (by decide)
    exact ⟨k + 1, ⟨rfl, rfl, rfl, rfl, slot_inc (by omega), trivial⟩, ⟨by omega, o9, s9'.blk ha7 ne, (x6.trans x7).stored s9' (o6.ge wb rfl)⟩, by show 2 * sl - (k + 1) < 2 * sl - k; omega⟩
  · have g : ¬ (k : Int) < ((2 * sl : Nat) : Int) := of_decide_eq_false g
    have e : k = 2 * sl := by omega
    subst e
    rw [Nat.sub_self, List.replicate_zero, List.append_nil, List.take_of_length_le (by omega)] at o6
    refine (dPlaces_spec (o6.row encU64_len) hwl (by omega) hp (fun j pl hpl => ?_)).mono ?_
    · obtain ⟨a, b, ha, hb, hok⟩ := hs j pl hpl
      have hj := (List.getElem?_eq_some_iff.1 hpl).1
      obtain ⟨z1, c1, d1⟩ := hcell (2 * j) (by omega)
      obtain ⟨z2, c2, d2⟩ := hcell (2 * j + 1) (by omega)
      rw [show b0 + 2 * j = base + i * (1 + 2 * sl) + 1 + 2 * j by omega, ha] at c1
      rw [show b0 + (2 * j + 1) = base + i * (1 + 2 * sl) + 2 + 2 * j by omega, hb] at c2
      cases c1
      cases c2
      exact ⟨a, b, d1, d2, hok⟩
    · rintro v h7 ⟨A', c', rfl, o7, x7⟩
      exact ⟨A', c', rfl, o7.mono x6.size, x6.trans x7⟩
end
end Go.Proofs.YtjjempefncgfhaaGreatDoorE
