/- Reports: a few of each list. Conditions: the argument is of its type. -/
import Derived.Test.YtcjoenkpibhmoaaGreatXJ9
set_option linter.unusedVariables false
set_option linter.unusedSimpArgs false
set_option maxRecDepth 100000
namespace Go.Proofs.YtcjoenkpibhmoaaGreatE
open Go Go.Proofs
def env_l23Few : Nat → Ann
  | 1 => ⟨.op 0 [] <| .op 1 [] <| .op 3 [] <| .op 4 [] <| .op 5 [] <| .op 6 [] <| .op 7 [] <| .op 8 [] <| .op 9 [] <| .op 10 [] <| .op 11 [] <| .op 12 [] <| .op 13 [] <| .op 14 [] <| .op 15 [] <| .op 16 [] <| .alt (.op 2 [4, 6, 11, 13] <| .op 17 [] <| .op 18 [1, 4, 6, 11, 13] <| .op 19 [] <| .nil) (.op 18 [1, 4, 6, 11, 13] <| .op 2 [4, 6, 11, 13] <| .op 17 [] <| .op 19 [] <| .nil), [0, 1, 3, 0, 8, 0, 32, 96, 224, 504, 0, 1024, 0, 4096, 12288, 28672, 64512, 131071, 0, 524287], false⟩
  | 2 => ⟨.nil, [], true⟩
  | 8 => ⟨.nil, [], true⟩
  | 11 => ⟨.op 0 [] <| .op 1 [] <| .op 2 [] <| .op 3 [] <| .op 4 [] <| .op 5 [] <| .op 6 [] <| .op 7 [] <| .op 8 [] <| .op 9 [] <| .op 10 [] <| .op 11 [] <| .op 12 [] <| .op 13 [] <| .op 14 [] <| .op 15 [] <| .op 16 [] <| .op 17 [] <| .op 18 [] <| .op 19 [] <| .op 20 [] <| .op 21 [1] <| .op 22 [] <| .op 23 [] <| .op 24 [] <| .nil, [0, 1, 0, 4, 0, 28, 60, 124, 0, 256, 0, 1792, 3840, 7936, 0, 16384, 0, 114688, 245760, 507904, 1048572, 2097148, 4194303, 8388607, 16777215], false⟩
  | 12 => ⟨.nil, [], true⟩
  | 18 => ⟨.nil, [], true⟩
  | _ => ⟨.nil, [], false⟩
section
variable {h : Heap}
theorem cmInfoR : (Tryz.prog.info? 63).map (fun i => (i.size, i.bytes)) = some (3, 40) := by kernel_rfl
theorem cmZeroR : xzero Tryz.prog 63 = some (encCm ⟨0, 0, none, 0, 0, []⟩) := by kernel_rfl
theorem dnInfoR : (Tryz.prog.info? 68).map (fun i => (i.size, i.bytes)) = some (7, 88) := by kernel_rfl
theorem dnZeroR : xzero Tryz.prog 68 = some (encDn dn0) := by kernel_rfl
theorem otInfoR : (Tryz.prog.info? 65).map (fun i => (i.size, i.bytes)) = some (5, 56) := by kernel_rfl
theorem otZeroR : xzero Tryz.prog 65 = some (encOt ⟨0, 0, 0, 0, none, 0, 0, []⟩) := by kernel_rfl
/-- Bytes that came in. -/
structure BsIn (h : Heap) (A : Option Addr) (n c : Nat) (bs : List Int) : Prop where
  row : Row encU8 1 h A bs
  len : bs.length = n
  cap : n ≤ c
  byte : IsB bs
/-- A report that came in. -/
structure RpIn (h : Heap) (r : Rp) : Prop where
  log : Row encHe 19 h r.LA r.log
  logl : r.log.length = r.ln
  logc : r.ln ≤ r.lc
  wo : ∀ e ∈ r.log, e.op.Wf
  came : Row encCm 3 h r.CA r.came
  camel : r.came.length = r.cn
  cameb : ∀ x ∈ r.came, BsIn h x.A x.n x.c x.bs
  don : Row encDn 7 h r.DA r.don
  donl : r.don.length = r.dn
  outs : Row encOt 5 h r.OA r.outs
  outsl : r.outs.length = r.on
  outsb : ∀ x ∈ r.outs, BsIn h x.A x.n x.c x.bs
  cnts : Row encCr 1 h r.KA r.cnts
  cntsl : r.cnts.length = r.kn
  cntsc : r.kn ≤ r.kc
  cntsr : ∀ x ∈ r.cnts, CrOk h x
theorem BsIn.ext {h h' : Heap} {A : Option Addr} {n c : Nat} {bs : List Int} (B : BsIn h A n c bs) (x : Ext h h') : BsIn h' A n c bs := ⟨x.row B.row, B.len, B.cap, B.byte⟩
theorem RpIn.ext {h h' : Heap} {r : Rp} (R : RpIn h r) (x : Ext h h') : RpIn h' r :=
  ⟨x.row R.log, R.logl, R.logc, R.wo, x.row R.came, R.camel, fun y hy => (R.cameb y hy).ext x, x.row R.don, R.donl, x.row R.outs, R.outsl, fun y hy => (R.outsb y hy).ext x, x.row R.cnts, R.cntsl, R.cntsc, fun y hy => (R.cntsr y hy).ext x⟩
theorem bs_few {A : Option Addr} {n c : Nat} {bs : List Int} (B : BsIn h A n c bs) (m : Nat) (hm : m ≤ 210) : BsOk h (if (c : Int).toNat = Int.toNat 0 then A else Option.map (fun x => x.add (Int.toNat 0 * 1)) A) ((if (m : Int) < (n : Int) then (m : Int) else (n : Int)).toNat - Int.toNat 0) ((c : Int).toNat - Int.toNat 0) (bs.take m) := by
  have t0 : Int.toNat 0 = 0 := rfl
  have l := B.len
  have cp := B.cap
  refine ⟨row_first B.row m fun a => add_zero' a, ?_, ?_, ?_, fun y hy => B.byte y (List.mem_of_mem_take hy)⟩
  · rw [List.length_take]; split <;> omega
  · split <;> omega
  · split <;> omega
set_option maxHeartbeats 4000000 in
theorem l23Few_spec {hb : Heap} (x0 : Ext hb h) {r : Rp} {P tries ring normal short : Int} {A B : Option Addr} {na ca nb cb : Nat} {rules : List Ru} {vls : List Vl} {s : Sz} (R0 : RpIn hb r) (hn20 : ∀ x ∈ r.cnts, x.n ≤ 20)
    (hp : r.plan = planV P (.slice A na ca) (.slice B nb cb) s tries ring normal short) (rA : Row encRu 2 h A rules) (rlA : rules.length = na) (rB : Row encVl 3 h B vls) (rlB : vls.length = nb) (wf : ∀ v ∈ vls, SetWf v.mem ∧ SetWf v.unt) :
    HCalls Tryz.prog 6 #[.agg (encRp r).toArray] h
    (fun v h' => ∃ r', v = .agg (encRp r').toArray ∧ RpOk h' r' ∧ PlIn h' r' ⟨P, rules, vls, s, tries, ring, normal, short⟩ ∧ (∀ e ∈ r'.log, e.op.Wf) ∧ (∀ d ∈ r'.don, d.tA = none ∧ d.tn = 0 ∧ d.fA = none ∧ d.fn = 0) ∧ (∀ x ∈ r'.cnts, x.n ≤ 20) ∧ Ext h h' ∧ ∀ {a vs cs f h2}, Stored h' a vs h2 → h'[a.block]? = some (.cells cs 35 f) → hb.size ≤ a.block → RpOk h2 r' ∧ PlIn h2 r' ⟨P, rules, vls, s, tries, ring, normal, short⟩) := by
  have R : RpIn h r := R0.ext x0
  refine xcalls env_l23Few Tryz.func6 rfl (by kernel_rfl) rfl (by kernel_rfl) ?_
  intro rb h1 n1 zb h2 n2
  have hrb : h2[rb]? = some (.cells (encRp r).toArray 35 (0, 0)) := n2.ext.blk n1.this
  have hzb : h2[zb]? = some (.cells (encRp rpz).toArray 35 (0, 0)) := n2.this
  have x2 := n1.ext.trans n2.ext
  have rp : ∀ g : Heap, g[rb]? = some (.cells (encRp r).toArray 35 (0, 0)) → Reads g ⟨rb, 0, none⟩ (planV P (.slice A na ca) (.slice B nb cb) s tries ring normal short) := fun g hg => by
    have : Reads g ⟨rb, 0, none⟩ r.plan := reads_at hg rfl
    rw [hp] at this; exact this
  have ll := R.logl
  have lc := R.logc
  have kl := R.cntsl
  have kc := R.cntsc
  have cl := R.camel
  have dl := R.donl
  have ol := R.outsl
  have t0 : Int.toNat 0 = 0 := rfl
  have zge : h.size ≤ zb := n2.ge n1.ext
  have hrl : (fixRules P rules).length = (fixPorts P).toNat := by unfold fixRules; simp
  obtain ⟨q, hq⟩ : ∃ q : Qp, q = ⟨P, rules, vls, s, tries, ring, normal, short⟩ := ⟨_, rfl⟩
  obtain ⟨LA, hLA⟩ : ∃ LA, LA = (if (r.lc : Int).toNat = Int.toNat 0 then r.LA else Option.map (fun x => x.add (Int.toNat 0 * 19)) r.LA) := ⟨_, rfl⟩
  obtain ⟨KA, hKA⟩ : ∃ KA, KA = (if (r.kc : Int).toNat = Int.toNat 0 then r.KA else Option.map (fun x => x.add (Int.toNat 0 * 1)) r.KA) := ⟨_, rfl⟩
  have hLr : Row encHe 19 hb LA (r.log.take 60) := by rw [hLA]; exact row_first R0.log 60 fun a => add_zero' a
  have hKr : Row encCr 1 hb KA (r.cnts.take 10) := by rw [hKA]; exact row_first R0.cnts 10 fun a => add_zero' a
  obtain ⟨ln, hln⟩ : ∃ ln, ln = (if (60 : Int) < (r.ln : Int) then (60 : Int) else (r.ln : Int)).toNat - Int.toNat 0 := ⟨_, rfl⟩
  obtain ⟨kn, hkn⟩ : ∃ kn, kn = (if (10 : Int) < (r.kn : Int) then (10 : Int) else (r.kn : Int)).toNat - Int.toNat 0 := ⟨_, rfl⟩
  have ln1 : (r.log.take 60).length = ln ∧ ln ≤ 60 ∧ ln ≤ r.lc := by rw [List.length_take, hln]; split <;> omega
  have kn1 : (r.cnts.take 10).length = kn ∧ kn ≤ 10 := by rw [List.length_take, hkn]; split <;> omega
  refine ⟨Nat × Option Addr × Nat × Option Addr × Nat, fun z => [(1, .pointer (some ⟨rb, 0, none⟩)), (2, .pointer (some ⟨zb, 0, none⟩)), (3, .pointer (some ⟨z.1, 0, none⟩))],
    fun z h' => h'[z.1]? = some (.cells (encRp (rpW q z.2.1 z.2.2.1 z.2.2.2.1 z.2.2.2.2 LA ln ((r.lc : Int).toNat - Int.toNat 0) (r.log.take 60) none 0 0 [] none 0 0 [] none 0 0 [] KA kn ((r.kc : Int).toNat - Int.toNat 0) (r.cnts.take 10))).toArray 35 (0, 0)) ∧ OwnA encRu 2 93 h.size h' z.2.1 z.2.2.1 (fixRules P rules) ∧ OwnA encVl 3 96 h.size h' z.2.2.2.1 z.2.2.2.2 (fixVlans P vls) ∧ Ext h2 h' ∧ zb < z.1, ?_, ?_⟩
  · refine ⟨_, rfl, rp _ hrb, _, cell_blk hrb rfl, _, cell_blk hrb rfl, by decide, by decide, by split <;> omega, by split <;> omega, Int.le_refl _, _, cell_blk hrb rfl, _, cell_blk hrb rfl, by decide, by decide, by split <;> omega, by split <;> omega, Int.le_refl _, ?_, ?_⟩
    · refine (rPFix_spec (x2.row rA) rlA (x2.row rB) rlB wf).mono ?_
      rintro v h3 ⟨A3, c3, B3, d3, rfl, oR3, oV3, x3⟩
      have oR3 : OwnA encRu 2 93 h2.size h3 A3 c3 (fixRules P rules) := oR3
      have oV3 : OwnA encVl 3 96 h2.size h3 B3 d3 (fixVlans P vls) := oV3
      refine ⟨⟨cell_blk (x3.blk hrb) rfl, cell_blk (x3.blk hrb) rfl, cell_blk (x3.blk hrb) rfl, cell_blk (x3.blk hrb) rfl, trivial⟩, ?_⟩
      intro ob h5 n5
      have x25 := x3.trans n5.ext
      have oge : h2.size ≤ ob := n5.ge x3
      refine ⟨⟨cell_blk (x25.blk hrb) rfl, cell_blk (x25.blk hrb) rfl, cell_blk (x25.blk hrb) rfl, cell_blk (x25.blk hrb) rfl, rp _ (x25.blk hrb), trivial⟩, ?_⟩
      refine ⟨rfl, rfl, canset_blk n5.this rfl, fun h7 s7 => ?_⟩
      have hob7 : h7[ob]? = some (.cells (encRp (rpW q A3 c3 B3 d3 LA ln ((r.lc : Int).toNat - Int.toNat 0) (r.log.take 60) none 0 0 [] none 0 0 [] none 0 0 [] KA kn ((r.kc : Int).toNat - Int.toNat 0) (r.cnts.take 10))).toArray 35 (0, 0)) := by
        have := s7.fill0 n5.this rfl
        rw [← hrl] at this
        rw [hq, hLA, hKA, hln, hkn]
        exact this
      have zlt := blk_lt hzb
      exact ⟨(ob, A3, c3, B3, d3), ⟨rfl, rfl, rfl, trivial⟩, hob7, ((oR3.mono x2.size).ext n5.ext).other s7 (fun b e => by show b ≠ ob; have := own_lt oR3 e; have := n5.at_; omega), ((oV3.mono x2.size).ext n5.ext).other s7 (fun b e => by show b ≠ ob; have := own_lt oV3 e; have := n5.at_; omega), x25.stored s7 (by show h2.size ≤ ob; omega), by show zb < ob; omega⟩
    · intro ob h3 n3
      have oge : h2.size ≤ ob := n3.ge (Ext.refl _)
      have olt := blk_lt n3.this
      refine ⟨⟨cell_blk (n3.ext.blk hrb) rfl, cell_blk (n3.ext.blk hrb) rfl, cell_blk (n3.ext.blk hrb) rfl, cell_blk (n3.ext.blk hrb) rfl, rp _ (n3.ext.blk hrb), trivial⟩, ?_⟩
      refine (rPFix_spec ((x2.trans n3.ext).row rA) rlA ((x2.trans n3.ext).row rB) rlB wf).mono ?_
      rintro v h4 ⟨A3, c3, B3, d3, rfl, oR3, oV3, x4⟩
      have oR3 : OwnA encRu 2 93 h3.size h4 A3 c3 (fixRules P rules) := oR3
      have oV3 : OwnA encVl 3 96 h3.size h4 B3 d3 (fixVlans P vls) := oV3
      have x34 := n3.ext.trans x4
      refine ⟨⟨cell_blk (x34.blk hrb) rfl, cell_blk (x34.blk hrb) rfl, cell_blk (x34.blk hrb) rfl, cell_blk (x34.blk hrb) rfl, trivial⟩, ?_⟩
      have hob4 := x4.blk n3.this
      refine ⟨rfl, rfl, canset_blk hob4 rfl, fun h7 s7 => ?_⟩
      have hob7 : h7[ob]? = some (.cells (encRp (rpW q A3 c3 B3 d3 LA ln ((r.lc : Int).toNat - Int.toNat 0) (r.log.take 60) none 0 0 [] none 0 0 [] none 0 0 [] KA kn ((r.kc : Int).toNat - Int.toNat 0) (r.cnts.take 10))).toArray 35 (0, 0)) := by
        have := s7.fill0 hob4 rfl
        rw [← hrl] at this
        rw [hq, hLA, hKA, hln, hkn]
        exact this
      have zlt := blk_lt hzb
      exact ⟨(ob, A3, c3, B3, d3), ⟨rfl, rfl, rfl, trivial⟩, hob7, (oR3.mono (x2.trans n3.ext).size).other s7 (fun b e => by show b ≠ ob; have := oR3.ge b e; omega), (oV3.mono (x2.trans n3.ext).size).other s7 (fun b e => by show b ≠ ob; have := oV3.ge b e; omega), x34.stored s7 (by show h2.size ≤ ob; omega), by show zb < ob; omega⟩
  rintro ⟨ob, A3, c3, B3, d3⟩ h3 ⟨hob3, oR3, oV3, x3, zlt⟩
  simp only at hob3 oR3 oV3 zlt
  have oge : h.size ≤ ob := by omega
  have zne : zb ≠ ob := by omega
  have rne : rb ≠ ob := by have := n2.lt n1.this; omega
  have x03 := x2.trans x3
  have hrb3 := x3.blk hrb
  have hzb3 := x3.blk hzb
  refine ⟨Nat × Option Addr × Nat × List Cm, fun z => [(1, .pointer (some ⟨rb, 0, none⟩)), (2, .pointer (some ⟨zb, 0, none⟩)), (3, .pointer (some ⟨ob, 0, none⟩))], fun z h' => (z.1 ≤ 12 ∧ z.2.2.2.length = z.1 ∧ ∀ y ∈ z.2.2.2, BsOk hb y.A y.n y.c y.bs) ∧ h'[ob]? = some (.cells (encRp (rpW q A3 c3 B3 d3 LA ln ((r.lc : Int).toNat - Int.toNat 0) (r.log.take 60) z.2.1 z.1 z.2.2.1 z.2.2.2 none 0 0 [] none 0 0 [] KA kn ((r.kc : Int).toNat - Int.toNat 0) (r.cnts.take 10))).toArray 35 (0, 0)) ∧ OwnA encCm 3 63 h.size h' z.2.1 z.2.2.1 z.2.2.2 ∧ OwnA encRu 2 93 h.size h' A3 c3 (fixRules P rules) ∧ OwnA encVl 3 96 h.size h' B3 d3 (fixVlans P vls) ∧ h'[rb]? = some (.cells (encRp r).toArray 35 (0, 0)) ∧ h'[zb]? = some (.cells (encRp rpz).toArray 35 (0, 0)) ∧ Ext h h', ?_, ?_⟩
  · refine ⟨Nat × Option Addr × Nat × List Cm, fun z => [(1, .pointer (some ⟨rb, 0, none⟩)), (2, .pointer (some ⟨zb, 0, none⟩)), (3, .pointer (some ⟨ob, 0, none⟩)), (4, .int .i64 z.1)],
      fun z h' => (z.1 ≤ r.cn ∧ z.1 ≤ 12 ∧ z.2.2.2.length = z.1 ∧ ∀ y ∈ z.2.2.2, BsOk hb y.A y.n y.c y.bs) ∧ h'[ob]? = some (.cells (encRp (rpW q A3 c3 B3 d3 LA ln ((r.lc : Int).toNat - Int.toNat 0) (r.log.take 60) z.2.1 z.1 z.2.2.1 z.2.2.2 none 0 0 [] none 0 0 [] KA kn ((r.kc : Int).toNat - Int.toNat 0) (r.cnts.take 10))).toArray 35 (0, 0)) ∧ OwnA encCm 3 63 h.size h' z.2.1 z.2.2.1 z.2.2.2 ∧ OwnA encRu 2 93 h.size h' A3 c3 (fixRules P rules) ∧ OwnA encVl 3 96 h.size h' B3 d3 (fixVlans P vls) ∧ h'[rb]? = some (.cells (encRp r).toArray 35 (0, 0)) ∧ h'[zb]? = some (.cells (encRp rpz).toArray 35 (0, 0)) ∧ Ext h h', fun z => r.cn - z.1, (0, none, 0, []), ⟨rfl, rfl, rfl, rfl, trivial⟩, ⟨⟨Nat.zero_le _, Nat.zero_le _, rfl, fun y hy => absurd hy List.not_mem_nil⟩, hob3, .inl ⟨rfl, rfl, rfl⟩, oR3, oV3, hrb3, hzb3, x03⟩, ?_⟩
    rintro ⟨i, CA, cc, cl1⟩ h4 ⟨⟨hi, hi12, hlen, hbs⟩, hob4, oC4, oR4, oV4, hrb4, hzb4, x4⟩
    simp only at hi hi12 hlen hbs hob4 oC4
    refine ⟨_, cell_blk hrb4 rfl, ?_⟩
    refine xif_of (fun hlt => ?_) (fun hge => ?_)
    · have hlt : (i : Int) < r.cn := of_decide_eq_true hlt
      refine xif_of (fun hlt2 => ?_) (fun hge2 => ?_)
      · have hlt2 : (i : Int) < 12 := of_decide_eq_true hlt2
        obtain ⟨c, hc⟩ : ∃ c, r.came[i]? = some c := ⟨r.came[i]'(by omega), List.getElem?_eq_getElem (by omega)⟩
        obtain ⟨a, hA, crd⟩ := (x4.row R.came) i c hc
        have bO := R0.cameb c (List.mem_of_getElem? hc)
        have bl := bO.len
        have bc := bO.cap
        refine ⟨_, cell_blk hrb4 rfl, a, hA, by omega, hlt, encCm c, rfl, crd, ?_⟩
        intro xb h5 n5
        refine ⟨rfl, rfl, canset_blk n5.this rfl, fun h6 s6 => ?_⟩
        have hxb : h6[xb]? = some (.cells (encCm c).toArray 63 (0, 0)) := n5.fill rfl s6
        have x46 : Ext h4 h6 := n5.ext.stored s6 (n5.ge (Ext.refl _))
        have xge : h4.size ≤ xb := n5.ge (Ext.refl _)
        refine ⟨_, cell_blk hxb rfl, _, cell_blk hxb rfl, by decide, by decide, by split <;> omega, by split <;> omega, Int.le_refl _, ?_⟩
        refine ⟨rfl, rfl, canset_blk hxb rfl, fun h7 s7 => ?_⟩
        obtain ⟨A', hA'⟩ : ∃ A', A' = (if (c.c : Int).toNat = Int.toNat 0 then c.A else Option.map (fun x => x.add (Int.toNat 0 * 1)) c.A) := ⟨_, rfl⟩
        obtain ⟨n', hn'⟩ : ∃ n', n' = (if (200 : Int) < (c.n : Int) then (200 : Int) else (c.n : Int)).toNat - Int.toNat 0 := ⟨_, rfl⟩
        have bnew : BsOk hb A' n' ((c.c : Int).toNat - Int.toNat 0) (c.bs.take 200) := by rw [hA', hn']; exact bs_few bO 200 (by decide)
        have hxb7 : h7[xb]? = some (.cells (encCm ⟨c.port, c.tick, A', n', (c.c : Int).toNat - Int.toNat 0, c.bs.take 200⟩).toArray 63 (0, 0)) := by
          have := s7.put hxb
          rw [hA', hn']; exact this
        have x47 : Ext h4 h7 := x46.stored s7 xge
        have hob7 := x47.blk hob4
        refine ⟨_, cell_blk hob7 rfl, encCm ⟨c.port, c.tick, A', n', (c.c : Int).toNat - Int.toNat 0, c.bs.take 200⟩, rfl, reads_all hxb7, ?_⟩
        intro eb h8 n8
        refine xappend_one (x := (⟨c.port, c.tick, A', n', (c.c : Int).toNat - Int.toNat 0, c.bs.take 200⟩ : Cm)) cmInfoR cmZeroR rfl (by decide) encCm_len encCm_one (oC4.ext x47) n8 hlen (by show (i + 1) * 40 ≤ _; omega) (x4.trans x47).size fun A9 c9 h9 o9 k9 => ?_
        have P7 := oC4.ext x47
        have hob9 := P7.blkKeep k9 hob7 (by decide)
        have hrb9 := P7.blkKeep k9 (x47.blk hrb4) (by decide)
        have hzb9 := P7.blkKeep k9 (x47.blk hzb4) (by decide)
        have x9 : Ext h h9 := k9.ext (x4.trans x47) fun b e => P7.ge b e
        refine ⟨rfl, rfl, canset_blk hob9 rfl, fun h10 s10 => ?_⟩
        refine ⟨(i + 1, A9, c9, cl1 ++ [⟨c.port, c.tick, A', n', (c.c : Int).toNat - Int.toNat 0, c.bs.take 200⟩]), ⟨rfl, rfl, rfl, slot_inc (by omega), trivial⟩, ⟨⟨by show i + 1 ≤ r.cn; omega, by show i + 1 ≤ 12; omega, by show (cl1 ++ _).length = i + 1; rw [List.length_append, hlen]; rfl, fun y hy => (List.mem_append.1 hy).elim (hbs y) (fun hy => by obtain rfl := List.mem_singleton.1 hy; exact bnew)⟩, s10.put hob9, o9.storeT s10 hob9 (by decide), ((oR4.ext x47).keepT P7 k9 (by decide)).storeT s10 hob9 (by decide), ((oV4.ext x47).keepT P7 k9 (by decide)).storeT s10 hob9 (by decide), s10.blk hrb9 rne, s10.blk hzb9 zne, x9.stored s10 oge⟩, by show r.cn - (i + 1) < r.cn - i; omega⟩
      · exact ⟨(i, CA, cc, cl1), ⟨rfl, rfl, rfl, trivial⟩, ⟨hi12, hlen, hbs⟩, hob4, oC4, oR4, oV4, hrb4, hzb4, x4⟩
    · exact ⟨(i, CA, cc, cl1), ⟨rfl, rfl, rfl, trivial⟩, ⟨hi12, hlen, hbs⟩, hob4, oC4, oR4, oV4, hrb4, hzb4, x4⟩
  clear hob3 oR3 oV3 hrb3 hzb3 x03
  rintro ⟨cn, CA, cc, cl1⟩ h3 ⟨⟨hc12, hclen, hcbs⟩, hob3, oC3, oR3, oV3, hrb3, hzb3, x03⟩
  simp only at hc12 hclen hcbs hob3 oC3
  refine ⟨Nat × Option Addr × Nat × List Dn, fun z => [(1, .pointer (some ⟨rb, 0, none⟩)), (2, .pointer (some ⟨zb, 0, none⟩)), (3, .pointer (some ⟨ob, 0, none⟩))], fun z h' => (z.1 ≤ 12 ∧ z.2.2.2.length = z.1 ∧ ∀ d ∈ z.2.2.2, d.tA = none ∧ d.tn = 0 ∧ d.fA = none ∧ d.fn = 0) ∧ h'[ob]? = some (.cells (encRp (rpW q A3 c3 B3 d3 LA ln ((r.lc : Int).toNat - Int.toNat 0) (r.log.take 60) CA cn cc cl1 z.2.1 z.1 z.2.2.1 z.2.2.2 none 0 0 [] KA kn ((r.kc : Int).toNat - Int.toNat 0) (r.cnts.take 10))).toArray 35 (0, 0)) ∧ (OwnA encCm 3 63 h.size h' CA cc cl1 ∧ OwnA encDn 7 68 h.size h' z.2.1 z.2.2.1 z.2.2.2) ∧ OwnA encRu 2 93 h.size h' A3 c3 (fixRules P rules) ∧ OwnA encVl 3 96 h.size h' B3 d3 (fixVlans P vls) ∧ h'[rb]? = some (.cells (encRp r).toArray 35 (0, 0)) ∧ h'[zb]? = some (.cells (encRp rpz).toArray 35 (0, 0)) ∧ Ext h h', ?_, ?_⟩
  · refine ⟨Nat × Option Addr × Nat × List Dn, fun z => [(1, .pointer (some ⟨rb, 0, none⟩)), (2, .pointer (some ⟨zb, 0, none⟩)), (3, .pointer (some ⟨ob, 0, none⟩)), (6, .int .i64 z.1)],
      fun z h' => (z.1 ≤ r.dn ∧ z.1 ≤ 12 ∧ z.2.2.2.length = z.1 ∧ ∀ d ∈ z.2.2.2, d.tA = none ∧ d.tn = 0 ∧ d.fA = none ∧ d.fn = 0) ∧ h'[ob]? = some (.cells (encRp (rpW q A3 c3 B3 d3 LA ln ((r.lc : Int).toNat - Int.toNat 0) (r.log.take 60) CA cn cc cl1 z.2.1 z.1 z.2.2.1 z.2.2.2 none 0 0 [] KA kn ((r.kc : Int).toNat - Int.toNat 0) (r.cnts.take 10))).toArray 35 (0, 0)) ∧ (OwnA encCm 3 63 h.size h' CA cc cl1 ∧ OwnA encDn 7 68 h.size h' z.2.1 z.2.2.1 z.2.2.2) ∧ OwnA encRu 2 93 h.size h' A3 c3 (fixRules P rules) ∧ OwnA encVl 3 96 h.size h' B3 d3 (fixVlans P vls) ∧ h'[rb]? = some (.cells (encRp r).toArray 35 (0, 0)) ∧ h'[zb]? = some (.cells (encRp rpz).toArray 35 (0, 0)) ∧ Ext h h', fun z => r.dn - z.1, (0, none, 0, []), ⟨rfl, rfl, rfl, rfl, trivial⟩, ⟨⟨Nat.zero_le _, Nat.zero_le _, rfl, fun y hy => absurd hy List.not_mem_nil⟩, hob3, ⟨oC3, .inl ⟨rfl, rfl, rfl⟩⟩, oR3, oV3, hrb3, hzb3, x03⟩, ?_⟩
    rintro ⟨i, DA, dc, dl1⟩ h4 ⟨⟨hi, hi12, hlen, hdl⟩, hob4, ⟨oC4, oD4⟩, oR4, oV4, hrb4, hzb4, x4⟩
    simp only at hi hi12 hlen hdl hob4 oD4
    refine ⟨_, cell_blk hrb4 rfl, ?_⟩
    refine xif_of (fun hlt => ?_) (fun hge => ?_)
    · have hlt : (i : Int) < r.dn := of_decide_eq_true hlt
      refine xif_of (fun hlt2 => ?_) (fun hge2 => ?_)
      · have hlt2 : (i : Int) < 12 := of_decide_eq_true hlt2
        obtain ⟨d, hdn⟩ : ∃ d, r.don[i]? = some d := ⟨r.don[i]'(by omega), List.getElem?_eq_getElem (by omega)⟩
        obtain ⟨a, hA, drd⟩ := (x4.row R.don) i d hdn
        have q0 : cell h4 ((a.add ((i : Int).toNat * 7)).add 0) = some (.int .i64 d.id) := drd.get 0 rfl
        have q1 : cell h4 ((a.add ((i : Int).toNat * 7)).add 1) = some (.int .i64 d.why) := drd.get 1 rfl
        have q4 : cell h4 ((a.add ((i : Int).toNat * 7)).add 4) = some (.int .i64 d.found) := drd.get 4 rfl
        refine ⟨_, cell_blk hob4 rfl, _, cell_blk hrb4 rfl, a, hA, by omega, hlt, _, q0, _, cell_blk hrb4 rfl, a, hA, by omega, hlt, _, q1, _, cell_blk hrb4 rfl, a, hA, by omega, hlt, _, q4, ?_⟩
        intro eb h8 n8
        refine ⟨⟨cell_blk (n8.ext.blk hob4) rfl, trivial⟩, ?_⟩
        refine xappend_one (x := (⟨d.id, d.why, 0, 0, d.found, none, 0, 0, none, 0, 0⟩ : Dn)) dnInfoR dnZeroR rfl (by decide) encDn_len encDn_one oD4 n8 hlen (by show (i + 1) * 88 ≤ _; omega) x4.size fun A9 c9 h9 o9 k9 => ?_
        have hob9 := oD4.blkKeep k9 hob4 (by decide)
        have hrb9 := oD4.blkKeep k9 hrb4 (by decide)
        have hzb9 := oD4.blkKeep k9 hzb4 (by decide)
        have x9 : Ext h h9 := k9.ext x4 fun b e => oD4.ge b e
        refine ⟨rfl, rfl, canset_blk hob9 rfl, fun h10 s10 => ?_⟩
        refine ⟨(i + 1, A9, c9, dl1 ++ [⟨d.id, d.why, 0, 0, d.found, none, 0, 0, none, 0, 0⟩]), ⟨rfl, rfl, rfl, slot_inc (by omega), trivial⟩, ⟨⟨by show i + 1 ≤ r.dn; omega, by show i + 1 ≤ 12; omega, by show (dl1 ++ _).length = i + 1; rw [List.length_append, hlen]; rfl, fun y hy => (List.mem_append.1 hy).elim (hdl y) (fun hy => by obtain rfl := List.mem_singleton.1 hy; exact ⟨rfl, rfl, rfl, rfl⟩)⟩, s10.put hob9, ⟨(oC4.keepT oD4 k9 (by decide)).storeT s10 hob9 (by decide), o9.storeT s10 hob9 (by decide)⟩, (oR4.keepT oD4 k9 (by decide)).storeT s10 hob9 (by decide), (oV4.keepT oD4 k9 (by decide)).storeT s10 hob9 (by decide), s10.blk hrb9 rne, s10.blk hzb9 zne, x9.stored s10 oge⟩, by show r.dn - (i + 1) < r.dn - i; omega⟩
      · exact ⟨(i, DA, dc, dl1), ⟨rfl, rfl, rfl, trivial⟩, ⟨hi12, hlen, hdl⟩, hob4, ⟨oC4, oD4⟩, oR4, oV4, hrb4, hzb4, x4⟩
    · exact ⟨(i, DA, dc, dl1), ⟨rfl, rfl, rfl, trivial⟩, ⟨hi12, hlen, hdl⟩, hob4, ⟨oC4, oD4⟩, oR4, oV4, hrb4, hzb4, x4⟩
  clear hob3 oC3 oR3 oV3 hrb3 hzb3 x03
  rintro ⟨dn, DA, dc, dl1⟩ h3 ⟨⟨hd12, hdlen, hdl⟩, hob3, ⟨oC3, oD3⟩, oR3, oV3, hrb3, hzb3, x03⟩
  simp only at hd12 hdlen hdl hob3 oD3
  refine ⟨Nat × Option Addr × Nat × List Ot, fun z => [(1, .pointer (some ⟨rb, 0, none⟩)), (2, .pointer (some ⟨zb, 0, none⟩)), (3, .pointer (some ⟨ob, 0, none⟩))], fun z h' => (z.1 ≤ 30 ∧ z.2.2.2.length = z.1 ∧ ∀ y ∈ z.2.2.2, BsOk hb y.A y.n y.c y.bs) ∧ h'[ob]? = some (.cells (encRp (rpW q A3 c3 B3 d3 LA ln ((r.lc : Int).toNat - Int.toNat 0) (r.log.take 60) CA cn cc cl1 DA dn dc dl1 z.2.1 z.1 z.2.2.1 z.2.2.2 KA kn ((r.kc : Int).toNat - Int.toNat 0) (r.cnts.take 10))).toArray 35 (0, 0)) ∧ (OwnA encCm 3 63 h.size h' CA cc cl1 ∧ OwnA encDn 7 68 h.size h' DA dc dl1 ∧ OwnA encOt 5 65 h.size h' z.2.1 z.2.2.1 z.2.2.2) ∧ OwnA encRu 2 93 h.size h' A3 c3 (fixRules P rules) ∧ OwnA encVl 3 96 h.size h' B3 d3 (fixVlans P vls) ∧ h'[rb]? = some (.cells (encRp r).toArray 35 (0, 0)) ∧ h'[zb]? = some (.cells (encRp rpz).toArray 35 (0, 0)) ∧ Ext h h', ?_, ?_⟩
  · refine ⟨Nat × Option Addr × Nat × List Ot, fun z => [(1, .pointer (some ⟨rb, 0, none⟩)), (2, .pointer (some ⟨zb, 0, none⟩)), (3, .pointer (some ⟨ob, 0, none⟩)), (7, .int .i64 z.1)],
      fun z h' => (z.1 ≤ r.on ∧ z.1 ≤ 30 ∧ z.2.2.2.length = z.1 ∧ ∀ y ∈ z.2.2.2, BsOk hb y.A y.n y.c y.bs) ∧ h'[ob]? = some (.cells (encRp (rpW q A3 c3 B3 d3 LA ln ((r.lc : Int).toNat - Int.toNat 0) (r.log.take 60) CA cn cc cl1 DA dn dc dl1 z.2.1 z.1 z.2.2.1 z.2.2.2 KA kn ((r.kc : Int).toNat - Int.toNat 0) (r.cnts.take 10))).toArray 35 (0, 0)) ∧ (OwnA encCm 3 63 h.size h' CA cc cl1 ∧ OwnA encDn 7 68 h.size h' DA dc dl1 ∧ OwnA encOt 5 65 h.size h' z.2.1 z.2.2.1 z.2.2.2) ∧ OwnA encRu 2 93 h.size h' A3 c3 (fixRules P rules) ∧ OwnA encVl 3 96 h.size h' B3 d3 (fixVlans P vls) ∧ h'[rb]? = some (.cells (encRp r).toArray 35 (0, 0)) ∧ h'[zb]? = some (.cells (encRp rpz).toArray 35 (0, 0)) ∧ Ext h h', fun z => r.on - z.1, (0, none, 0, []), ⟨rfl, rfl, rfl, rfl, trivial⟩, ⟨⟨Nat.zero_le _, Nat.zero_le _, rfl, fun y hy => absurd hy List.not_mem_nil⟩, hob3, ⟨oC3, oD3, .inl ⟨rfl, rfl, rfl⟩⟩, oR3, oV3, hrb3, hzb3, x03⟩, ?_⟩
    rintro ⟨i, OA, oc, ol1⟩ h4 ⟨⟨hi, hi30, hlen, hbs⟩, hob4, ⟨oC4, oD4, oO4⟩, oR4, oV4, hrb4, hzb4, x4⟩
    simp only at hi hi30 hlen hbs hob4 oO4
    refine ⟨_, cell_blk hrb4 rfl, ?_⟩
    refine xif_of (fun hlt => ?_) (fun hge => ?_)
    · have hlt : (i : Int) < r.on := of_decide_eq_true hlt
      refine xif_of (fun hlt2 => ?_) (fun hge2 => ?_)
      · have hlt2 : (i : Int) < 30 := of_decide_eq_true hlt2
        obtain ⟨c, hc⟩ : ∃ c, r.outs[i]? = some c := ⟨r.outs[i]'(by omega), List.getElem?_eq_getElem (by omega)⟩
        obtain ⟨a, hA, crd⟩ := (x4.row R.outs) i c hc
        have bO := R0.outsb c (List.mem_of_getElem? hc)
        have bl := bO.len
        have bc := bO.cap
        refine ⟨_, cell_blk hrb4 rfl, a, hA, by omega, hlt, encOt c, rfl, crd, ?_⟩
        intro xb h5 n5
        refine ⟨rfl, rfl, canset_blk n5.this rfl, fun h6 s6 => ?_⟩
        have hxb : h6[xb]? = some (.cells (encOt c).toArray 65 (0, 0)) := n5.fill rfl s6
        have x46 : Ext h4 h6 := n5.ext.stored s6 (n5.ge (Ext.refl _))
        have xge : h4.size ≤ xb := n5.ge (Ext.refl _)
        refine ⟨_, cell_blk hxb rfl, _, cell_blk hxb rfl, by decide, by decide, by split <;> omega, by split <;> omega, Int.le_refl _, ?_⟩
        refine ⟨rfl, rfl, canset_blk hxb rfl, fun h7 s7 => ?_⟩
        obtain ⟨A', hA'⟩ : ∃ A', A' = (if (c.c : Int).toNat = Int.toNat 0 then c.A else Option.map (fun x => x.add (Int.toNat 0 * 1)) c.A) := ⟨_, rfl⟩
        obtain ⟨n', hn'⟩ : ∃ n', n' = (if (210 : Int) < (c.n : Int) then (210 : Int) else (c.n : Int)).toNat - Int.toNat 0 := ⟨_, rfl⟩
        have bnew : BsOk hb A' n' ((c.c : Int).toNat - Int.toNat 0) (c.bs.take 210) := by rw [hA', hn']; exact bs_few bO 210 (by decide)
        have hxb7 : h7[xb]? = some (.cells (encOt ⟨c.id, c.frm, c.to, c.mark, A', n', (c.c : Int).toNat - Int.toNat 0, c.bs.take 210⟩).toArray 65 (0, 0)) := by
          have := s7.put hxb
          rw [hA', hn']; exact this
        have x47 : Ext h4 h7 := x46.stored s7 xge
        have hob7 := x47.blk hob4
        refine ⟨_, cell_blk hob7 rfl, encOt ⟨c.id, c.frm, c.to, c.mark, A', n', (c.c : Int).toNat - Int.toNat 0, c.bs.take 210⟩, rfl, reads_all hxb7, ?_⟩
        intro eb h8 n8
        refine xappend_one (x := (⟨c.id, c.frm, c.to, c.mark, A', n', (c.c : Int).toNat - Int.toNat 0, c.bs.take 210⟩ : Ot)) otInfoR otZeroR rfl (by decide) encOt_len encOt_one (oO4.ext x47) n8 hlen (by show (i + 1) * 56 ≤ _; omega) (x4.trans x47).size fun A9 c9 h9 o9 k9 => ?_
        have P7 := oO4.ext x47
        have hob9 := P7.blkKeep k9 hob7 (by decide)
        have hrb9 := P7.blkKeep k9 (x47.blk hrb4) (by decide)
        have hzb9 := P7.blkKeep k9 (x47.blk hzb4) (by decide)
        have x9 : Ext h h9 := k9.ext (x4.trans x47) fun b e => P7.ge b e
        refine ⟨rfl, rfl, canset_blk hob9 rfl, fun h10 s10 => ?_⟩
        refine ⟨(i + 1, A9, c9, ol1 ++ [⟨c.id, c.frm, c.to, c.mark, A', n', (c.c : Int).toNat - Int.toNat 0, c.bs.take 210⟩]), ⟨rfl, rfl, rfl, slot_inc (by omega), trivial⟩, ⟨⟨by show i + 1 ≤ r.on; omega, by show i + 1 ≤ 30; omega, by show (ol1 ++ _).length = i + 1; rw [List.length_append, hlen]; rfl, fun y hy => (List.mem_append.1 hy).elim (hbs y) (fun hy => by obtain rfl := List.mem_singleton.1 hy; exact bnew)⟩, s10.put hob9, ⟨((oC4.ext x47).keepT P7 k9 (by decide)).storeT s10 hob9 (by decide), ((oD4.ext x47).keepT P7 k9 (by decide)).storeT s10 hob9 (by decide), o9.storeT s10 hob9 (by decide)⟩, ((oR4.ext x47).keepT P7 k9 (by decide)).storeT s10 hob9 (by decide), ((oV4.ext x47).keepT P7 k9 (by decide)).storeT s10 hob9 (by decide), s10.blk hrb9 rne, s10.blk hzb9 zne, x9.stored s10 oge⟩, by show r.on - (i + 1) < r.on - i; omega⟩
      · exact ⟨(i, OA, oc, ol1), ⟨rfl, rfl, rfl, trivial⟩, ⟨hi30, hlen, hbs⟩, hob4, ⟨oC4, oD4, oO4⟩, oR4, oV4, hrb4, hzb4, x4⟩
    · exact ⟨(i, OA, oc, ol1), ⟨rfl, rfl, rfl, trivial⟩, ⟨hi30, hlen, hbs⟩, hob4, ⟨oC4, oD4, oO4⟩, oR4, oV4, hrb4, hzb4, x4⟩
  clear hob3 oC3 oD3 oR3 oV3 hrb3 hzb3 x03
  rintro ⟨on, OA, oc, ol1⟩ h3 ⟨⟨ho30, holen, hobs⟩, hob3, ⟨oC3, oD3, oO3⟩, oR3, oV3, hrb3, hzb3, x03⟩
  simp only at ho30 holen hobs hob3 oO3
  refine ⟨_, rfl, reads_all hob3, rfl, rfl, canset_blk hzb3 rfl, fun h9 s9 => ?_⟩
  have hzb9 := s9.fill0 hzb3 rfl
  have x9 : Ext h h9 := x03.stored s9 zge
  obtain ⟨r', hr'⟩ : ∃ r', r' = rpW q A3 c3 B3 d3 LA ln ((r.lc : Int).toNat - Int.toNat 0) (r.log.take 60) CA cn cc cl1 DA dn dc dl1 OA on oc ol1 KA kn ((r.kc : Int).toNat - Int.toNat 0) (r.cnts.take 10) := ⟨_, rfl⟩
  have hrp : r'.plan = q.val A3 c3 B3 d3 := by rw [hr']; rfl
  have finR : ∀ g, Ext hb g → OwnA encCm 3 63 h.size g CA cc cl1 → OwnA encDn 7 68 h.size g DA dc dl1 → OwnA encOt 5 65 h.size g OA oc ol1 → RpOk g r' := fun g x oC oD oO => by
    rw [hr']
    exact ⟨x.row hLr, ln1.1, by have := ln1.2.2; show ln ≤ (r.lc : Int).toNat - Int.toNat 0; omega, ln1.2.1, oC.row encCm_len, hclen, hc12, fun y hy => (hcbs y hy).ext x, oD.row encDn_len, hdlen, hd12, oO.row encOt_len, holen, by show on ≤ oc; have := oO.le; omega, ho30, fun y hy => (hobs y hy).ext x, x.row hKr, kn1.1, kn1.2, fun y hy => (R0.cntsr y (List.mem_of_mem_take hy)).ext x⟩
  have finP : ∀ g, OwnA encRu 2 93 h.size g A3 c3 (fixRules P rules) → OwnA encVl 3 96 h.size g B3 d3 (fixVlans P vls) → PlIn g r' ⟨P, rules, vls, s, tries, ring, normal, short⟩ := fun g oR oV => ⟨A3, c3, B3, d3, by rw [hrp, hq], oR.row encRu_len, oV.row encVl_len⟩
  have oC9 := oC3.storeT s9 hzb3 (by decide)
  have oD9 := oD3.storeT s9 hzb3 (by decide)
  have oO9 := oO3.storeT s9 hzb3 (by decide)
  have oR9 := oR3.storeT s9 hzb3 (by decide)
  have oV9 := oV3.storeT s9 hzb3 (by decide)
  have x09 := x0.trans x9
  refine ⟨_, rfl, reads_all hzb9, r', by rw [hr']; rfl, finR _ x09 oC9 oD9 oO9, finP _ oR9 oV9, fun e he => R.wo e (List.mem_of_mem_take (by rw [hr'] at he; exact he)), by rw [hr']; exact hdl, fun x hx => hn20 x (List.mem_of_mem_take (by rw [hr'] at hx; exact hx)), x9, fun {a vs cs f h2} s hb' ge => ⟨finR _ (x09.stored s ge) (oC9.storeT s hb' (by decide)) (oD9.storeT s hb' (by decide)) (oO9.storeT s hb' (by decide)), finP _ (oR9.storeT s hb' (by decide)) (oV9.storeT s hb' (by decide))⟩⟩
end
end Go.Proofs.YtcjoenkpibhmoaaGreatE
