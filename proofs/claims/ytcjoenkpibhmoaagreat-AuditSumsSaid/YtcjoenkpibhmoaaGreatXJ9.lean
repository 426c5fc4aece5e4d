/- Reports: as the program has them; a few. Conditions: the arguments are of their types. -/
import Derived.Test.YtcjoenkpibhmoaaGreatXJ8
import Derived.Test.YtcjoenkpibhmoaaGreatXJ7
set_option linter.unusedVariables false
set_option linter.unusedSimpArgs false
set_option maxRecDepth 100000
namespace Go.Proofs.YtcjoenkpibhmoaaGreatE
open Go Go.Proofs
def env_l23To : Nat → Ann
  | 1 => ⟨.op 0 [] <| .op 1 [] <| .op 3 [] <| .op 4 [] <| .alt (.op 2 [4] <| .alt (.op 5 [] <| .op 6 [] <| .op 7 [1, 4] <| .op 8 [] <| .nil) (.op 7 [1, 4] <| .op 5 [] <| .op 6 [] <| .op 8 [] <| .nil)) (.op 7 [1, 4] <| .op 2 [4] <| .op 5 [] <| .op 6 [] <| .op 8 [] <| .nil), [0, 1, 3, 0, 8, 31, 63, 0, 255], false⟩
  | 2 => ⟨.nil, [], true⟩
  | 5 => ⟨.op 0 [] <| .op 1 [] <| .op 2 [] <| .op 3 [] <| .op 4 [] <| .op 5 [] <| .op 6 [] <| .op 7 [] <| .op 8 [] <| .op 9 [] <| .op 10 [] <| .op 11 [] <| .op 12 [] <| .op 13 [] <| .op 15 [] <| .op 16 [] <| .op 17 [] <| .op 18 [] <| .op 19 [] <| .op 20 [] <| .op 14 [1, 3, 7, 9, 13, 16, 20] <| .op 21 [1, 3, 7, 9, 13] <| .op 22 [] <| .op 23 [1] <| .op 24 [] <| .op 25 [] <| .op 26 [] <| .nil, [0, 1, 0, 4, 0, 28, 60, 124, 0, 256, 0, 1792, 3840, 7936, 0, 0, 32768, 0, 229376, 491520, 1015808, 2080768, 4194300, 8388604, 16777215, 33554431, 67108863], false⟩
  | 10 => ⟨.op 0 [] <| .op 1 [] <| .op 2 [] <| .op 3 [] <| .op 4 [] <| .op 5 [] <| .op 6 [] <| .op 7 [] <| .op 8 [] <| .op 9 [] <| .op 10 [] <| .op 11 [] <| .op 13 [] <| .op 14 [] <| .op 17 [] <| .op 18 [] <| .alt (.op 12 [1, 3, 5, 7, 9, 11, 14, 18] <| .alt (.op 15 [1, 3, 5, 7, 9, 11, 18] <| .op 16 [1, 3, 5, 7, 9, 11, 14, 18] <| .op 19 [1, 3, 5, 7, 9, 11] <| .op 20 [] <| .op 21 [1] <| .op 22 [] <| .op 23 [] <| .op 24 [] <| .nil) (.op 16 [1, 3, 5, 7, 9, 11, 14, 18] <| .op 15 [1, 3, 5, 7, 9, 11, 18] <| .op 19 [1, 3, 5, 7, 9, 11] <| .op 20 [] <| .op 21 [1] <| .op 22 [] <| .op 23 [] <| .op 24 [] <| .nil)) (.op 16 [1, 3, 5, 7, 9, 11, 14, 18] <| .op 12 [1, 3, 5, 7, 9, 11, 14, 18] <| .op 15 [1, 3, 5, 7, 9, 11, 18] <| .op 19 [1, 3, 5, 7, 9, 11] <| .op 20 [] <| .op 21 [1] <| .op 22 [] <| .op 23 [] <| .op 24 [] <| .nil), [0, 1, 0, 4, 0, 16, 0, 64, 0, 256, 0, 1024, 0, 0, 8192, 28672, 0, 0, 131072, 520192, 1048572, 2097148, 4194303, 8388607, 16777215], false⟩
  | 8 => ⟨.nil, [], true⟩
  | 15 => ⟨.op 0 [] <| .op 1 [] <| .op 2 [] <| .op 3 [] <| .op 4 [] <| .op 5 [] <| .op 6 [] <| .op 7 [] <| .op 8 [] <| .op 9 [] <| .op 11 [] <| .op 12 [] <| .op 10 [1, 3, 5, 7, 9, 12] <| .op 13 [1, 3, 5, 7, 9] <| .op 14 [] <| .op 15 [1] <| .op 16 [] <| .op 17 [] <| .op 18 [] <| .nil, [0, 1, 0, 4, 0, 16, 0, 64, 0, 256, 0, 0, 2048, 7168, 16380, 32764, 65535, 131071, 262143], false⟩
  | _ => ⟨.nil, [], false⟩
section
variable {h : Heap}
theorem cmInfo : (Tryz.prog.info? 71).map (fun i => (i.size, i.bytes)) = some (3, 40) := by kernel_rfl
theorem cmZero : xzero Tryz.prog 71 = some (encCm ⟨0, 0, none, 0, 0, []⟩) := by kernel_rfl
theorem dnInfo : (Tryz.prog.info? 74).map (fun i => (i.size, i.bytes)) = some (7, 88) := by kernel_rfl
theorem dnZero : xzero Tryz.prog 74 = some (encDn dn0) := by kernel_rfl
theorem otInfo : (Tryz.prog.info? 75).map (fun i => (i.size, i.bytes)) = some (5, 56) := by kernel_rfl
theorem otZero : xzero Tryz.prog 75 = some (encOt ⟨0, 0, 0, 0, none, 0, 0, []⟩) := by kernel_rfl
theorem cnInfo : (Tryz.prog.info? 57).map (fun i => (i.size, i.bytes)) = some (6, 48) := by kernel_rfl
theorem cnZero : xzero Tryz.prog 57 = some (encCn cn0) := by kernel_rfl
theorem crInfo : (Tryz.prog.info? 76).map (fun i => (i.size, i.bytes)) = some (1, 24) := by kernel_rfl
theorem crZero : xzero Tryz.prog 76 = some (encCr ⟨none, 0, 0, []⟩) := by kernel_rfl
theorem own_lt {α : Type} {enc : α → List Value} {sz base c b : Nat} {T : TypeId} {A : Option Addr} {xs : List α} (o : OwnA enc sz T base h A c xs) (e : A = some ⟨b, 0, none⟩) : b < h.size := by
  rcases o with ⟨e', _, _⟩ | ⟨b', rest, e', _, hb, _⟩
  · rw [e'] at e; cases e
  · rw [e'] at e; cases e; exact blk_lt hb
/-- A report's plan. -/
structure Qp where
  P : Int
  rules : List Ru
  vls : List Vl
  s : Sz
  tries : Int
  ring : Int
  normal : Int
  short : Int
structure Qp.Ok (q : Qp) : Prop where
  wf : ∀ v ∈ q.vls, SetWf v.mem ∧ SetWf v.unt
def Qp.val (q : Qp) (A : Option Addr) (ca : Nat) (B : Option Addr) (cb : Nat) : List Value :=
  planV (fixPorts q.P) (.slice A (fixRules q.P q.rules).length ca) (.slice B (fixVlans q.P q.vls).length cb) (fixSz q.s) (fixTries q.tries) (fixRing q.ring) q.normal q.short
/-- The plan of a report stands in memory. -/
structure PlIn (h : Heap) (r : Rp) (q : Qp) : Prop where
  at_ : ∃ A ca B cb, r.plan = q.val A ca B cb ∧ Row encRu 2 h A (fixRules q.P q.rules) ∧ Row encVl 3 h B (fixVlans q.P q.vls)
theorem PlIn.ext {h h' : Heap} {r : Rp} {q : Qp} (H : PlIn h r q) (x : Ext h h') : PlIn h' r q := by
  obtain ⟨A, ca, B, cb, e, ra, rb⟩ := H
  exact ⟨A, ca, B, cb, e, x.row ra, x.row rb⟩
structure PlOwn (base : Nat) (h : Heap) (r : Rp) (q : Qp) : Prop where
  at_ : ∃ A ca B cb, r.plan = q.val A ca B cb ∧ OwnA encRu 2 101 base h A ca (fixRules q.P q.rules) ∧ OwnA encVl 3 147 base h B cb (fixVlans q.P q.vls)
/-- A report that a call made: what is its own. -/
structure RpOwn (base : Nat) (h : Heap) (r : Rp) : Prop where
  log : OwnA encHe 19 116 base h r.LA r.lc r.log
  came : OwnA encCm 3 71 base h r.CA r.cc r.came
  cameb : ∀ x ∈ r.came, OwnA encU8 1 5 base h x.A x.c x.bs
  don : OwnA encDn 7 74 base h r.DA r.dc r.don
  outs : OwnA encOt 5 75 base h r.OA r.oc r.outs
  outsb : ∀ x ∈ r.outs, OwnA encU8 1 5 base h x.A x.c x.bs
  cnts : OwnA encCr 1 76 base h r.KA r.kc r.cnts
  cntsb : ∀ x ∈ r.cnts, OwnA encCn 6 57 base h x.A x.c x.l
theorem RpOwn.ext {base : Nat} {h h' : Heap} {r : Rp} (H : RpOwn base h r) (x : Ext h h') : RpOwn base h' r :=
  ⟨H.log.ext x, H.came.ext x, fun y hy => (H.cameb y hy).ext x, H.don.ext x, H.outs.ext x, fun y hy => (H.outsb y hy).ext x, H.cnts.ext x, fun y hy => (H.cntsb y hy).ext x⟩
theorem PlOwn.ext {base : Nat} {h h' : Heap} {r : Rp} {q : Qp} (H : PlOwn base h r q) (x : Ext h h') : PlOwn base h' r q := by
  obtain ⟨A, ca, B, cb, e, ra, rb⟩ := H
  exact ⟨A, ca, B, cb, e, ra.ext x, rb.ext x⟩
/-- Another list is written, of another type. -/
theorem RpOwn.keep {base : Nat} {h h' : Heap} {r : Rp} (H : RpOwn base h r) {β : Type} {enc' : β → List Value} {sz' : Nat} {T' : TypeId} {base' : Nat} {A' : Option Addr} {c' : Nat} {ys : List β} (p : OwnA enc' sz' T' base' h A' c' ys) (k : KeepA A' h h')
    (n1 : (116 : TypeId) ≠ T') (n2 : (71 : TypeId) ≠ T') (n3 : (5 : TypeId) ≠ T') (n4 : (74 : TypeId) ≠ T') (n5 : (75 : TypeId) ≠ T') (n6 : (76 : TypeId) ≠ T') (n7 : (57 : TypeId) ≠ T') : RpOwn base h' r :=
  ⟨H.log.keepT p k n1, H.came.keepT p k n2, fun y hy => (H.cameb y hy).keepT p k n3, H.don.keepT p k n4, H.outs.keepT p k n5, fun y hy => (H.outsb y hy).keepT p k n3, H.cnts.keepT p k n6, fun y hy => (H.cntsb y hy).keepT p k n7⟩
theorem PlOwn.keep {base : Nat} {h h' : Heap} {r : Rp} {q : Qp} (H : PlOwn base h r q) {β : Type} {enc' : β → List Value} {sz' : Nat} {T' : TypeId} {base' : Nat} {A' : Option Addr} {c' : Nat} {ys : List β} (p : OwnA enc' sz' T' base' h A' c' ys) (k : KeepA A' h h')
    (n1 : (101 : TypeId) ≠ T') (n2 : (147 : TypeId) ≠ T') : PlOwn base h' r q := by
  obtain ⟨A, ca, B, cb, e, ra, rb⟩ := H
  exact ⟨A, ca, B, cb, e, ra.keepT p k n1, rb.keepT p k n2⟩
theorem RpOwn.store {base : Nat} {h h' : Heap} {r : Rp} (H : RpOwn base h r) {a : Addr} {vs : List Value} {cs : Array Value} {f : Nat × Nat} {T' : TypeId} (s : Stored h a vs h') (hb : h[a.block]? = some (.cells cs T' f))
    (n1 : (116 : TypeId) ≠ T') (n2 : (71 : TypeId) ≠ T') (n3 : (5 : TypeId) ≠ T') (n4 : (74 : TypeId) ≠ T') (n5 : (75 : TypeId) ≠ T') (n6 : (76 : TypeId) ≠ T') (n7 : (57 : TypeId) ≠ T') : RpOwn base h' r :=
  ⟨H.log.storeT s hb n1, H.came.storeT s hb n2, fun y hy => (H.cameb y hy).storeT s hb n3, H.don.storeT s hb n4, H.outs.storeT s hb n5, fun y hy => (H.outsb y hy).storeT s hb n3, H.cnts.storeT s hb n6, fun y hy => (H.cntsb y hy).storeT s hb n7⟩
theorem PlOwn.store {base : Nat} {h h' : Heap} {r : Rp} {q : Qp} (H : PlOwn base h r q) {a : Addr} {vs : List Value} {cs : Array Value} {f : Nat × Nat} {T' : TypeId} (s : Stored h a vs h') (hb : h[a.block]? = some (.cells cs T' f))
    (n1 : (101 : TypeId) ≠ T') (n2 : (147 : TypeId) ≠ T') : PlOwn base h' r q := by
  obtain ⟨A, ca, B, cb, e, ra, rb⟩ := H
  exact ⟨A, ca, B, cb, e, ra.storeT s hb n1, rb.storeT s hb n2⟩
theorem PlOwn.re {base : Nat} {h : Heap} {r r' : Rp} {q : Qp} (H : PlOwn base h r q) (e : r'.plan = r.plan) : PlOwn base h r' q := by
  obtain ⟨A, ca, B, cb, e', ra, rb⟩ := H
  exact ⟨A, ca, B, cb, e.trans e', ra, rb⟩
def rp0 (q : Qp) (A : Option Addr) (ca : Nat) (B : Option Addr) (cb : Nat) (LA : Option Addr) (ln lc : Nat) (log : List He) : Rp :=
  ⟨fixPorts q.P, .slice A (fixRules q.P q.rules).length ca, .slice B (fixVlans q.P q.vls).length cb, .int .i64 (fixSz q.s).1, .int .i64 (fixSz q.s).2, .int .i64 (fixSz q.s).3, .int .i64 (fixTries q.tries), .int .i64 (fixRing q.ring), .int .u32 q.normal, .int .u32 q.short,
    LA, ln, lc, log, none, 0, 0, [], none, 0, 0, [], none, 0, 0, [], none, 0, 0, []⟩
def rpW (q : Qp) (A : Option Addr) (ca : Nat) (B : Option Addr) (cb : Nat) (LA : Option Addr) (ln lc : Nat) (log : List He) (CA : Option Addr) (cn cc : Nat) (came : List Cm) (DA : Option Addr) (dn dc : Nat) (don : List Dn) (OA : Option Addr) (on oc : Nat) (outs : List Ot) (KA : Option Addr) (kn kc : Nat) (cnts : List Cr) : Rp :=
  ⟨fixPorts q.P, .slice A (fixRules q.P q.rules).length ca, .slice B (fixVlans q.P q.vls).length cb, .int .i64 (fixSz q.s).1, .int .i64 (fixSz q.s).2, .int .i64 (fixSz q.s).3, .int .i64 (fixTries q.tries), .int .i64 (fixRing q.ring), .int .u32 q.normal, .int .u32 q.short,
    LA, ln, lc, log, CA, cn, cc, came, DA, dn, dc, don, OA, on, oc, outs, KA, kn, kc, cnts⟩
theorem rp0_plan (q : Qp) (A : Option Addr) (ca : Nat) (B : Option Addr) (cb : Nat) (LA : Option Addr) (ln lc : Nat) (log : List He) : (rp0 q A ca B cb LA ln lc log).plan = q.val A ca B cb := rfl
def rpz : Rp := ⟨0, .slice none 0 0, .slice none 0 0, .int .i64 0, .int .i64 0, .int .i64 0, .int .i64 0, .int .i64 0, .int .u32 0, .int .u32 0, none, 0, 0, [], none, 0, 0, [], none, 0, 0, [], none, 0, 0, [], none, 0, 0, []⟩
set_option maxHeartbeats 4000000 in
theorem l23To_spec {r : Rp} {q : Qp} (R : RpOk h r) (Q : PlIn h r q) (hd : ∀ d ∈ r.don, d.tA = none ∧ d.tn = 0 ∧ d.fA = none ∧ d.fn = 0) (hrn : ∀ x ∈ r.cnts, x.n ≤ 20) : HCalls Tryz.prog 7 #[.agg (encRp r).toArray] h
    (fun v h' => ∃ r', v = .agg (encRp r').toArray ∧ era r' = era r ∧ RpOwn h.size h' r' ∧ PlOwn h.size h' r' q ∧ Ext h h') := by
  refine xcalls env_l23To Tryz.func7 rfl (by kernel_rfl) rfl (by kernel_rfl) ?_
  intro rb h1 n1 zb h2 n2
  have hrb : h2[rb]? = some (.cells (encRp r).toArray 35 (0, 0)) := n2.ext.blk n1.this
  have hzb : h2[zb]? = some (.cells (encRp rpz).toArray 50 (0, 0)) := n2.this
  have x2 := n1.ext.trans n2.ext
  obtain ⟨A, ca, B, cb, hp, rA, rB⟩ := Q
  have rp : ∀ g : Heap, g[rb]? = some (.cells (encRp r).toArray 35 (0, 0)) → Reads g ⟨rb, 0, none⟩ (q.val A ca B cb) := fun g hg => by
    have : Reads g ⟨rb, 0, none⟩ r.plan := reads_at hg rfl
    rw [hp] at this; exact this
  have hpr := fixPorts_range q.P
  have hvl := fixVlans_len q.P q.vls
  have hrl : (fixRules q.P q.rules).length = (fixPorts q.P).toNat := by unfold fixRules; simp
  have ll := R.logl
  have ls := R.logs
  have rports : r.ports = fixPorts q.P := by
    have := congrArg List.head? hp
    simp only [Rp.plan, Qp.val, planV, List.head?_cons, Option.some.injEq, Value.int.injEq, true_and] at this
    exact this
  have zge : h.size ≤ zb := n2.ge n1.ext
  refine ⟨Nat × Option Addr × Nat × Option Addr × Nat × Option Addr × Nat, fun z => [(1, .pointer (some ⟨rb, 0, none⟩)), (2, .pointer (some ⟨zb, 0, none⟩)), (3, .pointer (some ⟨z.1, 0, none⟩))],
    fun z h' => h'[z.1]? = some (.cells (encRp (rp0 q z.2.1 z.2.2.1 z.2.2.2.1 z.2.2.2.2.1 z.2.2.2.2.2.1 r.ln z.2.2.2.2.2.2 r.log)).toArray 50 (0, 0)) ∧ OwnA encRu 2 101 h.size h' z.2.1 z.2.2.1 (fixRules q.P q.rules) ∧ OwnA encVl 3 147 h.size h' z.2.2.2.1 z.2.2.2.2.1 (fixVlans q.P q.vls) ∧ OwnA encHe 19 116 h.size h' z.2.2.2.2.2.1 z.2.2.2.2.2.2 r.log ∧ Ext h2 h' ∧ zb < z.1, ?_, ?_⟩
  · refine ⟨_, rfl, rp _ hrb, _, cell_blk hrb rfl, ?_, ?_⟩
    · refine (l17To_spec (x2.row rA) rfl (x2.row rB) rfl (by omega) (by omega)).mono ?_
      rintro v h3 ⟨A3, c3, B3, d3, rfl, oR3, oV3, x3⟩
      refine ⟨⟨cell_blk (x3.blk hrb) rfl, trivial⟩, ?_, ?_⟩
      · refine (l18To_spec ((x2.trans x3).row R.log) ll (by omega)).mono ?_
        rintro v h4 ⟨A4, c4, rfl, o4, x4⟩
        intro ob h5 n5
        have x25 := x3.trans (x4.trans n5.ext)
        have oge : h2.size ≤ ob := n5.ge (x3.trans x4)
        refine ⟨⟨cell_blk (x25.blk hrb) rfl, rp _ (x25.blk hrb), trivial⟩, ?_⟩
        refine ⟨rfl, rfl, canset_blk (n5.this) rfl, fun h7 s7 => ?_⟩
        have hob7 : h7[ob]? = some (.cells (encRp (rp0 q A3 c3 B3 d3 A4 r.ln c4 r.log)).toArray 50 (0, 0)) := s7.fill0 (n5.this) rfl
        have zlt := blk_lt hzb
        exact ⟨(ob, A3, c3, B3, d3, A4, c4), ⟨rfl, rfl, rfl, trivial⟩, hob7, ((oR3.mono (x2).size).ext (x4.trans n5.ext)).other s7 (fun b e => by show b ≠ ob; have := own_lt (oR3.ext x4) e; have := n5.at_; omega), ((oV3.mono (x2).size).ext (x4.trans n5.ext)).other s7 (fun b e => by show b ≠ ob; have := own_lt (oV3.ext x4) e; have := n5.at_; omega), ((o4.mono (x2.trans x3).size).ext (n5.ext)).other s7 (fun b e => by show b ≠ ob; have := own_lt o4 e; have := n5.at_; omega), (x25).stored s7 (by show h2.size ≤ ob; omega), by show zb < ob; omega⟩
      · intro ob h4 n4
        have oge : h2.size ≤ ob := n4.ge x3
        refine ⟨⟨cell_blk ((x3.trans n4.ext).blk hrb) rfl, rp _ ((x3.trans n4.ext).blk hrb), trivial⟩, ?_⟩
        refine (l18To_spec ((x2.trans (x3.trans n4.ext)).row R.log) ll (by omega)).mono ?_
        rintro v h5 ⟨A4, c4, rfl, o4, x5⟩
        have olt := blk_lt n4.this
        refine ⟨rfl, rfl, canset_blk (x5.blk n4.this) rfl, fun h7 s7 => ?_⟩
        have hob7 : h7[ob]? = some (.cells (encRp (rp0 q A3 c3 B3 d3 A4 r.ln c4 r.log)).toArray 50 (0, 0)) := s7.fill0 (x5.blk n4.this) rfl
        have zlt := blk_lt hzb
        exact ⟨(ob, A3, c3, B3, d3, A4, c4), ⟨rfl, rfl, rfl, trivial⟩, hob7, ((oR3.mono (x2).size).ext (n4.ext.trans x5)).other s7 (fun b e => by show b ≠ ob; have := own_lt oR3 e; have := n4.at_; omega), ((oV3.mono (x2).size).ext (n4.ext.trans x5)).other s7 (fun b e => by show b ≠ ob; have := own_lt oV3 e; have := n4.at_; omega), ((o4.mono (x2.trans (x3.trans n4.ext)).size).ext (Ext.refl _)).other s7 (fun b e => by show b ≠ ob; have := o4.ge b e; omega), (x3.trans (n4.ext.trans x5)).stored s7 (by show h2.size ≤ ob; omega), by show zb < ob; omega⟩
    · intro ob h3 n3
      have oge : h2.size ≤ ob := n3.ge (Ext.refl _)
      have olt := blk_lt n3.this
      refine ⟨⟨cell_blk (n3.ext.blk hrb) rfl, rp _ (n3.ext.blk hrb), trivial⟩, ?_⟩
      refine (l17To_spec ((x2.trans n3.ext).row rA) rfl ((x2.trans n3.ext).row rB) rfl (by omega) (by omega)).mono ?_
      rintro v h4 ⟨A3, c3, B3, d3, rfl, oR3, oV3, x4⟩
      refine ⟨⟨cell_blk ((n3.ext.trans x4).blk hrb) rfl, trivial⟩, ?_⟩
      refine (l18To_spec ((x2.trans (n3.ext.trans x4)).row R.log) ll (by omega)).mono ?_
      rintro v h5 ⟨A4, c4, rfl, o4, x5⟩
      have olt4 := blk_lt (x4.blk n3.this)
      refine ⟨rfl, rfl, canset_blk ((x4.trans x5).blk n3.this) rfl, fun h7 s7 => ?_⟩
      have hob7 : h7[ob]? = some (.cells (encRp (rp0 q A3 c3 B3 d3 A4 r.ln c4 r.log)).toArray 50 (0, 0)) := s7.fill0 ((x4.trans x5).blk n3.this) rfl
      have zlt := blk_lt hzb
      exact ⟨(ob, A3, c3, B3, d3, A4, c4), ⟨rfl, rfl, rfl, trivial⟩, hob7, ((oR3.mono (x2.trans n3.ext).size).ext (x5)).other s7 (fun b e => by show b ≠ ob; have := oR3.ge b e; omega), ((oV3.mono (x2.trans n3.ext).size).ext (x5)).other s7 (fun b e => by show b ≠ ob; have := oV3.ge b e; omega), ((o4.mono (x2.trans (n3.ext.trans x4)).size).ext (Ext.refl _)).other s7 (fun b e => by show b ≠ ob; have := o4.ge b e; omega), (n3.ext.trans (x4.trans x5)).stored s7 (by show h2.size ≤ ob; omega), by show zb < ob; omega⟩
  rintro ⟨ob, A3, c3, B3, d3, A4, c4⟩ h3 ⟨hob3, oR3, oV3, oL3, x3, zlt⟩
  simp only at hob3 oR3 oV3 oL3 zlt
  have oge : h.size ≤ ob := by omega
  have zne : zb ≠ ob := by omega
  have rne : rb ≠ ob := by have := n2.lt n1.this; omega
  have x03 := x2.trans x3
  have cl := R.camel
  have cs := R.cames
  have dl := R.donl
  have ds := R.dons
  have ol := R.outsl
  have os := R.outss
  have kl := R.cntsl
  have ks := R.cntss
  have hrb3 := x3.blk hrb
  have hzb3 := x3.blk hzb
  have hob3 : h3[ob]? = some (.cells (encRp (rpW q A3 c3 B3 d3 A4 r.ln c4 r.log none 0 0 [] none 0 0 [] none 0 0 [] none 0 0 [])).toArray 50 (0, 0)) := hob3
  have own3 : RpOwn h.size h3 (rpW q A3 c3 B3 d3 A4 r.ln c4 r.log none 0 0 [] none 0 0 [] none 0 0 [] none 0 0 []) := ⟨oL3, .inl ⟨rfl, rfl, rfl⟩, fun x hx => absurd hx List.not_mem_nil, .inl ⟨rfl, rfl, rfl⟩, .inl ⟨rfl, rfl, rfl⟩, fun x hx => absurd hx List.not_mem_nil, .inl ⟨rfl, rfl, rfl⟩, fun x hx => absurd hx List.not_mem_nil⟩
  have pl3 : PlOwn h.size h3 (rpW q A3 c3 B3 d3 A4 r.ln c4 r.log none 0 0 [] none 0 0 [] none 0 0 [] none 0 0 []) q := ⟨A3, c3, B3, d3, rfl, oR3, oV3⟩
  refine ⟨Nat × Option Addr × Nat × List Cm, fun z => [(1, .pointer (some ⟨rb, 0, none⟩)), (2, .pointer (some ⟨zb, 0, none⟩)), (3, .pointer (some ⟨ob, 0, none⟩)), (4, .int .i64 z.1)],
    fun z h' => (z.1 ≤ r.cn ∧ z.2.2.2.length = z.1 ∧ z.2.2.2.map eraC = (r.came.take z.1).map eraC) ∧ h'[ob]? = some (.cells (encRp (rpW q A3 c3 B3 d3 A4 r.ln c4 r.log z.2.1 z.1 z.2.2.1 z.2.2.2 none 0 0 [] none 0 0 [] none 0 0 [])).toArray 50 (0, 0)) ∧ RpOwn h.size h' (rpW q A3 c3 B3 d3 A4 r.ln c4 r.log z.2.1 z.1 z.2.2.1 z.2.2.2 none 0 0 [] none 0 0 [] none 0 0 []) ∧ PlOwn h.size h' (rpW q A3 c3 B3 d3 A4 r.ln c4 r.log z.2.1 z.1 z.2.2.1 z.2.2.2 none 0 0 [] none 0 0 [] none 0 0 []) q ∧ h'[rb]? = some (.cells (encRp r).toArray 35 (0, 0)) ∧ h'[zb]? = some (.cells (encRp rpz).toArray 50 (0, 0)) ∧ Ext h h', fun z => r.cn - z.1, (0, none, 0, []), ⟨rfl, rfl, rfl, rfl, trivial⟩, ⟨⟨Nat.zero_le _, rfl, rfl⟩, hob3, own3, pl3, hrb3, hzb3, x03⟩, ?_⟩
  rintro ⟨i, CA, cc, cl1⟩ h4 ⟨⟨hi, hlen, hera⟩, hob4, own4, pl4, hrb4, hzb4, x4⟩
  simp only at hi hlen hera hob4 own4 pl4
  refine ⟨_, cell_blk hrb4 rfl, ?_⟩
  refine xif_of (fun hlt => ?_) (fun hge => ?_)
  · have hlt : (i : Int) < r.cn := of_decide_eq_true hlt
    obtain ⟨c, hc⟩ : ∃ c, r.came[i]? = some c := ⟨r.came[i]'(by omega), List.getElem?_eq_getElem (by omega)⟩
    obtain ⟨a, hA, crd⟩ := (x4.row R.came) i c hc
    have q0 : cell h4 ((a.add ((i : Int).toNat * 3)).add 0) = some (.int .i64 c.port) := crd.get 0 rfl
    have q1 : cell h4 ((a.add ((i : Int).toNat * 3)).add 1) = some (.int .u32 c.tick) := crd.get 1 rfl
    have q2 : cell h4 ((a.add ((i : Int).toNat * 3)).add 2) = some (.slice c.A c.n c.c) := crd.get 2 rfl
    have bO := R.cameb c (List.mem_of_getElem? hc)
    have few := bO.few
    refine ⟨_, cell_blk hob4 rfl, _, cell_blk hrb4 rfl, a, hA, by omega, hlt, _, q0, _, cell_blk hrb4 rfl, a, hA, by omega, hlt, _, q1, _, cell_blk hrb4 rfl, a, hA, by omega, hlt, _, q2, ?_⟩
    intro ab h5 n5
    have hob5 := n5.ext.blk hob4
    have hrb5 := n5.ext.blk hrb4
    refine ⟨⟨n5.ext.cell q2, cell_blk hrb5 rfl, n5.ext.cell q1, cell_blk hrb5 rfl, n5.ext.cell q0, cell_blk hrb5 rfl, cell_blk hob5 rfl, trivial⟩, ?_⟩
    have oA5 : OwnA encU8 1 5 h4.size h5 (some ⟨ab, 0, none⟩) 0 ([] : List Int) := .inr ⟨ab, [], rfl, n5.ge (Ext.refl _), n5.this, rfl, Nat.le_refl _⟩
    refine xappend_many (xs := []) (ys := c.bs) u8Info u8Zero rfl (by decide) encU8_len encU8_one oA5 rfl bO.len (row_readsOf encU8_len ((x4.trans n5.ext).row bO.row)) (by omega) n5.ext.size fun A6 c6 h6 o6 k6 => ?_
    rw [List.nil_append] at o6
    have x46 : Ext h4 h6 := k6.ext n5.ext fun b e => oA5.ge b e
    have hob6 := x46.blk hob4
    have hrb6 := x46.blk hrb4
    have hzb6 := x46.blk hzb4
    refine ⟨⟨x46.cell q1, cell_blk hrb6 rfl, x46.cell q0, cell_blk hrb6 rfl, cell_blk hob6 rfl, trivial⟩, ?_⟩
    intro eb h7 n7
    refine ⟨⟨cell_blk (n7.ext.blk hob6) rfl, trivial⟩, ?_⟩
    have O6 := own4.ext x46
    have L6 := pl4.ext x46
    have o6' := o6.mono x4.size
    refine xappend_one (x := (⟨c.port, c.tick, A6, 0 + c.n, c6, c.bs⟩ : Cm)) cmInfo cmZero rfl (by decide) encCm_len encCm_one O6.came n7 hlen (by show (i + 1) * 40 ≤ _; omega) (Nat.le_trans x4.size x46.size) fun A8 c8 h8 o8 k8 => ?_
    have hob8 := O6.came.blkKeep k8 hob6 (by decide)
    have hrb8 := O6.came.blkKeep k8 hrb6 (by decide)
    have hzb8 := O6.came.blkKeep k8 hzb6 (by decide)
    have L8 := L6.keep O6.came k8 (by decide) (by decide)
    refine ⟨rfl, rfl, canset_blk hob8 rfl, fun h9 s9 => ?_⟩
    have hob9 : h9[ob]? = some (.cells (encRp (rpW q A3 c3 B3 d3 A4 r.ln c4 r.log A8 (i + 1) c8 (cl1 ++ [⟨c.port, c.tick, A6, 0 + c.n, c6, c.bs⟩]) none 0 0 [] none 0 0 [] none 0 0 [])).toArray 50 (0, 0)) := s9.put hob8
    have own9 : RpOwn h.size h9 (rpW q A3 c3 B3 d3 A4 r.ln c4 r.log A8 (i + 1) c8 (cl1 ++ [⟨c.port, c.tick, A6, 0 + c.n, c6, c.bs⟩]) none 0 0 [] none 0 0 [] none 0 0 []) := ⟨((O6.log).keepT O6.came k8 (by decide)).storeT s9 hob8 (by decide), o8.storeT s9 hob8 (by decide), fun y hy => (List.mem_append.1 hy).elim (fun hy => ((O6.cameb y hy).keepT O6.came k8 (by decide)).storeT s9 hob8 (by decide)) (fun hy => by obtain rfl := List.mem_singleton.1 hy; exact (o6'.keepT O6.came k8 (by decide)).storeT s9 hob8 (by decide)), ((O6.don).keepT O6.came k8 (by decide)).storeT s9 hob8 (by decide), ((O6.outs).keepT O6.came k8 (by decide)).storeT s9 hob8 (by decide), fun y hy => (((O6.outsb) y hy).keepT O6.came k8 (by decide)).storeT s9 hob8 (by decide), ((O6.cnts).keepT O6.came k8 (by decide)).storeT s9 hob8 (by decide), fun y hy => (((O6.cntsb) y hy).keepT O6.came k8 (by decide)).storeT s9 hob8 (by decide)⟩
    have pl9 : PlOwn h.size h9 (rpW q A3 c3 B3 d3 A4 r.ln c4 r.log A8 (i + 1) c8 (cl1 ++ [⟨c.port, c.tick, A6, 0 + c.n, c6, c.bs⟩]) none 0 0 [] none 0 0 [] none 0 0 []) q := (L8.store s9 hob8 (by decide) (by decide)).re rfl
    have x8 : Ext h h8 := k8.ext (x4.trans x46) fun b e => O6.came.ge b e
    refine ⟨(i + 1, A8, c8, cl1 ++ [⟨c.port, c.tick, A6, 0 + c.n, c6, c.bs⟩]), ⟨rfl, rfl, rfl, slot_inc (by omega), trivial⟩, ⟨⟨by show i + 1 ≤ r.cn; omega, by show (cl1 ++ _).length = i + 1; rw [List.length_append, hlen]; rfl, ?_⟩, hob9, own9, pl9, s9.blk hrb8 rne, s9.blk hzb8 zne, x8.stored s9 oge⟩, by show r.cn - (i + 1) < r.cn - i; omega⟩
    show (cl1 ++ _).map eraC = (r.came.take (i + 1)).map eraC
    rw [← take_next hc, List.map_append, List.map_append, hera]; simp [eraC]
  have hge : ¬ (i : Int) < r.cn := of_decide_eq_false hge
  obtain rfl : i = r.cn := by omega
  rw [List.take_of_length_le (by omega)] at hera
  have heraC := hera
  refine ⟨Nat × Option Addr × Nat × List Dn, fun z => [(1, .pointer (some ⟨rb, 0, none⟩)), (2, .pointer (some ⟨zb, 0, none⟩)), (3, .pointer (some ⟨ob, 0, none⟩)), (5, .int .i64 z.1)],
    fun z h' => (z.1 ≤ r.dn ∧ z.2.2.2.length = z.1 ∧ z.2.2.2.map eraD = (r.don.take z.1).map eraD) ∧ h'[ob]? = some (.cells (encRp (rpW q A3 c3 B3 d3 A4 r.ln c4 r.log CA r.cn cc cl1 z.2.1 z.1 z.2.2.1 z.2.2.2 none 0 0 [] none 0 0 [])).toArray 50 (0, 0)) ∧ RpOwn h.size h' (rpW q A3 c3 B3 d3 A4 r.ln c4 r.log CA r.cn cc cl1 z.2.1 z.1 z.2.2.1 z.2.2.2 none 0 0 [] none 0 0 []) ∧ PlOwn h.size h' (rpW q A3 c3 B3 d3 A4 r.ln c4 r.log CA r.cn cc cl1 z.2.1 z.1 z.2.2.1 z.2.2.2 none 0 0 [] none 0 0 []) q ∧ h'[rb]? = some (.cells (encRp r).toArray 35 (0, 0)) ∧ h'[zb]? = some (.cells (encRp rpz).toArray 50 (0, 0)) ∧ Ext h h', fun z => r.dn - z.1, (0, none, 0, []), ⟨rfl, rfl, rfl, rfl, trivial⟩, ⟨⟨Nat.zero_le _, rfl, rfl⟩, hob4, own4, pl4, hrb4, hzb4, x4⟩, ?_⟩
  clear own3 pl3 hob3 own4 pl4 hob4 hrb4 hzb4 x4
  rintro ⟨i, DA, dc, dl1⟩ h4 ⟨⟨hi, hlen, hera⟩, hob4, own4, pl4, hrb4, hzb4, x4⟩
  simp only at hi hlen hera hob4 own4 pl4
  refine ⟨_, cell_blk hrb4 rfl, ?_⟩
  refine xif_of (fun hlt => ?_) (fun hge => ?_)
  · have hlt : (i : Int) < r.dn := of_decide_eq_true hlt
    obtain ⟨d, hdn⟩ : ∃ d, r.don[i]? = some d := ⟨r.don[i]'(by omega), List.getElem?_eq_getElem (by omega)⟩
    obtain ⟨a, hA, drd⟩ := (x4.row R.don) i d hdn
    obtain ⟨z1, z2, z3, z4⟩ := hd d (List.mem_of_getElem? hdn)
    refine ⟨Unit, fun _ => [(1, .pointer (some ⟨rb, 0, none⟩)), (2, .pointer (some ⟨zb, 0, none⟩)), (3, .pointer (some ⟨ob, 0, none⟩)), (5, .int .i64 i)], fun _ h' => ∃ A8 c8 x, eraD x = eraD d ∧ h'[ob]? = some (.cells (encRp (rpW q A3 c3 B3 d3 A4 r.ln c4 r.log CA r.cn cc cl1 A8 (i + 1) c8 (dl1 ++ [x]) none 0 0 [] none 0 0 [])).toArray 50 (0, 0)) ∧ RpOwn h.size h' (rpW q A3 c3 B3 d3 A4 r.ln c4 r.log CA r.cn cc cl1 A8 (i + 1) c8 (dl1 ++ [x]) none 0 0 [] none 0 0 []) ∧ PlOwn h.size h' (rpW q A3 c3 B3 d3 A4 r.ln c4 r.log CA r.cn cc cl1 A8 (i + 1) c8 (dl1 ++ [x]) none 0 0 [] none 0 0 []) q ∧ h'[rb]? = some (.cells (encRp r).toArray 35 (0, 0)) ∧ h'[zb]? = some (.cells (encRp rpz).toArray 50 (0, 0)) ∧ Ext h h', ?_, ?_⟩
    · refine ⟨_, cell_blk hrb4 rfl, a, hA, by omega, hlt, encDn d, rfl, drd, ?_⟩
      intro db h5 n5
      refine ⟨rfl, rfl, canset_blk n5.this rfl, fun h6 s6 => ?_⟩
      have hdb : h6[db]? = some (.cells (encDn d).toArray 68 (0, 0)) := n5.fill rfl s6
      have x46 : Ext h4 h6 := n5.ext.stored s6 (n5.ge (Ext.refl _))
      have hob6 := x46.blk hob4
      refine ⟨_, cell_blk hob6 rfl, _, cell_blk hdb rfl, _, cell_blk hdb rfl, _, cell_blk hdb rfl, _, cell_blk hdb rfl, _, cell_blk hdb rfl, _, cell_blk hdb rfl, _, cell_blk hdb rfl, ?_⟩
      refine ⟨?_, ?_⟩
      · intro bA g1 m1
        have y1 : Ext h6 g1 := (Ext.refl h6).trans m1.ext
        have geA : h6.size ≤ bA := m1.ge (Ext.refl _)
        have hbA1 : g1[bA]? = some (.cells ([] : List Value).toArray 3 (0, 0)) := m1.this
        have hdb1 := y1.blk hdb
        have hob1 := y1.blk hob6
        refine ⟨⟨cell_blk hdb1 rfl, cell_blk hdb1 rfl, cell_blk hdb1 rfl, cell_blk hdb1 rfl, cell_blk hdb1 rfl, cell_blk hdb1 rfl, cell_blk hdb1 rfl, cell_blk hob1 rfl, trivial⟩, ?_, ?_⟩
        · have ow2 : OwnA encI 1 3 0 g1 (some ⟨bA, 0, none⟩) 0 ([] : List Int) := .inr ⟨bA, [], rfl, Nat.zero_le _, hbA1, rfl, Nat.le_refl _⟩
          refine xappend_many (xs := []) (ys := ([] : List Int)) intInfo intZero rfl (by decide) encI_len encI_one ow2 rfl z2.symm (by rw [z1]; rfl) (by rw [z2]; decide) (Nat.zero_le _) fun A5 c5 g2 _ kk2 => ?_
          have y2 : Ext h6 g2 := kk2.ext y1 fun b e => by cases e; exact geA
          have hdb2 := y2.blk hdb
          have hob2 := y2.blk hob6
          refine ⟨⟨cell_blk hdb2 rfl, cell_blk hdb2 rfl, cell_blk hdb2 rfl, cell_blk hdb2 rfl, cell_blk hdb2 rfl, cell_blk hdb2 rfl, cell_blk hob2 rfl, trivial⟩, ?_⟩
          intro bB g3 m3
          have y3 : Ext h6 g3 := y2.trans m3.ext
          have geB : h6.size ≤ bB := m3.ge y2
          have hbB3 : g3[bB]? = some (.cells ([] : List Value).toArray 3 (0, 0)) := m3.this
          have hdb3 := y3.blk hdb
          have hob3 := y3.blk hob6
          refine ⟨⟨cell_blk hdb3 rfl, cell_blk hdb3 rfl, cell_blk hdb3 rfl, cell_blk hdb3 rfl, cell_blk hdb3 rfl, cell_blk hdb3 rfl, cell_blk hdb3 rfl, cell_blk hob3 rfl, trivial⟩, ?_⟩
          have ow4 : OwnA encI 1 3 0 g3 (some ⟨bB, 0, none⟩) 0 ([] : List Int) := .inr ⟨bB, [], rfl, Nat.zero_le _, hbB3, rfl, Nat.le_refl _⟩
          refine xappend_many (xs := []) (ys := ([] : List Int)) intInfo intZero rfl (by decide) encI_len encI_one ow4 rfl z4.symm (by rw [z3]; rfl) (by rw [z4]; decide) (Nat.zero_le _) fun A6 c6 g4 _ kk4 => ?_
          have y4 : Ext h6 g4 := kk4.ext y3 fun b e => by cases e; exact geB
          have hdb4 := y4.blk hdb
          have hob4 := y4.blk hob6
          refine ⟨⟨cell_blk hdb4 rfl, cell_blk hdb4 rfl, cell_blk hdb4 rfl, cell_blk hdb4 rfl, cell_blk hdb4 rfl, cell_blk hob4 rfl, trivial⟩, ?_⟩
          intro eb g5 m5
          have y5 : Ext h6 g5 := y4.trans m5.ext
          refine ⟨⟨cell_blk (y5.blk hob6) rfl, trivial⟩, ?_⟩
          have x4k : Ext h4 g4 := x46.trans y4
          have O6 := own4.ext x4k
          have L6 := pl4.ext x4k
          refine xappend_one (x := (⟨d.id, d.why, d.vid, d.learned, d.found, A5, 0 + d.tn, c5, A6, 0 + d.fn, c6⟩ : Dn)) dnInfo dnZero rfl (by decide) encDn_len encDn_one O6.don m5 hlen (by show (i + 1) * 88 ≤ _; omega) (Nat.le_trans x4.size x4k.size) fun A8 c8 h8 o8 k8 => ?_
          have hob8 := O6.don.blkKeep k8 hob4 (by decide)
          have hrb8 := O6.don.blkKeep k8 (x4k.blk hrb4) (by decide)
          have hzb8 := O6.don.blkKeep k8 (x4k.blk hzb4) (by decide)
          have L8 := L6.keep O6.don k8 (by decide) (by decide)
          have x8 : Ext h h8 := k8.ext (x4.trans x4k) fun b e => O6.don.ge b e
          refine ⟨rfl, rfl, canset_blk hob8 rfl, fun h9 s9 => ?_⟩
          have hob9 : h9[ob]? = some (.cells (encRp (rpW q A3 c3 B3 d3 A4 r.ln c4 r.log CA r.cn cc cl1 A8 (i + 1) c8 (dl1 ++ [⟨d.id, d.why, d.vid, d.learned, d.found, A5, 0 + d.tn, c5, A6, 0 + d.fn, c6⟩]) none 0 0 [] none 0 0 [])).toArray 50 (0, 0)) := s9.put hob8
          have own9 : RpOwn h.size h9 (rpW q A3 c3 B3 d3 A4 r.ln c4 r.log CA r.cn cc cl1 A8 (i + 1) c8 (dl1 ++ [⟨d.id, d.why, d.vid, d.learned, d.found, A5, 0 + d.tn, c5, A6, 0 + d.fn, c6⟩]) none 0 0 [] none 0 0 []) := ⟨((O6.log).keepT O6.don k8 (by decide)).storeT s9 hob8 (by decide), ((O6.came).keepT O6.don k8 (by decide)).storeT s9 hob8 (by decide), fun y hy => (((O6.cameb) y hy).keepT O6.don k8 (by decide)).storeT s9 hob8 (by decide), o8.storeT s9 hob8 (by decide), ((O6.outs).keepT O6.don k8 (by decide)).storeT s9 hob8 (by decide), fun y hy => (((O6.outsb) y hy).keepT O6.don k8 (by decide)).storeT s9 hob8 (by decide), ((O6.cnts).keepT O6.don k8 (by decide)).storeT s9 hob8 (by decide), fun y hy => (((O6.cntsb) y hy).keepT O6.don k8 (by decide)).storeT s9 hob8 (by decide)⟩
          exact ⟨(), ⟨rfl, rfl, rfl, rfl, trivial⟩, A8, c8, _, by unfold eraD; rfl, hob9, own9, (L8.store s9 hob8 (by decide) (by decide)).re rfl, s9.blk hrb8 rne, s9.blk hzb8 zne, x8.stored s9 oge⟩
        · intro bB g2 m2
          have y2 : Ext h6 g2 := y1.trans m2.ext
          have geB : h6.size ≤ bB := m2.ge y1
          have hbB2 : g2[bB]? = some (.cells ([] : List Value).toArray 3 (0, 0)) := m2.this
          have hbA2 := m2.ext.blk hbA1
          have nnAB : bA ≠ bB := by have := m2.lt hbA1; omega
          have hdb2 := y2.blk hdb
          have hob2 := y2.blk hob6
          refine ⟨⟨cell_blk hdb2 rfl, cell_blk hdb2 rfl, cell_blk hdb2 rfl, cell_blk hdb2 rfl, cell_blk hdb2 rfl, cell_blk hdb2 rfl, cell_blk hdb2 rfl, cell_blk hob2 rfl, trivial⟩, ?_⟩
          have ow3 : OwnA encI 1 3 0 g2 (some ⟨bA, 0, none⟩) 0 ([] : List Int) := .inr ⟨bA, [], rfl, Nat.zero_le _, hbA2, rfl, Nat.le_refl _⟩
          refine xappend_many (xs := []) (ys := ([] : List Int)) intInfo intZero rfl (by decide) encI_len encI_one ow3 rfl z2.symm (by rw [z1]; rfl) (by rw [z2]; decide) (Nat.zero_le _) fun A5 c5 g3 _ kk3 => ?_
          have y3 : Ext h6 g3 := kk3.ext y2 fun b e => by cases e; exact geA
          have hbB3 : g3[bB]? = some (.cells ([] : List Value).toArray 3 (0, 0)) := kk3.blk hbB2 (fun e => by cases e; omega)
          have hdb3 := y3.blk hdb
          have hob3 := y3.blk hob6
          refine ⟨⟨cell_blk hdb3 rfl, cell_blk hdb3 rfl, cell_blk hdb3 rfl, cell_blk hdb3 rfl, cell_blk hdb3 rfl, cell_blk hdb3 rfl, cell_blk hob3 rfl, trivial⟩, ?_⟩
          have ow4 : OwnA encI 1 3 0 g3 (some ⟨bB, 0, none⟩) 0 ([] : List Int) := .inr ⟨bB, [], rfl, Nat.zero_le _, hbB3, rfl, Nat.le_refl _⟩
          refine xappend_many (xs := []) (ys := ([] : List Int)) intInfo intZero rfl (by decide) encI_len encI_one ow4 rfl z4.symm (by rw [z3]; rfl) (by rw [z4]; decide) (Nat.zero_le _) fun A6 c6 g4 _ kk4 => ?_
          have y4 : Ext h6 g4 := kk4.ext y3 fun b e => by cases e; exact geB
          have hdb4 := y4.blk hdb
          have hob4 := y4.blk hob6
          refine ⟨⟨cell_blk hdb4 rfl, cell_blk hdb4 rfl, cell_blk hdb4 rfl, cell_blk hdb4 rfl, cell_blk hdb4 rfl, cell_blk hob4 rfl, trivial⟩, ?_⟩
          intro eb g5 m5
          have y5 : Ext h6 g5 := y4.trans m5.ext
          refine ⟨⟨cell_blk (y5.blk hob6) rfl, trivial⟩, ?_⟩
          have x4k : Ext h4 g4 := x46.trans y4
          have O6 := own4.ext x4k
          have L6 := pl4.ext x4k
          refine xappend_one (x := (⟨d.id, d.why, d.vid, d.learned, d.found, A5, 0 + d.tn, c5, A6, 0 + d.fn, c6⟩ : Dn)) dnInfo dnZero rfl (by decide) encDn_len encDn_one O6.don m5 hlen (by show (i + 1) * 88 ≤ _; omega) (Nat.le_trans x4.size x4k.size) fun A8 c8 h8 o8 k8 => ?_
          have hob8 := O6.don.blkKeep k8 hob4 (by decide)
          have hrb8 := O6.don.blkKeep k8 (x4k.blk hrb4) (by decide)
          have hzb8 := O6.don.blkKeep k8 (x4k.blk hzb4) (by decide)
          have L8 := L6.keep O6.don k8 (by decide) (by decide)
          have x8 : Ext h h8 := k8.ext (x4.trans x4k) fun b e => O6.don.ge b e
          refine ⟨rfl, rfl, canset_blk hob8 rfl, fun h9 s9 => ?_⟩
          have hob9 : h9[ob]? = some (.cells (encRp (rpW q A3 c3 B3 d3 A4 r.ln c4 r.log CA r.cn cc cl1 A8 (i + 1) c8 (dl1 ++ [⟨d.id, d.why, d.vid, d.learned, d.found, A5, 0 + d.tn, c5, A6, 0 + d.fn, c6⟩]) none 0 0 [] none 0 0 [])).toArray 50 (0, 0)) := s9.put hob8
          have own9 : RpOwn h.size h9 (rpW q A3 c3 B3 d3 A4 r.ln c4 r.log CA r.cn cc cl1 A8 (i + 1) c8 (dl1 ++ [⟨d.id, d.why, d.vid, d.learned, d.found, A5, 0 + d.tn, c5, A6, 0 + d.fn, c6⟩]) none 0 0 [] none 0 0 []) := ⟨((O6.log).keepT O6.don k8 (by decide)).storeT s9 hob8 (by decide), ((O6.came).keepT O6.don k8 (by decide)).storeT s9 hob8 (by decide), fun y hy => (((O6.cameb) y hy).keepT O6.don k8 (by decide)).storeT s9 hob8 (by decide), o8.storeT s9 hob8 (by decide), ((O6.outs).keepT O6.don k8 (by decide)).storeT s9 hob8 (by decide), fun y hy => (((O6.outsb) y hy).keepT O6.don k8 (by decide)).storeT s9 hob8 (by decide), ((O6.cnts).keepT O6.don k8 (by decide)).storeT s9 hob8 (by decide), fun y hy => (((O6.cntsb) y hy).keepT O6.don k8 (by decide)).storeT s9 hob8 (by decide)⟩
          exact ⟨(), ⟨rfl, rfl, rfl, rfl, trivial⟩, A8, c8, _, by unfold eraD; rfl, hob9, own9, (L8.store s9 hob8 (by decide) (by decide)).re rfl, s9.blk hrb8 rne, s9.blk hzb8 zne, x8.stored s9 oge⟩
      · intro bB g1 m1
        have y1 : Ext h6 g1 := (Ext.refl h6).trans m1.ext
        have geB : h6.size ≤ bB := m1.ge (Ext.refl _)
        have hbB1 : g1[bB]? = some (.cells ([] : List Value).toArray 3 (0, 0)) := m1.this
        have hdb1 := y1.blk hdb
        have hob1 := y1.blk hob6
        refine ⟨⟨cell_blk hdb1 rfl, cell_blk hdb1 rfl, cell_blk hdb1 rfl, cell_blk hdb1 rfl, cell_blk hdb1 rfl, cell_blk hdb1 rfl, cell_blk hdb1 rfl, cell_blk hob1 rfl, trivial⟩, ?_⟩
        intro bA g2 m2
        have y2 : Ext h6 g2 := y1.trans m2.ext
        have geA : h6.size ≤ bA := m2.ge y1
        have hbA2 : g2[bA]? = some (.cells ([] : List Value).toArray 3 (0, 0)) := m2.this
        have hbB2 := m2.ext.blk hbB1
        have nnBA : bB ≠ bA := by have := m2.lt hbB1; omega
        have hdb2 := y2.blk hdb
        have hob2 := y2.blk hob6
        refine ⟨⟨cell_blk hdb2 rfl, cell_blk hdb2 rfl, cell_blk hdb2 rfl, cell_blk hdb2 rfl, cell_blk hdb2 rfl, cell_blk hdb2 rfl, cell_blk hdb2 rfl, cell_blk hob2 rfl, trivial⟩, ?_⟩
        have ow3 : OwnA encI 1 3 0 g2 (some ⟨bA, 0, none⟩) 0 ([] : List Int) := .inr ⟨bA, [], rfl, Nat.zero_le _, hbA2, rfl, Nat.le_refl _⟩
        refine xappend_many (xs := []) (ys := ([] : List Int)) intInfo intZero rfl (by decide) encI_len encI_one ow3 rfl z2.symm (by rw [z1]; rfl) (by rw [z2]; decide) (Nat.zero_le _) fun A5 c5 g3 _ kk3 => ?_
        have y3 : Ext h6 g3 := kk3.ext y2 fun b e => by cases e; exact geA
        have hbB3 : g3[bB]? = some (.cells ([] : List Value).toArray 3 (0, 0)) := kk3.blk hbB2 (fun e => by cases e; omega)
        have hdb3 := y3.blk hdb
        have hob3 := y3.blk hob6
        refine ⟨⟨cell_blk hdb3 rfl, cell_blk hdb3 rfl, cell_blk hdb3 rfl, cell_blk hdb3 rfl, cell_blk hdb3 rfl, cell_blk hdb3 rfl, cell_blk hob3 rfl, trivial⟩, ?_⟩
        have ow4 : OwnA encI 1 3 0 g3 (some ⟨bB, 0, none⟩) 0 ([] : List Int) := .inr ⟨bB, [], rfl, Nat.zero_le _, hbB3, rfl, Nat.le_refl _⟩
        refine xappend_many (xs := []) (ys := ([] : List Int)) intInfo intZero rfl (by decide) encI_len encI_one ow4 rfl z4.symm (by rw [z3]; rfl) (by rw [z4]; decide) (Nat.zero_le _) fun A6 c6 g4 _ kk4 => ?_
        have y4 : Ext h6 g4 := kk4.ext y3 fun b e => by cases e; exact geB
        have hdb4 := y4.blk hdb
        have hob4 := y4.blk hob6
        refine ⟨⟨cell_blk hdb4 rfl, cell_blk hdb4 rfl, cell_blk hdb4 rfl, cell_blk hdb4 rfl, cell_blk hdb4 rfl, cell_blk hob4 rfl, trivial⟩, ?_⟩
        intro eb g5 m5
        have y5 : Ext h6 g5 := y4.trans m5.ext
        refine ⟨⟨cell_blk (y5.blk hob6) rfl, trivial⟩, ?_⟩
        have x4k : Ext h4 g4 := x46.trans y4
        have O6 := own4.ext x4k
        have L6 := pl4.ext x4k
        refine xappend_one (x := (⟨d.id, d.why, d.vid, d.learned, d.found, A5, 0 + d.tn, c5, A6, 0 + d.fn, c6⟩ : Dn)) dnInfo dnZero rfl (by decide) encDn_len encDn_one O6.don m5 hlen (by show (i + 1) * 88 ≤ _; omega) (Nat.le_trans x4.size x4k.size) fun A8 c8 h8 o8 k8 => ?_
        have hob8 := O6.don.blkKeep k8 hob4 (by decide)
        have hrb8 := O6.don.blkKeep k8 (x4k.blk hrb4) (by decide)
        have hzb8 := O6.don.blkKeep k8 (x4k.blk hzb4) (by decide)
        have L8 := L6.keep O6.don k8 (by decide) (by decide)
        have x8 : Ext h h8 := k8.ext (x4.trans x4k) fun b e => O6.don.ge b e
        refine ⟨rfl, rfl, canset_blk hob8 rfl, fun h9 s9 => ?_⟩
        have hob9 : h9[ob]? = some (.cells (encRp (rpW q A3 c3 B3 d3 A4 r.ln c4 r.log CA r.cn cc cl1 A8 (i + 1) c8 (dl1 ++ [⟨d.id, d.why, d.vid, d.learned, d.found, A5, 0 + d.tn, c5, A6, 0 + d.fn, c6⟩]) none 0 0 [] none 0 0 [])).toArray 50 (0, 0)) := s9.put hob8
        have own9 : RpOwn h.size h9 (rpW q A3 c3 B3 d3 A4 r.ln c4 r.log CA r.cn cc cl1 A8 (i + 1) c8 (dl1 ++ [⟨d.id, d.why, d.vid, d.learned, d.found, A5, 0 + d.tn, c5, A6, 0 + d.fn, c6⟩]) none 0 0 [] none 0 0 []) := ⟨((O6.log).keepT O6.don k8 (by decide)).storeT s9 hob8 (by decide), ((O6.came).keepT O6.don k8 (by decide)).storeT s9 hob8 (by decide), fun y hy => (((O6.cameb) y hy).keepT O6.don k8 (by decide)).storeT s9 hob8 (by decide), o8.storeT s9 hob8 (by decide), ((O6.outs).keepT O6.don k8 (by decide)).storeT s9 hob8 (by decide), fun y hy => (((O6.outsb) y hy).keepT O6.don k8 (by decide)).storeT s9 hob8 (by decide), ((O6.cnts).keepT O6.don k8 (by decide)).storeT s9 hob8 (by decide), fun y hy => (((O6.cntsb) y hy).keepT O6.don k8 (by decide)).storeT s9 hob8 (by decide)⟩
        exact ⟨(), ⟨rfl, rfl, rfl, rfl, trivial⟩, A8, c8, _, by unfold eraD; rfl, hob9, own9, (L8.store s9 hob8 (by decide) (by decide)).re rfl, s9.blk hrb8 rne, s9.blk hzb8 zne, x8.stored s9 oge⟩
    rintro _ h9 ⟨A8, c8, x, hex, hob9, own9, pl9, hrb9, hzb9, x9⟩
    refine ⟨(i + 1, A8, c8, dl1 ++ [x]), ⟨rfl, rfl, rfl, slot_inc (by omega), trivial⟩, ⟨⟨by show i + 1 ≤ r.dn; omega, by show (dl1 ++ _).length = i + 1; rw [List.length_append, hlen]; rfl, ?_⟩, hob9, own9, pl9, hrb9, hzb9, x9⟩, by show r.dn - (i + 1) < r.dn - i; omega⟩
    show (dl1 ++ _).map eraD = (r.don.take (i + 1)).map eraD
    rw [← take_next hdn, List.map_append, List.map_append, hera, List.map_singleton, hex]; rfl
  have hge : ¬ (i : Int) < r.dn := of_decide_eq_false hge
  obtain rfl : i = r.dn := by omega
  rw [List.take_of_length_le (by omega)] at hera
  have heraD := hera
  refine ⟨Nat × Option Addr × Nat × List Ot, fun z => [(1, .pointer (some ⟨rb, 0, none⟩)), (2, .pointer (some ⟨zb, 0, none⟩)), (3, .pointer (some ⟨ob, 0, none⟩)), (7, .int .i64 z.1)],
    fun z h' => (z.1 ≤ r.on ∧ z.2.2.2.length = z.1 ∧ z.2.2.2.map eraO = (r.outs.take z.1).map eraO) ∧ h'[ob]? = some (.cells (encRp (rpW q A3 c3 B3 d3 A4 r.ln c4 r.log CA r.cn cc cl1 DA r.dn dc dl1 z.2.1 z.1 z.2.2.1 z.2.2.2 none 0 0 [])).toArray 50 (0, 0)) ∧ RpOwn h.size h' (rpW q A3 c3 B3 d3 A4 r.ln c4 r.log CA r.cn cc cl1 DA r.dn dc dl1 z.2.1 z.1 z.2.2.1 z.2.2.2 none 0 0 []) ∧ PlOwn h.size h' (rpW q A3 c3 B3 d3 A4 r.ln c4 r.log CA r.cn cc cl1 DA r.dn dc dl1 z.2.1 z.1 z.2.2.1 z.2.2.2 none 0 0 []) q ∧ h'[rb]? = some (.cells (encRp r).toArray 35 (0, 0)) ∧ h'[zb]? = some (.cells (encRp rpz).toArray 50 (0, 0)) ∧ Ext h h', fun z => r.on - z.1, (0, none, 0, []), ⟨rfl, rfl, rfl, rfl, trivial⟩, ⟨⟨Nat.zero_le _, rfl, rfl⟩, hob4, own4, pl4, hrb4, hzb4, x4⟩, ?_⟩
  clear own4 pl4 hob4 hrb4 hzb4 x4
  rintro ⟨i, OA, oc, ol1⟩ h4 ⟨⟨hi, hlen, hera⟩, hob4, own4, pl4, hrb4, hzb4, x4⟩
  simp only at hi hlen hera hob4 own4 pl4
  refine ⟨_, cell_blk hrb4 rfl, ?_⟩
  refine xif_of (fun hlt => ?_) (fun hge => ?_)
  · have hlt : (i : Int) < r.on := of_decide_eq_true hlt
    obtain ⟨o, ho⟩ : ∃ o, r.outs[i]? = some o := ⟨r.outs[i]'(by omega), List.getElem?_eq_getElem (by omega)⟩
    obtain ⟨a, hA, i0, i1, hl5, ord⟩ := out_at (R.ext x4) ho
    have bO := R.outsb o (List.mem_of_getElem? ho)
    have few := bO.few
    refine ⟨_, cell_blk hrb4 rfl, a, hA, i0, i1, _, hl5, ord, ?_⟩
    intro xb h5 n5
    refine ⟨rfl, rfl, canset_blk n5.this rfl, fun h6 s6 => ?_⟩
    have hxb : h6[xb]? = some (.cells (encOt o).toArray 65 (0, 0)) := n5.fill rfl s6
    have x46 : Ext h4 h6 := n5.ext.stored s6 (n5.ge (Ext.refl _))
    have hob6 := x46.blk hob4
    refine ⟨_, cell_blk hob6 rfl, _, cell_blk hxb rfl, _, cell_blk hxb rfl, _, cell_blk hxb rfl, _, cell_blk hxb rfl, _, cell_blk hxb rfl, ?_⟩
    intro ab h7 n7
    have hob7 := n7.ext.blk hob6
    have hxb7 := n7.ext.blk hxb
    refine ⟨⟨cell_blk hxb7 rfl, cell_blk hxb7 rfl, cell_blk hxb7 rfl, cell_blk hxb7 rfl, cell_blk hxb7 rfl, cell_blk hob7 rfl, trivial⟩, ?_⟩
    have oA7 : OwnA encU8 1 5 h6.size h7 (some ⟨ab, 0, none⟩) 0 ([] : List Int) := .inr ⟨ab, [], rfl, n7.ge (Ext.refl _), n7.this, rfl, Nat.le_refl _⟩
    refine xappend_many (xs := []) (ys := o.bs) u8Info u8Zero rfl (by decide) encU8_len encU8_one oA7 rfl bO.len (row_readsOf encU8_len ((x4.trans (x46.trans n7.ext)).row bO.row)) (by omega) n7.ext.size fun A6 c6 g8 o6 k6 => ?_
    rw [List.nil_append] at o6
    have x48 : Ext h4 g8 := x46.trans (k6.ext n7.ext fun b e => oA7.ge b e)
    have x68 : Ext h6 g8 := k6.ext n7.ext fun b e => oA7.ge b e
    have hob8' := x68.blk hob6
    have hxb8 := x68.blk hxb
    refine ⟨⟨cell_blk hxb8 rfl, cell_blk hxb8 rfl, cell_blk hxb8 rfl, cell_blk hxb8 rfl, cell_blk hob8' rfl, trivial⟩, ?_⟩
    intro eb g9 n9
    refine ⟨⟨cell_blk (n9.ext.blk hob8') rfl, trivial⟩, ?_⟩
    have O6 := own4.ext x48
    have L6 := pl4.ext x48
    have o6' := o6.mono (Nat.le_trans x4.size x46.size)
    refine xappend_one (x := (⟨o.id, o.frm, o.to, o.mark, A6, 0 + o.n, c6, o.bs⟩ : Ot)) otInfo otZero rfl (by decide) encOt_len encOt_one O6.outs n9 hlen (by show (i + 1) * 56 ≤ _; omega) (Nat.le_trans x4.size x48.size) fun A8 c8 h8 o8 k8 => ?_
    have hob8 := O6.outs.blkKeep k8 hob8' (by decide)
    have hrb8 := O6.outs.blkKeep k8 (x48.blk hrb4) (by decide)
    have hzb8 := O6.outs.blkKeep k8 (x48.blk hzb4) (by decide)
    have L8 := L6.keep O6.outs k8 (by decide) (by decide)
    refine ⟨rfl, rfl, canset_blk hob8 rfl, fun h9 s9 => ?_⟩
    have hob9 : h9[ob]? = some (.cells (encRp (rpW q A3 c3 B3 d3 A4 r.ln c4 r.log CA r.cn cc cl1 DA r.dn dc dl1 A8 (i + 1) c8 (ol1 ++ [⟨o.id, o.frm, o.to, o.mark, A6, 0 + o.n, c6, o.bs⟩]) none 0 0 [])).toArray 50 (0, 0)) := s9.put hob8
    have own9 : RpOwn h.size h9 (rpW q A3 c3 B3 d3 A4 r.ln c4 r.log CA r.cn cc cl1 DA r.dn dc dl1 A8 (i + 1) c8 (ol1 ++ [⟨o.id, o.frm, o.to, o.mark, A6, 0 + o.n, c6, o.bs⟩]) none 0 0 []) := ⟨((O6.log).keepT O6.outs k8 (by decide)).storeT s9 hob8 (by decide), ((O6.came).keepT O6.outs k8 (by decide)).storeT s9 hob8 (by decide), fun y hy => (((O6.cameb) y hy).keepT O6.outs k8 (by decide)).storeT s9 hob8 (by decide), ((O6.don).keepT O6.outs k8 (by decide)).storeT s9 hob8 (by decide), o8.storeT s9 hob8 (by decide), fun y hy => (List.mem_append.1 hy).elim (fun hy => ((O6.outsb y hy).keepT O6.outs k8 (by decide)).storeT s9 hob8 (by decide)) (fun hy => by obtain rfl := List.mem_singleton.1 hy; exact (o6'.keepT O6.outs k8 (by decide)).storeT s9 hob8 (by decide)), ((O6.cnts).keepT O6.outs k8 (by decide)).storeT s9 hob8 (by decide), fun y hy => (((O6.cntsb) y hy).keepT O6.outs k8 (by decide)).storeT s9 hob8 (by decide)⟩
    have x8 : Ext h h8 := k8.ext (x4.trans x48) fun b e => O6.outs.ge b e
    refine ⟨(i + 1, A8, c8, ol1 ++ [⟨o.id, o.frm, o.to, o.mark, A6, 0 + o.n, c6, o.bs⟩]), ⟨rfl, rfl, rfl, slot_inc (by omega), trivial⟩, ⟨⟨by show i + 1 ≤ r.on; omega, by show (ol1 ++ _).length = i + 1; rw [List.length_append, hlen]; rfl, ?_⟩, hob9, own9, (L8.store s9 hob8 (by decide) (by decide)).re rfl, s9.blk hrb8 rne, s9.blk hzb8 zne, x8.stored s9 oge⟩, by show r.on - (i + 1) < r.on - i; omega⟩
    show (ol1 ++ _).map eraO = (r.outs.take (i + 1)).map eraO
    rw [← take_next ho, List.map_append, List.map_append, hera]; simp [eraO]
  have hge : ¬ (i : Int) < r.on := of_decide_eq_false hge
  obtain rfl : i = r.on := by omega
  rw [List.take_of_length_le (by omega)] at hera
  have heraO := hera
  refine ⟨Nat × Option Addr × Nat × List Cr, fun z => [(1, .pointer (some ⟨rb, 0, none⟩)), (2, .pointer (some ⟨zb, 0, none⟩)), (3, .pointer (some ⟨ob, 0, none⟩)), (9, .int .i64 z.1)],
    fun z h' => (z.1 ≤ r.kn ∧ z.2.2.2.length = z.1 ∧ z.2.2.2.map eraR = (r.cnts.take z.1).map eraR) ∧ h'[ob]? = some (.cells (encRp (rpW q A3 c3 B3 d3 A4 r.ln c4 r.log CA r.cn cc cl1 DA r.dn dc dl1 OA r.on oc ol1 z.2.1 z.1 z.2.2.1 z.2.2.2)).toArray 50 (0, 0)) ∧ RpOwn h.size h' (rpW q A3 c3 B3 d3 A4 r.ln c4 r.log CA r.cn cc cl1 DA r.dn dc dl1 OA r.on oc ol1 z.2.1 z.1 z.2.2.1 z.2.2.2) ∧ PlOwn h.size h' (rpW q A3 c3 B3 d3 A4 r.ln c4 r.log CA r.cn cc cl1 DA r.dn dc dl1 OA r.on oc ol1 z.2.1 z.1 z.2.2.1 z.2.2.2) q ∧ h'[rb]? = some (.cells (encRp r).toArray 35 (0, 0)) ∧ h'[zb]? = some (.cells (encRp rpz).toArray 50 (0, 0)) ∧ Ext h h', fun z => r.kn - z.1, (0, none, 0, []), ⟨rfl, rfl, rfl, rfl, trivial⟩, ⟨⟨Nat.zero_le _, rfl, rfl⟩, hob4, own4, pl4, hrb4, hzb4, x4⟩, ?_⟩
  clear own4 pl4 hob4 hrb4 hzb4 x4
  rintro ⟨i, KA, kc, kl1⟩ h4 ⟨⟨hi, hlen, hera⟩, hob4, own4, pl4, hrb4, hzb4, x4⟩
  simp only at hi hlen hera hob4 own4 pl4
  refine ⟨_, cell_blk hrb4 rfl, ?_⟩
  refine xif_of (fun hlt => ?_) (fun hge => ?_)
  · have hlt : (i : Int) < r.kn := of_decide_eq_true hlt
    obtain ⟨row, hrow⟩ : ∃ row, r.cnts[i]? = some row := ⟨r.cnts[i]'(by omega), List.getElem?_eq_getElem (by omega)⟩
    have RO := R.cntsr row (List.mem_of_getElem? hrow)
    have rl := RO.len
    have rn := hrn row (List.mem_of_getElem? hrow)
    obtain ⟨ka, hKA, krd⟩ := (x4.row R.cnts) i row hrow
    have k0 : cell h4 (ka.add ((i : Int).toNat * 1)) = some (.slice row.A row.n row.c) := by
      have := krd.get 0 (v := .slice row.A row.n row.c) rfl
      rwa [add_zero'] at this
    refine ⟨Nat × Option Addr × Nat × List Cn, fun z => [(1, .pointer (some ⟨rb, 0, none⟩)), (2, .pointer (some ⟨zb, 0, none⟩)), (3, .pointer (some ⟨ob, 0, none⟩)), (9, .int .i64 i), (10, .slice z.2.1 z.1 z.2.2.1), (11, .int .i64 z.1)],
      fun z h' => (z.1 ≤ row.n ∧ z.2.2.2 = row.l.take z.1) ∧ OwnA encCn 6 57 h4.size h' z.2.1 z.2.2.1 z.2.2.2 ∧ Ext h4 h', fun z => row.n - z.1, (0, none, 0, []), ⟨rfl, rfl, rfl, rfl, rfl, rfl, trivial⟩, ⟨⟨Nat.zero_le _, rfl⟩, .inl ⟨rfl, rfl, rfl⟩, Ext.refl _⟩, ?_⟩
    rintro ⟨k, JA, jc, jl⟩ h5 ⟨⟨hk, hjl⟩, oJ, x45⟩
    simp only at hk hjl oJ
    have hrb5 := x45.blk hrb4
    have hjlen : jl.length = k := by rw [hjl, List.length_take]; omega
    refine ⟨_, cell_blk hrb5 rfl, ka, hKA, by omega, hlt, _, x45.cell k0, ?_⟩
    refine xif_of (fun hlt2 => ?_) (fun hge2 => ?_)
    · have hlt2 : (k : Int) < row.n := of_decide_eq_true hlt2
      obtain ⟨c, hc⟩ : ∃ c, row.l[k]? = some c := ⟨row.l[k]'(by omega), List.getElem?_eq_getElem (by omega)⟩
      obtain ⟨ca, hCA, crd⟩ := ((x4.trans x45).row RO.row) k c hc
      refine ⟨_, cell_blk hrb5 rfl, ka, hKA, by omega, hlt, _, x45.cell k0, ca, hCA, by omega, hlt2, encCn c, rfl, crd, ?_⟩
      intro xb h6 n6
      refine ⟨rfl, rfl, canset_blk n6.this rfl, fun h7 s7 => ?_⟩
      have hxb : h7[xb]? = some (.cells (encCn c).toArray 58 (0, 0)) := n6.fill rfl s7
      have x57 : Ext h5 h7 := n6.ext.stored s7 (n6.ge (Ext.refl _))
      refine ⟨_, cell_blk hxb rfl, _, cell_blk hxb rfl, _, cell_blk hxb rfl, _, cell_blk hxb rfl, _, cell_blk hxb rfl, _, cell_blk hxb rfl, ?_⟩
      intro eb h8 n8
      refine xappend_one (x := c) cnInfo cnZero rfl (by decide) encCn_len encCn_one (oJ.ext x57) n8 hjlen (by show (k + 1) * 48 ≤ _; omega) (x45.trans x57).size fun A9 c9 h9 o9 k9 => ?_
      rw [hjl, take_next hc] at o9
      exact ⟨(k + 1, A9, c9, row.l.take (k + 1)), ⟨rfl, rfl, rfl, rfl, rfl, slot_inc (by omega), trivial⟩, ⟨⟨by show k + 1 ≤ row.n; omega, rfl⟩, o9, k9.ext (x45.trans x57) fun b e => oJ.ge b e⟩, by show row.n - (k + 1) < row.n - k; omega⟩
    have hge2 : ¬ (k : Int) < row.n := of_decide_eq_false hge2
    obtain rfl : k = row.n := by omega
    rw [List.take_of_length_le (by omega)] at hjl
    subst hjl
    have hob5 := x45.blk hob4
    refine ⟨_, cell_blk hob5 rfl, ?_⟩
    intro eb h6 n6
    have O6 := own4.ext x45
    have L6 := pl4.ext x45
    have o6' := oJ.mono x4.size
    refine xappend_one (x := (⟨JA, row.n, jc, row.l⟩ : Cr)) crInfo crZero rfl (by decide) encCr_len encCr_one O6.cnts n6 hlen (by show (i + 1) * 24 ≤ _; omega) (Nat.le_trans x4.size x45.size) fun A8 c8 h8 o8 k8 => ?_
    have hob8 := O6.cnts.blkKeep k8 hob5 (by decide)
    have hrb8 := O6.cnts.blkKeep k8 hrb5 (by decide)
    have hzb8 := O6.cnts.blkKeep k8 (x45.blk hzb4) (by decide)
    have L8 := L6.keep O6.cnts k8 (by decide) (by decide)
    refine ⟨rfl, rfl, canset_blk hob8 rfl, fun h9 s9 => ?_⟩
    have hob9 : h9[ob]? = some (.cells (encRp (rpW q A3 c3 B3 d3 A4 r.ln c4 r.log CA r.cn cc cl1 DA r.dn dc dl1 OA r.on oc ol1 A8 (i + 1) c8 (kl1 ++ [⟨JA, row.n, jc, row.l⟩]))).toArray 50 (0, 0)) := s9.put hob8
    have own9 : RpOwn h.size h9 (rpW q A3 c3 B3 d3 A4 r.ln c4 r.log CA r.cn cc cl1 DA r.dn dc dl1 OA r.on oc ol1 A8 (i + 1) c8 (kl1 ++ [⟨JA, row.n, jc, row.l⟩])) := ⟨((O6.log).keepT O6.cnts k8 (by decide)).storeT s9 hob8 (by decide), ((O6.came).keepT O6.cnts k8 (by decide)).storeT s9 hob8 (by decide), fun y hy => (((O6.cameb) y hy).keepT O6.cnts k8 (by decide)).storeT s9 hob8 (by decide), ((O6.don).keepT O6.cnts k8 (by decide)).storeT s9 hob8 (by decide), ((O6.outs).keepT O6.cnts k8 (by decide)).storeT s9 hob8 (by decide), fun y hy => (((O6.outsb) y hy).keepT O6.cnts k8 (by decide)).storeT s9 hob8 (by decide), o8.storeT s9 hob8 (by decide), fun y hy => (List.mem_append.1 hy).elim (fun hy => ((O6.cntsb y hy).keepT O6.cnts k8 (by decide)).storeT s9 hob8 (by decide)) (fun hy => by obtain rfl := List.mem_singleton.1 hy; exact (o6'.keepT O6.cnts k8 (by decide)).storeT s9 hob8 (by decide))⟩
    have x8 : Ext h h8 := k8.ext (x4.trans x45) fun b e => O6.cnts.ge b e
    refine ⟨(i + 1, A8, c8, kl1 ++ [⟨JA, row.n, jc, row.l⟩]), ⟨rfl, rfl, rfl, slot_inc (by omega), trivial⟩, ⟨⟨by show i + 1 ≤ r.kn; omega, by show (kl1 ++ _).length = i + 1; rw [List.length_append, hlen]; rfl, ?_⟩, hob9, own9, (L8.store s9 hob8 (by decide) (by decide)).re rfl, s9.blk hrb8 rne, s9.blk hzb8 zne, x8.stored s9 oge⟩, by show r.kn - (i + 1) < r.kn - i; omega⟩
    show (kl1 ++ _).map eraR = (r.cnts.take (i + 1)).map eraR
    rw [← take_next hrow, List.map_append, List.map_append, hera]; rfl
  have hge : ¬ (i : Int) < r.kn := of_decide_eq_false hge
  obtain rfl : i = r.kn := by omega
  rw [List.take_of_length_le (by omega)] at hera
  refine ⟨_, rfl, reads_all hob4, rfl, rfl, canset_blk hzb4 rfl, fun h9 s9 => ?_⟩
  have hzb9 := s9.fill0 hzb4 rfl
  refine ⟨_, rfl, reads_all hzb9, rpW q A3 c3 B3 d3 A4 r.ln c4 r.log CA r.cn cc cl1 DA r.dn dc dl1 OA r.on oc ol1 KA r.kn kc kl1, rfl, ?_, own4.store s9 hzb4 (by decide) (by decide) (by decide) (by decide) (by decide) (by decide) (by decide), pl4.store s9 hzb4 (by decide) (by decide), x4.stored s9 zge⟩
  unfold era rpW
  simp only
  rw [heraC, heraD, heraO, hera, rports]
end
end Go.Proofs.YtcjoenkpibhmoaaGreatE
