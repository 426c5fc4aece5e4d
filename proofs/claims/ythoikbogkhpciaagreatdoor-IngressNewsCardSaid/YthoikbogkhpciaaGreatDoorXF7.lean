/- A fabric is made, of a plan that may be. Conditions: the plan may be. -/
import Derived.Test.YthoikbogkhpciaaGreatDoorXF6
set_option linter.unusedVariables false
set_option linter.unusedSimpArgs false
set_option maxRecDepth 100000
namespace Go.Proofs.YthoikbogkhpciaaGreatDoorE
open Go Go.Proofs
def env_cMake : Nat → Ann
  | 7 => ⟨.op 0 [] <| .op 1 [] <| .op 2 [] <| .op 3 [] <| .op 4 [] <| .op 5 [] <| .op 6 [] <| .op 7 [] <| .op 8 [2, 4] <| .op 9 [] <| .op 10 [] <| .op 11 [] <| .nil, [0, 0, 2, 0, 8, 30, 0, 64, 192, 510, 1023, 2047], false⟩
  | 8 => ⟨.op 0 [] <| .op 1 [] <| .op 2 [] <| .op 3 [] <| .op 4 [] <| .op 5 [2] <| .op 6 [] <| .op 7 [] <| .op 8 [] <| .op 9 [] <| .op 10 [] <| .op 11 [] <| .op 12 [] <| .nil, [0, 0, 2, 0, 8, 24, 62, 127, 255, 511, 511, 1023, 4095], true⟩
  | 18 => ⟨.op 0 [] <| .op 1 [] <| .op 2 [] <| .op 4 [] <| .op 5 [] <| .op 3 [5] <| .op 6 [] <| .nil, [0, 0, 0, 6, 0, 16, 63], false⟩
  | 19 => ⟨.op 0 [] <| .op 1 [] <| .op 2 [] <| .op 5 [] <| .op 6 [] <| .op 3 [6] <| .op 4 [] <| .op 7 [] <| .nil, [0, 0, 0, 6, 14, 0, 32, 127], false⟩
  | _ => ⟨.nil, [], false⟩
/-- A fabric as it is made: nothing waits, no port is set. -/
structure Fresh (h0 h : Heap) (F : Fb) (M : MemS) : Prop where
  fab : FabAt h F
  mem : MemAt h F.mb F.cb F.lb M
  t : M.t ≤ 20000
  low : ∀ x, x < F.P → M.cells[x]? = some 0
  high : ∀ x, F.b0 ≤ x → x < M.cells.length → M.cells[x]? = some 0
  len : F.b0 + F.P * F.P * (F.S + 2) = M.cells.length
  b0 : F.P ≤ F.b0
  bv : F.P + 2 * F.vls.length ≤ F.b0
  big : M.cells.length < 10000000
  locks : ∀ x, x < F.P → M.locks[x]? = some (-1)
  ring : ∀ a b, a < F.P → b < F.P → RingAt h (F.rb a b) F.mb (R0 F.b0 F.P F.S a b) ∧ h0.size ≤ F.rb a b
  inj : ∀ a b a' b', a < F.P → b < F.P → a' < F.P → b' < F.P → F.rb a b = F.rb a' b' → a = a' ∧ b = b'
  g1 : h0.size ≤ F.mb
  g2 : h0.size ≤ F.cb
  g3 : h0.size ≤ F.lb
  g4 : h0.size ≤ F.fb
  ext : Ext h0 h
  pr : F.prot = []
  dbk : h[F.db]? = some (.cells [.pointer (some ⟨F.mb, 0, none⟩), .int .i64 ((F.P + 2 * F.vls.length : Nat) : Int), .int .i64 F.P, .int .i64 F.s.sh, .int .i64 F.s.bk, .int .i64 F.s.sl, .int .i64 F.tries].toArray 138 (0, 0))
  sok : F.s.Ok
theorem cVlanAt_spec {h : Heap} {fb P S n : Nat} {rv vv : Value} {s : Sz} {tries normal short : Int} {rest : List Value} (hb : h[fb]? = some (.cells (planV P rv vv s tries S normal short ++ rest).toArray 106 (0, 0))) (p2 : P ≤ 64) (hn : n ≤ 1000) :
    HCalls Tryz.prog 40 #[.pointer (some ⟨fb, 0, none⟩), .int .i64 n] h (fun v h' => v = .int .i64 ((P + 2 * n : Nat) : Int) ∧ h' = h) := by
  refine xcalls env0 Tryz.func40 rfl (by kernel_rfl) rfl (by kernel_rfl) ?_
  repeat (first | refine ⟨_, cell_blk (hb) rfl, ?_⟩)
  refine ⟨congrArg (Value.int .i64) ?_, rfl⟩
  rw [wrap_i64 (x := 2 * (n : Int)) (by omega) (by omega), wrap_i64 (by omega) (by omega)]
  omega
theorem mNew_at {h : Heap} {c l : Nat} {j k : Int} (hj : j = (c : Int)) (hk : k = (l : Int)) (c1 : 1 ≤ c) (c2 : c ≤ 1048576) (l2 : l ≤ 128) : HCalls Tryz.prog 43 #[.int .i64 j, .int .i64 k] h (fun v h' => ∃ mb cb lb, v = .tuple #[.pointer (some ⟨mb, 0, none⟩), .int .i64 0] ∧ MemAt h' mb cb lb ⟨List.replicate c 0, List.replicate l (-1), 0⟩ ∧ Ext h h' ∧ h.size ≤ mb ∧ h.size ≤ cb ∧ h.size ≤ lb) := by subst hj hk; exact mNew_spec c1 c2 l2
theorem cMake_specR {h : Heap} {base base' : Nat} {A B : Option Addr} {na ca nb cb P S : Nat} {rules : List Ru} {vls : List Vl} {s : Sz} {tries normal short : Int} (hra : OwnA encRu 2 118 base h A ca rules) (hla : rules.length = na) (hrb : OwnA encVl 3 113 base' h B cb vls) (hlb : vls.length = nb) (hn : na ≤ 1000) (hn2 : nb ≤ 1000)
    (wf : ∀ v ∈ vls, SetWf v.mem ∧ SetWf v.unt) (hck : mCheckM P rules vls s tries S = 0) (o : s.Ok) (t1 : 1 ≤ tries) (t2 : tries ≤ 8) (p1 : 2 ≤ P) (p2 : P ≤ 64) (s1 : 1 ≤ S) (s2 : S ≤ 64) :
    HCalls Tryz.prog 25 #[.agg (planV P (.slice A na ca) (.slice B nb cb) s tries S normal short).toArray] h (fun v h' => ∃ F M, v = .tuple #[.pointer (some ⟨F.fb, 0, none⟩), .int .i64 0] ∧ F.P = P ∧ F.S = S ∧ F.vls = vls ∧ (F.rules = rules ∧ F.s = s ∧ F.tries = tries) ∧ Fresh h h' F M) := by
  subst hla hlb
  have hPP : P * P ≤ 64 * 64 := Nat.mul_le_mul p2 p2
  have hPS : P * P * (S + 2) ≤ 4096 * 66 := Nat.mul_le_mul hPP (by omega)
  obtain ⟨q1, q2⟩ := mul_bd (a := s.sh) (b := s.bk) (m := 8) (n := 16) (by have := o.sh1; omega) o.sh2 (by have := o.bk1; omega) o.bk2
  obtain ⟨q3, q4⟩ := mul_bd (a := s.sh * s.bk) (b := 1 + 2 * s.sl) (m := 8 * 16) (n := 17) q1 q2 (by have := o.sl1; omega) (by have := o.sl2; omega)
  obtain ⟨z, hz⟩ : ∃ z : Nat, szCells s = z := ⟨(szCells s).toNat, by unfold szCells; omega⟩
  have hz2 : z ≤ 3000 := by have : szCells s ≤ 8 * 16 * 17 := q4; omega
  obtain ⟨sh, hsh⟩ : ∃ n : Nat, s.sh = n := ⟨s.sh.toNat, by have := o.sh1; omega⟩
  have hsh2 : sh ≤ 8 := by have := o.sh2; omega
  refine xcalls env_cMake Tryz.func25 rfl (by kernel_rfl) rfl (by kernel_rfl) ?_
  obtain ⟨b0, hb0⟩ : ∃ b0 : Nat, b0 = P + 2 * vls.length + z := ⟨_, rfl⟩
  obtain ⟨c, hc⟩ : ∃ c : Nat, c = b0 + P * P * (S + 2) := ⟨_, rfl⟩
  have eb : IntKind.i64.wrap (((P + 2 * vls.length : Nat) : Int) + szCells s) = (b0 : Int) := by
    rw [hz, wrap_i64 (by omega) (by omega)]
    omega
  have ec : IntKind.i64.wrap ((b0 : Int) + IntKind.i64.wrap (IntKind.i64.wrap ((P : Int) * P) * ((S + 2 : Nat) : Int))) = (c : Int) := by
    have e1 : (P : Int) * P = ((P * P : Nat) : Int) := by push_cast; rfl
    rw [e1, wrap_i64 (x := ((P * P : Nat) : Int)) (by omega) (by omega)]
    have e2 : ((P * P : Nat) : Int) * ((S + 2 : Nat) : Int) = ((P * P * (S + 2) : Nat) : Int) := by push_cast; rfl
    rw [e2, wrap_i64 (x := ((P * P * (S + 2) : Nat) : Int)) (by omega) (by omega), wrap_i64 (by omega) (by omega)]
    omega
  intro ib h1 n1
  have hib := n1.this
  refine ⟨_, rfl, reads_all hib, ?_⟩
  refine (mCheck_spec (n1.ext.row (hra.row encRu_len)) rfl (n1.ext.row (hrb.row encVl_len)) rfl (by omega) (by omega) wf).mono ?_
  rintro v h2 ⟨rfl, x2⟩
  rw [hck]
  have hib2 := x2.blk hib
  have x02 := n1.ext.trans x2
  refine ⟨_, rfl, reads_all hib2, ?_⟩
  refine (cCopied_spec (hra.ext x02) rfl (hrb.ext x02) rfl hn hn2).mono ?_
  rintro v h3 ⟨A', c', B', d', rfl, o3, o4, x3⟩
  intro fb h4 n4
  have hib4 := n4.ext.blk (x3.blk hib2)
  have hfb4 : h4[fb]? = some (.cells (planV P (.slice A' rules.length c') (.slice B' vls.length d') s tries S normal short ++ [Value.pointer none, Value.pointer none, Value.slice none 0 0]).toArray 106 (0, 0)) := n4.this
  repeat (first | refine ⟨_, cell_blk (hib4) rfl, ?_⟩)
  refine (cVlanAt_spec hfb4 p2 hn2).mono ?_
  rintro v h5 ⟨rfl, rfl⟩
  refine ⟨[.int .i64 s.sh, .int .i64 s.bk, .int .i64 s.sl], rfl, reads_at hib4 rfl, ?_⟩
  refine (dCells_spec o).mono ?_
  rintro v h6 ⟨rfl, x6⟩
  have hib6 := x6.blk hib4
  have hfb6 := x6.blk hfb4
  refine ⟨Nat × Nat × Option Addr × Nat × Option Addr × Nat, fun z => [(1, .pointer (some ⟨z.1, 0, none⟩)), (5, .pointer (some ⟨z.2.1, 0, none⟩)), (6, .int .i64 ((P + 2 * vls.length : Nat) : Int)), (7, .int .i64 (b0 : Int)), (8, .int .i64 (c : Int))],
    fun z h' => h'[z.1]? = some (.cells (planV P (.slice A rules.length ca) (.slice B vls.length cb) s tries S normal short).toArray 72 (0, 0)) ∧ h'[z.2.1]? = some (.cells (planV P (.slice z.2.2.1 rules.length z.2.2.2.1) (.slice z.2.2.2.2.1 vls.length z.2.2.2.2.2) s tries S normal short ++ [Value.pointer none, Value.pointer none, Value.slice none 0 0]).toArray 106 (0, 0)) ∧
      OwnA encRu 2 118 h.size h' z.2.2.1 z.2.2.2.1 rules ∧ OwnA encVl 3 113 h.size h' z.2.2.2.2.1 z.2.2.2.2.2 vls ∧ h.size ≤ z.1 ∧ h.size ≤ z.2.1 ∧ Ext h h', ?_, ?_⟩
  · repeat (first | refine ⟨_, cell_blk (hib6) rfl, ?_⟩)
    refine (rCells_spec s1 s2).mono ?_
    rintro v h7 ⟨rfl, rfl⟩
    try (refine ⟨by ((repeat (first | refine ⟨cell_blk (hib6) rfl, ?_⟩)); exact trivial), ?_⟩)
    refine ⟨(ib, fb, A', c', B', d'), ⟨rfl, rfl, rfl, congrArg (fun z => some (Value.int .i64 z)) eb, ?_, trivial⟩, hib6, hfb6, ((o3.ext n4.ext).ext x6).mono x02.size, ((o4.ext n4.ext).ext x6).mono x02.size, n1.ge (Ext.refl _), n4.ge (x02.trans x3), ((x02.trans x3).trans n4.ext).trans x6⟩
    show some (Value.int .i64 (IntKind.i64.wrap (IntKind.i64.wrap (((P + 2 * vls.length : Nat) : Int) + szCells s) + IntKind.i64.wrap (IntKind.i64.wrap ((P : Int) * P) * ((S + 2 : Nat) : Int))))) = _
    rw [eb, ec]
  rintro ⟨ib, fb, A', c', B', d'⟩ h1 ⟨hib, hfb, o3, o4, gi, gf, x1⟩
  simp only at hib hfb o3 o4 gi gf
  repeat (first | refine ⟨_, cell_blk (hib) rfl, ?_⟩)
  refine ⟨[.int .i64 s.sh, .int .i64 s.bk, .int .i64 s.sl], rfl, reads_at hib rfl, ?_⟩
  refine (dLocks_spec o).mono ?_
  rintro v h2 ⟨rfl, x2⟩
  have hib2 := x2.blk hib
  have hfb2 := x2.blk hfb
  try (refine ⟨by ((repeat (first | refine ⟨cell_blk (hib2) rfl, ?_⟩)); exact trivial), ?_⟩)
  refine (mNew_at (c := c) (l := P + sh) rfl (by rw [hsh, wrap_i64 (by omega) (by omega)]; omega) (by omega) (by omega) (by omega)).mono ?_
  rintro v h3 ⟨mb, cb', lb, rfl, M3, x3, gm, gc, gl⟩
  have hib3 := x3.blk hib2
  have hfb3 := x3.blk hfb2
  refine ⟨rfl, rfl, canset_blk hfb3 rfl, fun h4 s4 => ?_⟩
  have hfb4 : h4[fb]? = some (.cells (planV P (.slice A' rules.length c') (.slice B' vls.length d') s tries S normal short ++ [Value.pointer (some ⟨mb, 0, none⟩), Value.pointer none, Value.slice none 0 0]).toArray 106 (0, 0)) := s4.put hfb3
  have c34 : Chg [(fb, 106)] h3 h4 := s4.chg hfb3 (.head _)
  have hib4 := c34.blk hib3 (by simp)
  have M4 := M3.chg c34 (by simp) (by simp) (by simp)
  repeat (first | refine ⟨_, cell_blk (hib4) rfl, ?_⟩)
  refine ⟨[.int .i64 s.sh, .int .i64 s.bk, .int .i64 s.sl], rfl, reads_at hib4 rfl, ?_⟩
  repeat (first | refine ⟨_, cell_blk (hib4) rfl, ?_⟩)
  refine (dNew_spec M4 (base := P + 2 * vls.length) (lock := P) o t1 t2 ?_ ?_ ?_ ?_).mono ?_
  · show ((P + 2 * vls.length : Nat) : Int) + szCells s ≤ ((List.replicate c (0 : Int)).length : Int)
    rw [List.length_replicate, hz]
    omega
  · show (P : Int) + s.sh ≤ ((List.replicate (P + sh) (-1 : Int)).length : Int)
    rw [List.length_replicate, hsh]
    omega
  · show (List.replicate c (0 : Int)).length < 100000000
    rw [List.length_replicate]
    omega
  · show (List.replicate (P + sh) (-1 : Int)).length < 1000
    rw [List.length_replicate]
    omega
  rintro v h5 ⟨db, rfl, gd, hdb5, x5⟩
  have hfb5 := x5.blk hfb4
  refine ⟨rfl, rfl, canset_blk hfb5 rfl, fun h6 s6 => ?_⟩
  have hfb6 : h6[fb]? = some (.cells (planV P (.slice A' rules.length c') (.slice B' vls.length d') s tries S normal short ++ [Value.pointer (some ⟨mb, 0, none⟩), Value.pointer (some ⟨db, 0, none⟩), Value.slice none 0 0]).toArray 106 (0, 0)) := s6.put hfb5
  have c56 : Chg [(fb, 106)] h5 h6 := s6.chg hfb5 (.head _)
  have hib6 := c56.blk (x5.blk hib4) (by simp)
  have M6 := (M4.ext x5).chg c56 (by simp) (by simp) (by simp)
  repeat (first | refine ⟨_, cell_blk (hib6) rfl, ?_⟩)
  have x03 : Ext h h3 := (x1.trans x2).trans x3
  have x06 : Ext h h6 := ((x03.stored s4 gf).trans x5).stored s6 gf
  have gm' : h.size ≤ mb := Nat.le_trans (x1.trans x2).size gm
  have gc' : h.size ≤ cb' := Nat.le_trans (x1.trans x2).size gc
  have gl' : h.size ≤ lb := Nat.le_trans (x1.trans x2).size gl
  have inF : ∀ p ∈ (fb, 106) :: ML mb cb' lb, h.size ≤ p.1 := by
    intro p hp
    simp [ML] at hp
    rcases hp with rfl | rfl | rfl | rfl
    · exact gf
    · exact gm'
    · exact gc'
    · exact gl'
  have o3' : OwnA encRu 2 118 h.size h6 A' c' rules := ((((o3.ext x2).ext x3).chg c34 (by simp)).ext x5).chg c56 (by simp)
  have o4' : OwnA encVl 3 113 h.size h6 B' d' vls := ((((o4.ext x2).ext x3).chg c34 (by simp)).ext x5).chg c56 (by simp)
  refine ⟨Nat, fun i => [(5, .pointer (some ⟨fb, 0, none⟩)), (7, .int .i64 (b0 : Int)), (9, .pointer (some ⟨mb, 0, none⟩)), (80, .slice B vls.length cb), (81, .int .i64 vls.length), (82, .int .i64 i)],
    fun i h' => i ≤ vls.length ∧ ∃ M, MemAt h' mb cb' lb M ∧ M.locks = List.replicate (P + sh) (-1) ∧ M.t = 2 * i ∧ M.cells.length = c ∧ (∀ x, x < P → M.cells[x]? = some 0) ∧ (∀ x, b0 ≤ x → x < M.cells.length → M.cells[x]? = some 0) ∧ Chg (ML mb cb' lb) h6 h', fun i => vls.length - i, 0,
    ⟨rfl, rfl, rfl, rfl, rfl, rfl, trivial⟩, ⟨Nat.zero_le _, _, M6, rfl, rfl, List.length_replicate .., fun x hx => ?_, fun x _ hx => ?_, Chg.refl _ _⟩, ?_⟩
  · show (List.replicate c (0 : Int))[x]? = some 0
    rw [List.getElem?_replicate, if_pos (by omega)]
  · show (List.replicate c (0 : Int))[x]? = some 0
    have hx : x < (List.replicate c (0 : Int)).length := hx
    rw [List.length_replicate] at hx
    rw [List.getElem?_replicate, if_pos hx]
  rintro i h7 ⟨hi, M, M7, hlk, htm, hcl, hlo, hhi, c67⟩
  have x07 : Ext h h7 := c67.ext x06 fun p hp => inF p (.tail _ hp)
  have hfb7 := c67.blk hfb6 (by first | (simp; done) | (intro p hp; simp [hp]; done) | (simp [ML]; done) | (intro p hp; simp [ML] at hp ⊢; rcases hp with h | h | h <;> simp [h]; done))
  refine xif_of (fun q => ?_) (fun q => ?_)
  · have q : (i : Int) < vls.length := of_decide_eq_true q
    have qn : i < vls.length := by omega
    obtain ⟨v, hv⟩ : ∃ v, vls[i]? = some v := ⟨vls[i], List.getElem?_eq_getElem qn⟩
    obtain ⟨a, ha, hrd⟩ := (x07.row (hrb.row encVl_len)) i v hv
    refine ⟨a, ha, Int.natCast_nonneg i, q, encVl v, rfl, hrd, ?_⟩
    intro vb h8 n8
    refine ⟨rfl, rfl, canset_blk n8.this rfl, fun h9 s9 => ?_⟩
    have hvb : h9[vb]? = some (.cells (encVl v).toArray 113 (0, 0)) := n8.fill rfl s9
    have x79 : Ext h7 h9 := n8.ext.stored s9 (n8.ge (Ext.refl _))
    have M9 := M7.ext x79
    have hfb9 := x79.blk hfb7
    repeat (first | refine ⟨_, cell_blk (hvb) rfl, ?_⟩)
    refine (cVlanAt_spec hfb9 p2 (n := i) (by omega)).mono ?_
    rintro w h10 ⟨rfl, rfl⟩
    try (refine ⟨by ((repeat (first | refine ⟨cell_blk (hvb) rfl, ?_⟩)); exact trivial), ?_⟩)
    have hMc : M.t < 10000 := by omega
    refine (mStore_at M9 (i := P + 2 * i) (x := v.mem) rfl rfl (by omega) (by omega)).mono ?_
    rintro w h11 ⟨rfl, M11, c11⟩
    have hvb11 := c11.blk hvb (by first | (simp; done) | (intro p hp; simp [hp]; done) | (simp [ML]; done) | (intro p hp; simp [ML] at hp ⊢; rcases hp with h | h | h <;> simp [h]; done))
    have hfb11 := c11.blk hfb9 (by first | (simp; done) | (intro p hp; simp [hp]; done) | (simp [ML]; done) | (intro p hp; simp [ML] at hp ⊢; rcases hp with h | h | h <;> simp [h]; done))
    repeat (first | refine ⟨_, cell_blk (hvb11) rfl, ?_⟩)
    refine (cVlanAt_spec hfb11 p2 (n := i) (by omega)).mono ?_
    rintro w h12 ⟨rfl, rfl⟩
    try (refine ⟨by ((repeat (first | refine ⟨cell_blk (hvb11) rfl, ?_⟩)); exact trivial), ?_⟩)
    refine (mStore_at M11 (i := P + 2 * i + 1) (x := v.unt) (wrap_add1 _ (by omega)) rfl ?_ ?_).mono ?_
    · show P + 2 * i + 1 < (M.cells.set (P + 2 * i) v.mem).length
      rw [List.length_set]
      omega
    · show M.t + 1 < 1000000
      omega
    rintro w h13 ⟨rfl, M13, c13⟩
    refine ⟨i + 1, ⟨rfl, rfl, rfl, rfl, rfl, slot_inc (by omega), trivial⟩, ⟨by omega, _, M13, hlk, by show M.t + 1 + 1 = 2 * (i + 1); omega, ?_, fun x hx => ?_, fun x hx1 hx2 => ?_, ((c67.trans (x79.chg _)).trans c11).trans c13⟩, by show vls.length - (i + 1) < vls.length - i; omega⟩
    · show ((M.cells.set (P + 2 * i) v.mem).set (P + 2 * i + 1) v.unt).length = c
      rw [List.length_set, List.length_set]
      exact hcl
    · show ((M.cells.set (P + 2 * i) v.mem).set (P + 2 * i + 1) v.unt)[x]? = some 0
      rw [List.getElem?_set_ne (by omega), List.getElem?_set_ne (by omega)]
      exact hlo x hx
    · have hx2 : x < ((M.cells.set (P + 2 * i) v.mem).set (P + 2 * i + 1) v.unt).length := hx2
      rw [List.length_set, List.length_set] at hx2
      show ((M.cells.set (P + 2 * i) v.mem).set (P + 2 * i + 1) v.unt)[x]? = some 0
      rw [List.getElem?_set_ne (by omega), List.getElem?_set_ne (by omega)]
      exact hhi x hx1 hx2
  · have q : ¬ (i : Int) < vls.length := of_decide_eq_false q
    refine (cLay_spec hfb7 M7 p1 p2 s1 s2 (b0 := b0) (by omega) (by omega) (by omega) hhi).mono ?_
    rintro v h8 ⟨rfl, RA, rc, rows, rb, L⟩
    have hL : rows.length = P := L.len
    refine ⟨⟨fb, mb, cb', lb, db, rb, P, S, b0, A', c', rules, B', d', vls, s, tries, normal, short, []⟩, _, rfl, rfl, rfl, rfl, ⟨rfl, rfl, rfl⟩, ⟨⟨⟨RA, rc, ?_, ⟨rows, L.own.base0, L.len, fun j r hj => ⟨(L.row j r hj).1, (L.row j r hj).2.base0⟩⟩⟩, ?_, ?_, p1, p2, s1, s2, hn, hn2⟩, L.mem, ?_, hlo, hhi, ?_, ?_, ?_, ?_, ?_, ?_, ?_, gm', gc', gl', gf, L.chg.ext x07 inF, rfl, L.chg.blk (c67.blk (c56.blk hdb5 (by simp)) (by first | (simp; done) | (intro p hp; simp [hp]; done) | (simp [ML]; done) | (intro p hp; simp [ML] at hp ⊢; rcases hp with h | h | h <;> simp [h]; done))) (by first | (simp; done) | (intro p hp; simp [hp]; done) | (simp [ML]; done) | (intro p hp; simp [ML] at hp ⊢; rcases hp with h | h | h <;> simp [h]; done)), o⟩⟩
    · have := L.blk
      rw [hL] at this
      exact this
    · exact ((o3'.chg c67 (fun b _ => by first | (simp; done) | (intro p hp; simp [hp]; done) | (simp [ML]; done) | (intro p hp; simp [ML] at hp ⊢; rcases hp with h | h | h <;> simp [h]; done))).chg L.chg (fun b _ => by first | (simp; done) | (intro p hp; simp [hp]; done) | (simp [ML]; done) | (intro p hp; simp [ML] at hp ⊢; rcases hp with h | h | h <;> simp [h]; done))).base0
    · exact ((o4'.chg c67 (fun b _ => by first | (simp; done) | (intro p hp; simp [hp]; done) | (simp [ML]; done) | (intro p hp; simp [ML] at hp ⊢; rcases hp with h | h | h <;> simp [h]; done))).chg L.chg (fun b _ => by first | (simp; done) | (intro p hp; simp [hp]; done) | (simp [ML]; done) | (intro p hp; simp [ML] at hp ⊢; rcases hp with h | h | h <;> simp [h]; done))).base0
    · show M.t + 2 * (P * P + 0) ≤ 20000
      omega
    · show b0 + P * P * (S + 2) = M.cells.length
      omega
    · show P ≤ b0
      omega
    · show P + 2 * vls.length ≤ b0
      omega
    · show M.cells.length < 10000000
      omega
    · intro x hx
      have hx : x < P := hx
      show M.locks[x]? = some (-1)
      rw [hlk, List.getElem?_replicate, if_pos (by omega)]
    · intro a b ha hb
      obtain ⟨r1, r2⟩ := L.ring a b (.inl ⟨ha, hb⟩)
      exact ⟨r1, Nat.le_trans x07.size r2⟩
    · intro a b a' b' ha hb ha' hb' e
      exact L.inj a b a' b' (.inl ⟨ha, hb⟩) (.inl ⟨ha', hb'⟩) e
theorem cMake_spec {h : Heap} {base base' : Nat} {A B : Option Addr} {na ca nb cb P S : Nat} {rules : List Ru} {vls : List Vl} {s : Sz} {tries normal short : Int} (hra : OwnA encRu 2 118 base h A ca rules) (hla : rules.length = na) (hrb : OwnA encVl 3 113 base' h B cb vls) (hlb : vls.length = nb) (hn : na ≤ 1000) (hn2 : nb ≤ 1000)
    (wf : ∀ v ∈ vls, SetWf v.mem ∧ SetWf v.unt) (hck : mCheckM P rules vls s tries S = 0) (o : s.Ok) (t1 : 1 ≤ tries) (t2 : tries ≤ 8) (p1 : 2 ≤ P) (p2 : P ≤ 64) (s1 : 1 ≤ S) (s2 : S ≤ 64) :
    HCalls Tryz.prog 25 #[.agg (planV P (.slice A na ca) (.slice B nb cb) s tries S normal short).toArray] h (fun v h' => ∃ F M, v = .tuple #[.pointer (some ⟨F.fb, 0, none⟩), .int .i64 0] ∧ F.P = P ∧ F.S = S ∧ F.vls = vls ∧ Fresh h h' F M) := by
  refine (cMake_specR hra hla hrb hlb hn hn2 wf hck o t1 t2 p1 p2 s1 s2).mono ?_
  rintro v h1 ⟨F, M, e, e1, e2, e3, _, H⟩
  exact ⟨F, M, e, e1, e2, e3, H⟩
theorem Fresh.mono {h0 h1 h : Heap} {F : Fb} {M : MemS} (H : Fresh h1 h F M) (x : Ext h0 h1) : Fresh h0 h F M :=
  ⟨H.fab, H.mem, H.t, H.low, H.high, H.len, H.b0, H.bv, H.big, H.locks, fun a b ha hb => ⟨(H.ring a b ha hb).1, Nat.le_trans x.size (H.ring a b ha hb).2⟩, H.inj, Nat.le_trans x.size H.g1, Nat.le_trans x.size H.g2, Nat.le_trans x.size H.g3, Nat.le_trans x.size H.g4, x.trans H.ext, H.pr, H.dbk, H.sok⟩
theorem lMake_specR {h : Heap} {A B : Option Addr} {na ca nb cb P S : Nat} {rules : List Ru} {vls : List Vl} {s : Sz} {tries normal short : Int} (hra : Row encRu 2 h A rules) (hla : rules.length = na) (hrb : Row encVl 3 h B vls) (hlb : vls.length = nb) (hn : na ≤ 1000) (hn2 : nb ≤ 1000)
    (wf : ∀ v ∈ vls, SetWf v.mem ∧ SetWf v.unt) (hck : mCheckM P rules vls s tries S = 0) (o : s.Ok) (t1 : 1 ≤ tries) (t2 : tries ≤ 8) (p1 : 2 ≤ P) (p2 : P ≤ 64) (s1 : 1 ≤ S) (s2 : S ≤ 64) :
    HCalls Tryz.prog 11 #[.agg (planV P (.slice A na ca) (.slice B nb cb) s tries S normal short).toArray] h (fun v h' => ∃ F M, v = .pointer (some ⟨F.fb, 0, none⟩) ∧ F.P = P ∧ F.S = S ∧ F.vls = vls ∧ (F.rules = rules ∧ F.s = s ∧ F.tries = tries) ∧ Fresh h h' F M) := by
  subst hla hlb
  refine xcalls env0 Tryz.func11 rfl (by kernel_rfl) rfl (by kernel_rfl) ?_
  intro ib h1 n1
  refine ⟨_, rfl, reads_all n1.this, ?_⟩
  refine (l17To_spec (n1.ext.row hra) rfl (n1.ext.row hrb) rfl (by omega) (by omega)).mono ?_
  rintro v h2 ⟨A', c', B', d', rfl, o3, o4, x2⟩
  refine (cMake_specR o3 rfl o4 rfl hn hn2 wf hck o t1 t2 p1 p2 s1 s2).mono ?_
  rintro v h3 ⟨F, M, rfl, e1, e2, e3, e4, H⟩
  refine (cMem_spec H.fab).mono ?_
  rintro v h4 ⟨rfl, rfl⟩
  refine (cFdb_spec H.fab).mono ?_
  rintro v h5 ⟨rfl, rfl⟩
  exact ⟨F, M, rfl, e1, e2, e3, e4, H.mono (n1.ext.trans x2)⟩
theorem lMake_spec {h : Heap} {A B : Option Addr} {na ca nb cb P S : Nat} {rules : List Ru} {vls : List Vl} {s : Sz} {tries normal short : Int} (hra : Row encRu 2 h A rules) (hla : rules.length = na) (hrb : Row encVl 3 h B vls) (hlb : vls.length = nb) (hn : na ≤ 1000) (hn2 : nb ≤ 1000)
    (wf : ∀ v ∈ vls, SetWf v.mem ∧ SetWf v.unt) (hck : mCheckM P rules vls s tries S = 0) (o : s.Ok) (t1 : 1 ≤ tries) (t2 : tries ≤ 8) (p1 : 2 ≤ P) (p2 : P ≤ 64) (s1 : 1 ≤ S) (s2 : S ≤ 64) :
    HCalls Tryz.prog 11 #[.agg (planV P (.slice A na ca) (.slice B nb cb) s tries S normal short).toArray] h (fun v h' => ∃ F M, v = .pointer (some ⟨F.fb, 0, none⟩) ∧ F.P = P ∧ F.S = S ∧ F.vls = vls ∧ Fresh h h' F M) := by
  refine (lMake_specR hra hla hrb hlb hn hn2 wf hck o t1 t2 p1 p2 s1 s2).mono ?_
  rintro v h1 ⟨F, M, e, e1, e2, e3, _, H⟩
  exact ⟨F, M, e, e1, e2, e3, H⟩
end Go.Proofs.YthoikbogkhpciaaGreatDoorE
