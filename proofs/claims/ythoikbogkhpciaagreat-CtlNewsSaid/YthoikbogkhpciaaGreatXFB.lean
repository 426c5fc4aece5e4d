/- Who puts numbers, one behind the other, step by step. Conditions: they go to one port, from all ports in turn, and there is room. -/
import Derived.Test.YthoikbogkhpciaaGreatXFA
set_option linter.unusedVariables false
set_option linter.unusedSimpArgs false
set_option maxRecDepth 100000
namespace Go.Proofs.YthoikbogkhpciaaGreatE
open Go Go.Proofs
def env_pStep : Nat → Ann
  | 2 => ⟨.op 0 [] <| .op 1 [] <| .op 2 [] <| .op 3 [] <| .op 4 [] <| .op 5 [] <| .op 6 [] <| .op 7 [] <| .op 8 [] <| .op 9 [] <| .op 10 [] <| .op 11 [] <| .op 12 [] <| .op 13 [] <| .op 14 [] <| .op 15 [] <| .op 16 [] <| .nil, [0, 1, 3, 7, 0, 16, 48, 112, 240, 511, 1023, 2047, 4095, 8191, 16383, 32767, 65535], false⟩
  | 4 => ⟨.op 0 [] <| .op 1 [] <| .op 2 [] <| .op 3 [] <| .op 4 [] <| .op 5 [] <| .op 6 [] <| .op 7 [] <| .op 8 [] <| .op 9 [] <| .op 10 [3, 7, 9] <| .op 11 [] <| .nil, [0, 1, 3, 7, 0, 16, 48, 112, 255, 511, 0, 2047], false⟩
  | 5 => ⟨.op 0 [] <| .op 1 [] <| .op 2 [] <| .op 3 [] <| .op 4 [] <| .op 5 [] <| .op 6 [] <| .op 7 [] <| .op 8 [] <| .op 9 [] <| .op 10 [] <| .op 11 [] <| .op 12 [] <| .op 13 [] <| .op 14 [] <| .op 15 [] <| .nil, [0, 1, 3, 0, 8, 31, 63, 0, 128, 384, 0, 1024, 3968, 8064, 127, 32767], false⟩
  | 6 => ⟨.op 0 [] <| .op 1 [] <| .op 2 [] <| .op 3 [] <| .op 4 [] <| .op 5 [] <| .op 6 [] <| .op 7 [] <| .op 8 [] <| .op 9 [] <| .op 10 [] <| .op 11 [] <| .op 12 [] <| .op 13 [] <| .nil, [0, 0, 2, 6, 14, 0, 32, 96, 224, 480, 1022, 2047, 4095, 8191], true⟩
  | 8 => ⟨.op 0 [] <| .op 1 [] <| .op 2 [] <| .op 3 [] <| .op 4 [] <| .op 5 [] <| .op 6 [] <| .op 8 [] <| .op 9 [] <| .op 10 [] <| .op 11 [] <| .op 12 [] <| .op 7 [11] <| .op 13 [] <| .op 14 [] <| .op 15 [] <| .op 16 [] <| .nil, [0, 0, 2, 6, 14, 0, 0, 126, 0, 256, 768, 1792, 3840, 8190, 16383, 32767, 65535], false⟩
  | 9 => ⟨.op 0 [] <| .op 1 [] <| .op 2 [] <| .op 3 [] <| .op 4 [] <| .op 5 [] <| .op 6 [] <| .op 7 [] <| .op 8 [] <| .op 11 [] <| .op 12 [] <| .op 13 [] <| .op 14 [] <| .op 15 [] <| .op 16 [] <| .op 17 [] <| .op 9 [4, 16] <| .op 10 [4, 16] <| .op 18 [] <| .op 19 [4] <| .op 20 [] <| .op 21 [] <| .op 22 [] <| .op 23 [] <| .nil, [0, 0, 2, 6, 14, 0, 32, 96, 224, 480, 992, 0, 0, 0, 8192, 24576, 57344, 129024, 262112, 524256, 1048574, 2097151, 4194303, 8388607], false⟩
  | 10 => ⟨.nil, [], true⟩
  | 11 => ⟨.op 0 [] <| .op 1 [] <| .op 2 [] <| .op 3 [] <| .op 4 [] <| .op 5 [] <| .op 6 [] <| .op 7 [] <| .op 8 [] <| .op 9 [] <| .op 10 [] <| .op 11 [] <| .nil, [0, 1, 3, 7, 0, 16, 48, 112, 240, 496, 1023, 2047], false⟩
  | 12 => ⟨.op 0 [] <| .op 1 [] <| .op 2 [] <| .op 3 [] <| .op 4 [] <| .op 5 [] <| .op 7 [] <| .op 8 [] <| .op 9 [] <| .op 10 [] <| .op 6 [10] <| .op 11 [] <| .op 12 [] <| .op 13 [] <| .op 14 [] <| .op 15 [] <| .op 16 [] <| .op 17 [] <| .op 18 [] <| .nil, [0, 0, 0, 4, 12, 28, 60, 0, 128, 384, 896, 2044, 4092, 8189, 16381, 32765, 65535, 131071, 262143], true⟩
  | _ => ⟨.nil, [], false⟩
structure Pt where
  from_ : Int
  to : Int
  vid : Int
def encPut (x : Pt) : List Value := [.int .i64 x.from_, .int .i64 x.to, .int .i64 x.vid]
theorem encPut_len (x : Pt) : (encPut x).length = 3 := rfl
theorem encPut_one (x : Pt) : (encPut x).all Value.oneCell' = true := rfl
/-- What stands in a putter. -/
structure PtV where
  f : Nat
  lA : Option Addr
  ln : Nat
  lc : Nat
  at_ : Nat
  act : Option Nat
  gA : Option Addr
  gn : Nat
  gc : Nat
  id : Int
def encPt (x : PtV) : List Value := [.pointer (some ⟨x.f, 0, none⟩), .slice x.lA x.ln x.lc, .int .i64 (x.at_ : Int), ptrO x.act, .slice x.gA x.gn x.gc, .int .i64 x.id]
def PtRaw (h : Heap) (xb : Nat) (x : PtV) : Prop := h[xb]? = some (.cells (encPt x).toArray 41 (0, 0))
def TyP : List TypeId := [41, 75, 182, 151, 176, 33, 3]
theorem FabAt.chgP {l : List (Nat × TypeId)} {h h' : Heap} {F : Fb} (H : FabAt h F) (c : Chg l h h') (hl : ∀ p ∈ l, p.2 ∈ TyP) : FabAt h' F :=
  H.chgT (c.chgT (B := 0) (Nat.zero_le _) fun p hp => ⟨Nat.zero_le _, hl p hp⟩) (by decide) (by decide) (by decide) (by decide) (by decide)
theorem MemQ.updP {h h' : Heap} {B : Nat} {F : Fb} {q v n t : Nat} {M : MemS} {pb ob : Nat → Bool} (Q : MemQ h B F q v M n t pb ob) {l : List (Nat × TypeId)} (c : Chg l h h') (hl : ∀ p ∈ l, p.2 ∈ TyP) {M' : MemS} {n' t' : Nat} {pb' ob' : Nat → Bool} (HM : MemAt h' F.mb F.cb F.lb M') (HC : CellsOk F.b0 F.P F.S q v M'.cells n' t')
    (HR : ∀ j, j < F.P → RingAt h' (F.rb j q) F.mb ⟨bs F.b0 F.P F.S q j, F.S, cN F.P j n', cN F.P j n' % F.S, pb' j, cN F.P j t', cN F.P j t' % F.S, ob' j⟩) (tn : t' ≤ n') (hlen : M'.cells.length = M.cells.length) : MemQ h' B F q v M' n' t' pb' ob' :=
  ⟨Q.fab.chgP c hl, HM, HC, HR, Q.inj, Q.hq, tn, by rw [hlen]; exact Q.big, Q.b1, Q.b2, Q.b3, Q.b4⟩
theorem MemQ.chgP {h h' : Heap} {B : Nat} {F : Fb} {q v n t : Nat} {M : MemS} {pb ob : Nat → Bool} (Q : MemQ h B F q v M n t pb ob) {l : List (Nat × TypeId)} (c : Chg l h h') (hl : ∀ p ∈ l, p.2 ∈ TyP) (n1 : ∀ k, (k, 176) ∉ l) (n2 : ∀ k, (k, 33) ∉ l) (n3 : ∀ k, (k, 3) ∉ l) (n4 : ∀ k, (k, 151) ∉ l) : MemQ h' B F q v M n t pb ob :=
  Q.updP c hl (Q.mem.chg c (n1 _) (n2 _) (n3 _)) Q.cells (fun j hj => c.blk (Q.rings j hj) (n4 _)) Q.tn rfl
/-- The numbers that are put: from each port in turn, to port q. -/
def PutsOk (P q v : Nat) (l : List Pt) : Prop := ∀ i y, l[i]? = some y → y.from_ % 18446744073709551616 % P = ((i % P : Nat) : Int) ∧ y.to % 18446744073709551616 % P = (q : Int) ∧ y.vid % 18446744073709551616 % 5 = (v : Int)
/-- A putter, and the switch's memory. -/
structure PtS (h : Heap) (B : Nat) (F : Fb) (xb q v : Nat) (x : PtV) (M : MemS) (N n k : Nat) (pb : Nat → Bool) (act : Option Nat) : Prop where
  raw : PtRaw h xb x
  xf : x.f = F.fb
  xa : x.at_ = n + k
  xn : x.ln = N
  xc : x.act = act
  xg : x.gn = n + k
  puts : ∃ l, OwnA encPut 3 36 0 h x.lA x.lc l ∧ l.length = N ∧ PutsOk F.P q v l
  logs : ∃ l, OwnA encHe 19 75 B h x.gA x.gc l ∧ l.length = n + k
  mq : MemQ h B F q v M n 0 pb noB
  b1 : B ≤ xb
  hB : B ≤ h.size
  n30 : N ≤ 30
  fit : N ≤ F.S * F.P
  vs : v < 4096
def PP (h : Heap) (B : Nat) (F : Fb) (xb q v N n ph T : Nat) (lk : List Int) : Prop :=
  ∃ x M, M.locks = lk ∧ M.t = T ∧ n ≤ N ∧ match ph with
    | 0 => PtS h B F xb q v x M N n 0 noB none
    | 1 => n < N ∧ ∃ ab, PtS h B F xb q v x M N n 1 (fun j => j == n % F.P) (some ab) ∧ ActAt h ab ⟨F.rb (n % F.P) q, 3, 145, tik v n, false, 0, false⟩ ∧ B ≤ ab
    | 2 => n < N ∧ ∃ ab, PtS h B F xb q v x M N n 1 (fun j => j == n % F.P) (some ab) ∧ ActAt h ab ⟨F.rb (n % F.P) q, 3, 179, tik v n, false, 0, false⟩ ∧ B ≤ ab ∧ M.cells[bs F.b0 F.P F.S q (n % F.P) + (2 + n / F.P)]? = some (tik v n)
    | _ => False
section
variable {h h' : Heap} {B : Nat} {F : Fb} {xb q v N n T : Nat} {lk : List Int}
/-- There is nothing to put. -/
theorem pStep_none (H : PP h B F xb q v N N 0 T lk) : HCalls Tryz.prog 12 #[.pointer (some ⟨xb, 0, none⟩), .int .i64 F.P] h (fun r h' => r = .bool false ∧ h' = h) := by
  obtain ⟨x, M, hlk, ht, _, S⟩ := H
  have raw := S.raw
  have e1 := S.xa
  have e2 := S.xn
  have e3 := S.xc
  obtain ⟨f, lA, ln, lc, at_, act, gA, gn, gc, id⟩ := x
  simp only [Nat.add_zero] at e1 e2 e3
  replace e1 := e1.symm
  replace e2 := e2.symm
  subst e1 e2 e3
  refine xcalls env_pStep Tryz.func12 rfl (by kernel_rfl) rfl (by kernel_rfl) ?_
  refine ⟨Unit, fun _ => [], fun _ _ => False, ?_, fun _ _ f => f.elim⟩
  repeat (first | refine ⟨_, cell_blk (raw) rfl, ?_⟩)
  refine xif_true (decide_eq_true ?_) ?_
  · show (N : Int) ≥ (N : Int)
    omega
  exact ⟨rfl, rfl⟩
theorem iTicket_at {i v : Nat} {j k : Int} (hj : j = (i : Int)) (hk : k = (v : Int)) (hv : v < 4096) (hi : i < 1000000) : HCalls Tryz.prog 55 #[.int .i64 j, .int .i64 k] h (fun r h' => r = .int .i64 (tik v i) ∧ h' = h) := by subst hj hk; exact iTicket_spec hv hi
theorem mod_put {x : Int} {P r : Nat} (hP : 0 < P) (hp : P ≤ 64) (h : x % 18446744073709551616 % P = (r : Int)) : IntKind.i64.wrap ((IntKind.u64.wrap x).tmod (IntKind.u64.wrap (P : Int))) = (r : Int) := by
  have h3 := Int.emod_lt_of_pos (x % 18446744073709551616) (show (0 : Int) < P by omega)
  rw [IntKind.wrap_u64, wrap_u64 (x := (P : Int)) (by omega) (by omega), Int.tmod_eq_emod_of_nonneg (by omega), h, wrap_i64 (by omega) (by omega)]
theorem rPush_at {rb mb : Nat} {R : RS} (H : RingAt h rb mb R) (hb : R.ib = false) {x y : Int} (hy : y = x) : HCalls Tryz.prog 56 #[.pointer (some ⟨rb, 0, none⟩), .int .u64 y] h (fun v h' => ∃ ab, v = .pointer (some ⟨ab, 0, none⟩) ∧ h.size ≤ ab ∧ ActAt h' ab ⟨rb, 3, 103, x, false, 0, false⟩ ∧ RingAt h' rb mb { R with ib := true } ∧ Chg [(rb, 151)] h h') := by subst hy; exact rPush_spec H hb y
theorem pStep_begin (H : PP h B F xb q v N n 0 T lk) (hlt : n < N) (hT : T < 900000) : HCalls Tryz.prog 12 #[.pointer (some ⟨xb, 0, none⟩), .int .i64 F.P] h (fun r h' => r = .bool true ∧ PP h' B F xb q v N n 1 (T + 1) lk ∧ ChgT B TyP h h') := by
  obtain ⟨x, M, hlk, ht, _, S⟩ := H
  have raw := S.raw
  have e1 := S.xa
  have e2 := S.xn
  have e3 := S.xc
  have e4 := S.xf
  have e5 := S.xg
  have Q := S.mq
  have hP := Q.P0
  have p2 := Q.fab.p2
  have hm := Nat.mod_lt n hP
  have hn30 := S.n30
  obtain ⟨l, ol, hll, hok⟩ := S.puts
  obtain ⟨y, hy⟩ : ∃ y, l[n]? = some y := ⟨l[n]'(by omega), List.getElem?_eq_getElem (by omega)⟩
  obtain ⟨yf, yt, yv⟩ := hok n y hy
  obtain ⟨f, lA, ln, lc, at_, act, gA, gn, gc, id⟩ := x
  simp only [Nat.add_zero] at e1 e2 e3 e4 e5
  replace e1 := e1.symm
  replace e2 := e2.symm
  replace e5 := e5.symm
  subst e1 e2 e3 e4 e5
  refine xcalls env_pStep Tryz.func12 rfl (by kernel_rfl) rfl (by kernel_rfl) ?_
  refine ⟨Nat, fun ab => [(0, .pointer (some ⟨xb, 0, none⟩))], fun ab h' => ∃ x', PtS h' B F xb q v x' M N n 1 (fun j => j == n % F.P) (some ab) ∧ ActAt h' ab ⟨F.rb (n % F.P) q, 3, 103, tik v n, false, 0, false⟩ ∧ B ≤ ab ∧ ChgT B TyP h h', ?_, ?_⟩
  · repeat (first | refine ⟨_, cell_blk (raw) rfl, ?_⟩)
    refine xif_false (decide_eq_false ?_) ?_
    · show ¬ (n : Int) ≥ (N : Int)
      omega
    repeat (first | refine ⟨_, cell_blk (raw) rfl, ?_⟩)
    refine xif_false (decide_eq_false ?_) ?_
    · show ¬ (n : Int) ≥ 30
      omega
    repeat (first | refine ⟨_, cell_blk (raw) rfl, ?_⟩)
    obtain ⟨a, ha, hrd⟩ := (ol.row encPut_len) n y hy
    refine ⟨a, ha, Int.natCast_nonneg _, (by show (n : Int) < (N : Int); omega), encPut y, rfl, hrd, ?_⟩
    intro pb h1 n1
    have raw1 := n1.ext.blk raw
    obtain ⟨a1, ha1, hrd1⟩ := ((ol.ext n1.ext).row encPut_len) n y hy
    rw [ha] at ha1
    cases ha1
    refine ⟨⟨hrd1, cell_blk raw1 rfl, cell_blk raw1 rfl, trivial⟩, ?_⟩
    refine ⟨rfl, rfl, canset_blk n1.this rfl, fun h2 s2 => ?_⟩
    have hp2 : h2[pb]? = some (.cells (encPut y).toArray 36 (0, 0)) := n1.fill rfl s2
    have x2 : Ext h h2 := n1.ext.stored s2 (n1.ge (Ext.refl _))
    refine ⟨Unit, fun _ => [(0, .pointer (some ⟨xb, 0, none⟩)), (1, .int .i64 F.P), (5, .pointer (some ⟨pb, 0, none⟩)), (6, .int .i64 ((n % F.P : Nat) : Int)), (7, .int .i64 (q : Int))], fun _ h' => h' = h2, ?_, ?_⟩
    · repeat (first | refine ⟨_, cell_blk (hp2) rfl, ?_⟩)
      refine ⟨?_, ?_⟩
      · show IntKind.u64.wrap (F.P : Int) ≠ 0
        rw [wrap_u64 (by omega) (by omega)]; omega
      repeat (first | refine ⟨_, cell_blk (hp2) rfl, ?_⟩)
      refine ⟨?_, ?_⟩
      · show IntKind.u64.wrap (F.P : Int) ≠ 0
        rw [wrap_u64 (by omega) (by omega)]; omega
      refine ⟨(), ⟨rfl, rfl, rfl, congrArg (fun z => some (Value.int .i64 z)) (mod_put hP p2 yf), congrArg (fun z => some (Value.int .i64 z)) (mod_put hP p2 yt), trivial⟩, rfl⟩
    · rintro _ h3 rfl
      have raw3 := x2.blk raw
      repeat (first | refine ⟨_, cell_blk (raw3) rfl, ?_⟩ | refine ⟨_, cell_blk (hp2) rfl, ?_⟩)
      refine ⟨by decide, ?_⟩
      refine (iTicket_at (i := n) (v := v) rfl ?_ S.vs (by omega)).mono ?_
      · exact mod_put (P := 5) (by omega) (by omega) yv
      rintro r h4 ⟨rfl, rfl⟩
      refine ⟨rfl, rfl, canset_blk raw3 rfl, fun h5 s5 => ?_⟩
      have raw5 : PtRaw h5 xb ⟨F.fb, lA, N, lc, n, none, gA, n, gc, tik v n⟩ := s5.put raw3
      repeat (first | refine ⟨_, cell_blk (raw5) rfl, ?_⟩)
      refine ⟨rfl, rfl, canset_blk raw5 rfl, fun h6 s6 => ?_⟩
      have raw6 : PtRaw h6 xb ⟨F.fb, lA, N, lc, n + 1, none, gA, n, gc, tik v n⟩ := by
        have := s6.put raw5
        rw [wrap_add1 n (by omega)] at this
        exact this
      have c6 : Chg [(xb, 41)] h h6 := ((x2.chg _).trans (s5.chg raw3 (.head _))).trans (s6.chg raw5 (.head _))
      have Q6 := Q.chgP c6 (by simp [TyP]) (by simp) (by simp) (by simp) (by simp)
      repeat (first | refine ⟨_, cell_blk (raw6) rfl, ?_⟩)
      refine (cRing_spec Q6.fab hm Q6.hq).mono ?_
      rintro r h7 ⟨rfl, rfl⟩
      try (refine ⟨by ((repeat (first | refine ⟨cell_blk (raw6) rfl, ?_⟩)); exact trivial), ?_⟩)
      repeat (first | refine ⟨_, cell_blk (raw6) rfl, ?_⟩)
      have wt : IntKind.u64.wrap (tik v n) = tik v n := by have := S.vs; unfold tik; rw [wrap_u64 (by omega) (by omega)]
      refine (rPush_at (Q6.rings _ hm) rfl wt).mono ?_
      rintro r h8 ⟨ab, rfl, gab, A8, R8, c8⟩
      have raw8 := c8.blk raw6 (by simp)
      have Q8 : MemQ h8 B F q v M n 0 (fun j => j == n % F.P) noB := by
        refine Q6.updP c8 (by simp [TyP]) (Q6.mem.chg c8 (by simp) (by simp) (by simp)) Q6.cells (fun j hj => ?_) Q6.tn rfl
        by_cases e' : j = n % F.P
        · subst e'
          simp only [beq_self_eq_true]
          exact R8
        · have hne : F.rb j q ≠ F.rb (n % F.P) q := fun g => e' (Q6.inj j _ hj hm g)
          have := c8.blk (Q6.rings j hj) (by simp [hne])
          rw [show (j == n % F.P) = false from beq_eq_false_iff_ne.2 e']
          exact this
      refine ⟨rfl, rfl, canset_blk raw8 rfl, fun h9 s9 => ?_⟩
      have raw9 : PtRaw h9 xb ⟨F.fb, lA, N, lc, n + 1, some ab, gA, n, gc, tik v n⟩ := s9.put raw8
      have c9 : Chg [(xb, 41)] h8 h9 := s9.chg raw8 (.head _)
      have Q9 := Q8.chgP c9 (by simp [TyP]) (by simp) (by simp) (by simp) (by simp)
      repeat (first | refine ⟨_, cell_blk (raw9) rfl, ?_⟩)
      refine (cMem_spec Q9.fab).mono ?_
      rintro r h10 ⟨rfl, rfl⟩
      try (refine ⟨by ((repeat (first | refine ⟨cell_blk (raw9) rfl, ?_⟩)); exact trivial), ?_⟩)
      refine (mTime_spec Q9.mem).mono ?_
      rintro r h11 ⟨rfl, rfl⟩
      try (refine ⟨by ((repeat (first | refine ⟨cell_blk (raw9) rfl, ?_⟩)); exact trivial), ?_⟩)
      intro nb h12 n12
      have raw12 := n12.ext.blk raw9
      try (refine ⟨by ((repeat (first | refine ⟨cell_blk (raw12) rfl, ?_⟩)); exact trivial), ?_⟩)
      obtain ⟨g, og, hgl⟩ := S.logs
      have c09 := (c6.mono (l' := [(xb, 41), (F.rb (n % F.P) q, 151)]) (by simp)).trans ((c8.mono (by simp)).trans (c9.mono (by simp)))
      have og12 := (og.chg c09 (fun b _ => by simp)).ext n12.ext
      have hgl' : g.length = n := hgl
      have N12 : h12[nb]? = some (.cells (([⟨80, (M.t : Int), 0, 0, ⟨10, ((n % F.P : Nat) : Int), (q : Int), 0, 0, 0, 0, 0, 0, 0, 0, 0, 0, tik v n⟩, 0⟩] : List He).flatMap encHe).toArray 75 (0, 0)) := n12.this
      refine xappend_own (ys := [⟨80, (M.t : Int), 0, 0, ⟨10, ((n % F.P : Nat) : Int), (q : Int), 0, 0, 0, 0, 0, 0, 0, 0, 0, 0, tik v n⟩, 0⟩]) hsInfo hsZero rfl (by decide) encHe_len encHe_one og12 hgl' rfl (by decide) (reads_all N12) (by show (n + 1) * 144 ≤ 140737488355328; omega) (Nat.le_trans S.hB (Nat.le_trans c09.size n12.ext.size)) fun A' c' h13 o13 K13 hA13 => ?_
      obtain ⟨L, c13, hLn⟩ := K13.toChg og12
      have nin : ∀ k T', T' ≠ 75 → (k, T') ∉ L := fun k T' ne hx => ne (hLn _ hx).1
      have raw13 := c13.blk raw12 (nin _ _ (by decide))
      refine ⟨rfl, rfl, canset_blk raw13 rfl, fun h14 s14 => ?_⟩
      have raw14 : PtRaw h14 xb ⟨F.fb, lA, N, lc, n + 1, some ab, A', n + 1, c', tik v n⟩ := s14.put raw13
      have c14 : Chg [(xb, 41)] h13 h14 := s14.chg raw13 (.head _)
      have cc : Chg ((xb, 41) :: L) _ h14 := (n12.ext.chg _).trans ((c13.mono (by intro p hp; exact .tail _ hp)).trans (c14.mono (by intro p hp; simp at hp; subst hp; simp)))
      have nin' : ∀ k T', T' ≠ 75 → T' ≠ 41 → (k, T') ∉ (xb, 41) :: L := fun k T' n1 n2 hx => by
        rcases List.mem_cons.1 hx with h | h
        · cases h; exact n2 rfl
        · exact nin k T' n1 h
      have inP : ∀ p ∈ (xb, 41) :: L, B ≤ p.1 ∧ p.2 ∈ TyP := fun p hp => by
        rcases List.mem_cons.1 hp with h | h
        · subst h; exact ⟨S.b1, by simp [TyP]⟩
        · obtain ⟨g1, g2⟩ := hLn p h
          exact ⟨g2, by rw [g1]; simp [TyP]⟩
      have s1 := c6.size
      have s2 := c8.size
      refine ⟨ab, ⟨rfl, trivial⟩, ⟨_, ⟨raw14, rfl, rfl, rfl, rfl, rfl, ⟨l, (ol.chg c09 (fun b _ => by simp)).chg cc (fun b _ => nin' _ _ (by decide) (by decide)), hll, hok⟩, ⟨_, o13.chg c14 (fun b _ => by simp), by rw [List.length_append, hgl']; rfl⟩, Q9.chgP cc (fun p hp => (inP p hp).2) (fun k => nin' _ _ (by decide) (by decide)) (fun k => nin' _ _ (by decide) (by decide)) (fun k => nin' _ _ (by decide) (by decide)) (fun k => nin' _ _ (by decide) (by decide)), S.b1, Nat.le_trans S.hB (Nat.le_trans c09.size cc.size), S.n30, S.fit, S.vs⟩, cc.blk (c9.blk A8 (by simp)) (nin' _ _ (by decide) (by decide)), Nat.le_trans S.hB (Nat.le_trans s1 gab), ?_⟩⟩
      refine (c09.chgT S.hB fun p hp => ?_).trans (cc.chgT (Nat.le_trans S.hB c09.size) inP)
      simp at hp
      rcases hp with rfl | rfl
      · exact ⟨S.b1, by simp [TyP]⟩
      · exact ⟨Q.b4 _ hm, by simp [TyP]⟩
  · rintro ab h1 ⟨x1, S1, A1, gab, c1⟩
    have raw1 := S1.raw
    have e1 := S1.xc
    obtain ⟨f, lA, ln, lc, at_, act, gA, gn, gc, id⟩ := x1
    simp only at e1
    subst e1
    repeat (first | refine ⟨_, cell_blk (raw1) rfl, ?_⟩)
    have Q1 := S1.mq
    have hS : n / F.P < F.S := (Nat.div_lt_iff_lt_mul hP).2 (Nat.lt_of_lt_of_le hlt S.fit)
    have hs2 := Q.fab.s2
    have room := rRoom_spec A1 (Q1.rings _ hm) Q1.mem rfl (Q1.cells.tak _ hm) (cN_mono hm (Nat.zero_le n)) (by show cN F.P (n % F.P) n < cN F.P (n % F.P) 0 + F.S; rw [cN_at, cN_zero]; omega) (by show cN F.P (n % F.P) n < 1000000; rw [cN_at]; omega) (by show F.S < 1000000; omega) (by have := Q1.big; omega) (by omega)
    refine (rStep_go (K := fun h' => ActAt h' ab ⟨F.rb (n % F.P) q, 3, 145, tik v n, false, 0, false⟩ ∧ MemAt h' F.mb F.cb F.lb { M with t := M.t + 1 } ∧ Chg [(ab, 182), (F.mb, 176)] h1 h') A1 rfl (room.mono ?_)).mono ?_
    · rintro r h2 ⟨rfl, a2, m2, c2⟩
      exact ⟨rfl, ⟨_, rfl, a2⟩, a2, m2, c2⟩
    rintro r h2 ⟨rfl, a2, m2, c2⟩
    have raw2 := c2.blk raw1 (by simp)
    obtain ⟨l1, ol1, hll1, hok1⟩ := S1.puts
    obtain ⟨g1, og1, hg1⟩ := S1.logs
    have Q2 : MemQ h2 B F q v { M with t := M.t + 1 } n 0 (fun j => j == n % F.P) noB := Q1.updP c2 (by simp [TyP]) m2 Q1.cells (fun j hj => c2.blk (Q1.rings j hj) (by simp)) Q1.tn rfl
    refine ⟨rfl, ⟨_, { M with t := M.t + 1 }, hlk, by show M.t + 1 = T + 1; omega, Nat.le_of_lt hlt, hlt, ab, ⟨raw2, S1.xf, S1.xa, S1.xn, rfl, S1.xg, ⟨l1, ol1.chg c2 (fun b _ => by simp), hll1, hok1⟩, ⟨g1, og1.chg c2 (fun b _ => by simp), hg1⟩, Q2, S1.b1, Nat.le_trans S1.hB c2.size, S1.n30, S1.fit, S1.vs⟩, a2, gab⟩, c1.trans (c2.chgT S1.hB fun p hp => ?_)⟩
    simp at hp
    rcases hp with rfl | rfl
    · exact ⟨gab, by simp [TyP]⟩
    · exact ⟨Q.b1, by simp [TyP]⟩
/-- It is laid. -/
theorem pStep_lay (H : PP h B F xb q v N n 1 T lk) (hT : T < 900000) : HCalls Tryz.prog 12 #[.pointer (some ⟨xb, 0, none⟩), .int .i64 F.P] h (fun r h' => r = .bool true ∧ PP h' B F xb q v N n 2 (T + 1) lk ∧ ChgT B TyP h h') := by
  obtain ⟨x, M, hlk, ht, hnN, hlt, ab, S, A, gab⟩ := H
  have raw := S.raw
  have e3 := S.xc
  have Q := S.mq
  have hP := Q.P0
  have hm := Nat.mod_lt n hP
  have hS : n / F.P < F.S := (Nat.div_lt_iff_lt_mul hP).2 (Nat.lt_of_lt_of_le hlt S.fit)
  have hs2 := Q.fab.s2
  obtain ⟨f, lA, ln, lc, at_, act, gA, gn, gc, id⟩ := x
  simp only at e3
  subst e3
  refine xcalls env_pStep Tryz.func12 rfl (by kernel_rfl) rfl (by kernel_rfl) ?_
  refine ⟨Unit, fun _ => [(0, .pointer (some ⟨xb, 0, none⟩))], fun _ h' => h' = h, ?_, ?_⟩
  · repeat (first | refine ⟨_, cell_blk (raw) rfl, ?_⟩)
    exact ⟨(), ⟨rfl, trivial⟩, rfl⟩
  rintro _ h1 rfl
  repeat (first | refine ⟨_, cell_blk (raw) rfl, ?_⟩)
  have hia : cN F.P (n % F.P) n % F.S = n / F.P := by rw [cN_at, Nat.mod_eq_of_lt hS]
  have lay := rLay_spec A (Q.rings _ hm) Q.mem rfl (by show bs F.b0 F.P F.S q (n % F.P) + (2 + cN F.P (n % F.P) n % F.S) < M.cells.length; rw [hia]; exact Q.cells.place hP Q.hq hS hm) (by have := Q.big; omega) (by omega)
  simp only [hia] at lay
  refine (rStep_go (K := fun h' => ActAt h' ab ⟨F.rb (n % F.P) q, 3, 179, tik v n, false, 0, false⟩ ∧ MemAt h' F.mb F.cb F.lb { M with cells := M.cells.set (bs F.b0 F.P F.S q (n % F.P) + (2 + n / F.P)) (tik v n), t := M.t + 1 } ∧ Chg ((ab, 182) :: ML F.mb F.cb F.lb) h1 h') A rfl (lay.mono ?_)).mono ?_
  · rintro r h2 ⟨rfl, a2, m2, c2⟩
    exact ⟨rfl, ⟨_, rfl, a2⟩, a2, m2, c2⟩
  rintro r h2 ⟨rfl, a2, m2, c2⟩
  have raw2 := c2.blk raw (by simp [ML])
  obtain ⟨l1, ol1, hll1, hok1⟩ := S.puts
  obtain ⟨g1, og1, hg1⟩ := S.logs
  have Q2 : MemQ h2 B F q v { M with cells := M.cells.set (bs F.b0 F.P F.S q (n % F.P) + (2 + n / F.P)) (tik v n), t := M.t + 1 } n 0 (fun j => j == n % F.P) noB := Q.updP c2 (by simp [TyP, ML]) m2 (Q.cells.lay hP Q.hq hS _) (fun j hj => c2.blk (Q.rings j hj) (by simp [ML])) Q.tn (List.length_set ..)
  refine ⟨rfl, ⟨_, { M with cells := M.cells.set (bs F.b0 F.P F.S q (n % F.P) + (2 + n / F.P)) (tik v n), t := M.t + 1 }, hlk, by show M.t + 1 = T + 1; omega, hnN, hlt, ab, ⟨raw2, S.xf, S.xa, S.xn, rfl, S.xg, ⟨l1, ol1.chg c2 (fun b _ => by simp [ML]), hll1, hok1⟩, ⟨g1, og1.chg c2 (fun b _ => by simp [ML]), hg1⟩, Q2, S.b1, Nat.le_trans S.hB c2.size, S.n30, S.fit, S.vs⟩, a2, gab, List.getElem?_set_self (Q.cells.place hP Q.hq hS hm)⟩, c2.chgT S.hB fun p hp => ?_⟩
  simp [ML] at hp
  rcases hp with rfl | rfl | rfl | rfl
  · exact ⟨gab, by simp [TyP]⟩
  · exact ⟨Q.b1, by simp [TyP]⟩
  · exact ⟨Q.b2, by simp [TyP]⟩
  · exact ⟨Q.b3, by simp [TyP]⟩
end
end Go.Proofs.YthoikbogkhpciaaGreatE
