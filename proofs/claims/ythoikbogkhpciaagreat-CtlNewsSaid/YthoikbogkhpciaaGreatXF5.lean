/- An egress, step by step, at a port that is shut, as long as something waits at the ring that is next. Conditions: numbers were put in turn. -/
import Derived.Test.YthoikbogkhpciaaGreatXF4
set_option linter.unusedVariables false
set_option linter.unusedSimpArgs false
set_option maxRecDepth 100000
namespace Go.Proofs.YthoikbogkhpciaaGreatE
open Go Go.Proofs
/-- What was taken. -/
structure Sn where
  tick : Int
  from_ : Int
  to : Int
  how : Int
  mark : Int
def encSent (x : Sn) : List Value := [.int .i64 x.tick, .int .i64 x.from_, .int .i64 x.to, .int .i64 x.how, .int .i64 x.mark]
theorem encSent_len (x : Sn) : (encSent x).length = 5 := rfl
theorem encSent_one (x : Sn) : (encSent x).all Value.oneCell' = true := rfl
/-- What stands in an egress. -/
structure EgV where
  f : Nat
  p : Nat
  who : Int
  nb : Nat
  next : Value
  act : Option Nat
  mem : Int
  sA : Option Addr
  sn : Nat
  sc : Nat
  lA : Option Addr
  ln : Nat
  lc : Nat
  since : Int
def encEg (x : EgV) : List Value := [.pointer (some ⟨x.f, 0, none⟩), .int .i64 (x.p : Int), .int .i64 x.who, .pointer (some ⟨x.nb, 0, none⟩), x.next, ptrO x.act, .int .u64 x.mem, .slice x.sA x.sn x.sc, .slice x.lA x.ln x.lc, .int .i64 x.since]
def EgRaw (h : Heap) (eb : Nat) (x : EgV) : Prop := h[eb]? = some (.cells (encEg x).toArray 131 (0, 0))
def TyE : List TypeId := [131, 51, 75, 186, 220, 182, 151, 176, 33, 3]
theorem FabAt.chg {l : List (Nat × TypeId)} {h h' : Heap} {F : Fb} (H : FabAt h F) (c : Chg l h h') (hl : ∀ p ∈ l, p.2 ∈ TyE) : FabAt h' F :=
  H.chgT (c.chgT (B := 0) (Nat.zero_le _) fun p hp => ⟨Nat.zero_le _, hl p hp⟩) (by decide) (by decide) (by decide) (by decide) (by decide)
/-- The switch's memory and the rings to port q, when n numbers were put there, and t taken; at which rings somebody is at it. -/
structure MemQ (h : Heap) (B : Nat) (F : Fb) (q v : Nat) (M : MemS) (n t : Nat) (pb ob : Nat → Bool) : Prop where
  fab : FabAt h F
  mem : MemAt h F.mb F.cb F.lb M
  cells : CellsOk F.b0 F.P F.S q v M.cells n t
  rings : ∀ j, j < F.P → RingAt h (F.rb j q) F.mb ⟨bs F.b0 F.P F.S q j, F.S, cN F.P j n, cN F.P j n % F.S, pb j, cN F.P j t, cN F.P j t % F.S, ob j⟩
  inj : ∀ j k, j < F.P → k < F.P → F.rb j q = F.rb k q → j = k
  hq : q < F.P
  tn : t ≤ n
  big : M.cells.length < 10000000
  b1 : B ≤ F.mb
  b2 : B ≤ F.cb
  b3 : B ≤ F.lb
  b4 : ∀ j, j < F.P → B ≤ F.rb j q
section
variable {B : Nat} {F : Fb} {q v n t : Nat} {M : MemS} {pb ob : Nat → Bool} {h h' : Heap}
theorem MemQ.upd (Q : MemQ h B F q v M n t pb ob) {l : List (Nat × TypeId)} (c : Chg l h h') (hl : ∀ p ∈ l, p.2 ∈ TyE) {M' : MemS} {n' t' : Nat} {pb' ob' : Nat → Bool} (HM : MemAt h' F.mb F.cb F.lb M') (HC : CellsOk F.b0 F.P F.S q v M'.cells n' t')
    (HR : ∀ j, j < F.P → RingAt h' (F.rb j q) F.mb ⟨bs F.b0 F.P F.S q j, F.S, cN F.P j n', cN F.P j n' % F.S, pb' j, cN F.P j t', cN F.P j t' % F.S, ob' j⟩) (tn : t' ≤ n') (hlen : M'.cells.length = M.cells.length) : MemQ h' B F q v M' n' t' pb' ob' :=
  ⟨Q.fab.chg c hl, HM, HC, HR, Q.inj, Q.hq, tn, by rw [hlen]; exact Q.big, Q.b1, Q.b2, Q.b3, Q.b4⟩
/-- Nothing of it is changed. -/
theorem MemQ.chg (Q : MemQ h B F q v M n t pb ob) {l : List (Nat × TypeId)} (c : Chg l h h') (hl : ∀ p ∈ l, p.2 ∈ TyE) (n1 : ∀ k, (k, 176) ∉ l) (n2 : ∀ k, (k, 33) ∉ l) (n3 : ∀ k, (k, 3) ∉ l) (n4 : ∀ k, (k, 151) ∉ l) : MemQ h' B F q v M n t pb ob :=
  Q.upd c hl (Q.mem.chg c (n1 _) (n2 _) (n3 _)) Q.cells (fun j hj => c.blk (Q.rings j hj) (n4 _)) Q.tn rfl
theorem MemQ.ext (Q : MemQ h B F q v M n t pb ob) (x : Ext h h') : MemQ h' B F q v M n t pb ob := Q.chg (x.chg []) (by simp) (by simp) (by simp) (by simp) (by simp)
/-- Time goes on, and a lock changes hands. -/
theorem MemQ.time (Q : MemQ h B F q v M n t pb ob) {l : List (Nat × TypeId)} (c : Chg l h h') (hl : ∀ p ∈ l, p.2 ∈ TyE) (n4 : ∀ k, (k, 151) ∉ l) {M' : MemS} (HM : MemAt h' F.mb F.cb F.lb M') (e : M'.cells = M.cells) : MemQ h' B F q v M' n t pb ob :=
  Q.upd c hl HM (by rw [e]; exact Q.cells) (fun j hj => c.blk (Q.rings j hj) (n4 _)) Q.tn (by rw [e])
theorem MemQ.P0 (Q : MemQ h B F q v M n t pb ob) : 0 < F.P := by have := Q.fab.p1; omega
/-- How many wait, in all. -/
theorem MemQ.waits (Q : MemQ h B F q v M n t pb ob) : 0 < sumTo (fun j => cN F.P j n - cN F.P j t) F.P ↔ t < n := by
  have hP := Q.P0
  constructor
  · intro hs
    rcases Nat.lt_or_ge t n with h1 | h1
    · exact h1
    · have e : t = n := by have := Q.tn; omega
      subst e
      exfalso
      have : ∀ k, sumTo (fun j => cN F.P j t - cN F.P j t) k = 0 := by
        intro k
        induction k with
        | zero => rfl
        | succ k ih =>
          show sumTo (fun j => cN F.P j t - cN F.P j t) k + (cN F.P k t - cN F.P k t) = 0
          omega
      rw [this] at hs
      omega
  · intro hlt
    have h1 := cN_lt hP hlt
    have hm := Nat.mod_lt t hP
    have key : ∀ k, t % F.P < k → 0 < sumTo (fun j => cN F.P j n - cN F.P j t) k := by
      intro k
      induction k with
      | zero => intro h; omega
      | succ k ih =>
        intro h2
        show 0 < sumTo _ k + (cN F.P k n - cN F.P k t)
        rcases Nat.lt_or_ge (t % F.P) k with h3 | h3
        · have := ih h3; omega
        · have : k = t % F.P := by omega
          subst this
          omega
    exact key F.P hm
end
section
variable {h : Heap} {eb : Nat} {x : EgV}
theorem iVid_spec {i v : Nat} (hv : v < 4096) (hi : i < 1000000) : HCalls Tryz.prog 20 #[.int .i64 (tik v i)] h (fun r h' => r = .int .i64 (v : Int) ∧ h' = h) := by
  refine xcalls env0 Tryz.func20 rfl (by kernel_rfl) rfl (by kernel_rfl) ?_
  refine ⟨by decide, ?_, rfl⟩
  show Value.int .i64 ((if tik v i < 0 then 0 else tik v i).tmod 4096) = _
  rw [if_neg (by unfold tik; omega), Int.tmod_eq_emod_of_nonneg (by unfold tik; omega)]
  unfold tik
  congr 1
  omega
theorem iId_spec {i v : Nat} (hv : v < 4096) (hi : i < 1000000) : HCalls Tryz.prog 19 #[.int .i64 (tik v i)] h (fun r h' => r = .int .i64 (i : Int) ∧ h' = h) := by
  refine xcalls env0 Tryz.func19 rfl (by kernel_rfl) rfl (by kernel_rfl) ?_
  refine ⟨by decide, ?_, rfl⟩
  show Value.int .i64 (IntKind.i64.wrap ((if tik v i < 0 then 0 else tik v i).tdiv 4096)) = _
  rw [if_neg (by unfold tik; omega), Int.tdiv_eq_ediv_of_nonneg (by unfold tik; omega)]
  unfold tik
  rw [wrap_i64 (by omega) (by omega)]
  congr 1
  omega
theorem iTicket_spec {i v : Nat} (hv : v < 4096) (hi : i < 1000000) : HCalls Tryz.prog 55 #[.int .i64 i, .int .i64 v] h (fun r h' => r = .int .i64 (tik v i) ∧ h' = h) := by
  refine xcalls env0 Tryz.func55 rfl (by kernel_rfl) rfl (by kernel_rfl) ?_
  refine xif_false (decide_eq_false ?_) ?_
  · show ¬ (i : Int) > 1099511627776
    omega
  refine xif_false (decide_eq_false ?_) ?_
  · show ¬ (v : Int) ≥ 4096
    omega
  refine ⟨?_, rfl⟩
  show Value.int .i64 (IntKind.i64.wrap (IntKind.i64.wrap ((i : Int) * 4096) + v)) = _
  rw [wrap_i64 (x := (i : Int) * 4096) (by omega) (by omega), wrap_i64 (by omega) (by omega)]
  rfl
theorem eIdle_nil (H : EgRaw h eb x) (hn : x.next = .nilFunc) : HCalls Tryz.prog 16 #[.pointer (some ⟨eb, 0, none⟩)] h (fun r h' => r = .bool true ∧ h' = h) := by
  obtain ⟨f, p, who, nb, next, act, mem, sA, sn, sc, lA, ln, lc, since⟩ := x
  simp only at hn
  subst hn
  refine xcalls env0 Tryz.func16 rfl (by kernel_rfl) rfl (by kernel_rfl) ?_
  repeat (first | refine ⟨_, cell_blk (H) rfl, ?_⟩)
  exact ⟨rfl, rfl⟩
theorem eIdle_fn (H : EgRaw h eb x) {f : Nat} (hn : x.next = .func (.func f) #[] #[]) : HCalls Tryz.prog 16 #[.pointer (some ⟨eb, 0, none⟩)] h (fun r h' => r = .bool false ∧ h' = h) := by
  obtain ⟨f', p, who, nb, next, act, mem, sA, sn, sc, lA, ln, lc, since⟩ := x
  simp only at hn
  subst hn
  refine xcalls env0 Tryz.func16 rfl (by kernel_rfl) rfl (by kernel_rfl) ?_
  repeat (first | refine ⟨_, cell_blk (H) rfl, ?_⟩)
  exact ⟨rfl, rfl⟩
theorem eTime_spec (H : EgRaw h eb x) {F : Fb} {M : MemS} (hf : x.f = F.fb) (HF : FabAt h F) (HM : MemAt h F.mb F.cb F.lb M) : HCalls Tryz.prog 108 #[.pointer (some ⟨eb, 0, none⟩)] h (fun r h' => r = .int .i64 M.t ∧ h' = h) := by
  obtain ⟨f', p, who, nb, next, act, mem, sA, sn, sc, lA, ln, lc, since⟩ := x
  simp only at hf
  subst hf
  refine xcalls env0 Tryz.func108 rfl (by kernel_rfl) rfl (by kernel_rfl) ?_
  repeat (first | refine ⟨_, cell_blk (H) rfl, ?_⟩)
  refine (cMem_spec HF).mono ?_
  rintro v h1 ⟨rfl, rfl⟩
  refine (mTime_spec HM).mono ?_
  rintro v h1 ⟨rfl, rfl⟩
  exact ⟨rfl, rfl⟩
theorem eWaits_spec {B : Nat} {F : Fb} {q v n t : Nat} {M : MemS} {pb ob : Nat → Bool} {R : Option Addr} {rc lat : Nat} {act : Option Nat} (H : EgRaw h eb x) (HL : LaneAt h x.nb R F.P rc lat act) (own : OwnA encPtr 1 91 B h R rc ((List.range F.P).map fun j => F.rb j q)) (Q : MemQ h B F q v M n t pb ob) (hn : n < 1000000) :
    HCalls Tryz.prog 15 #[.pointer (some ⟨eb, 0, none⟩)] h (fun r h' => r = .bool (decide (t < n)) ∧ h' = h) := by
  obtain ⟨f', p, who, nb, next, act', mem, sA, sn, sc, lA, ln, lc, since⟩ := x
  refine xcalls env0 Tryz.func15 rfl (by kernel_rfl) rfl (by kernel_rfl) ?_
  repeat (first | refine ⟨_, cell_blk (H) rfl, ?_⟩)
  refine (nLen_spec (f := fun j => cN F.P j n - cN F.P j t) HL (own.row encPtr_len) (by simp) Q.fab.p2 Q.mem (by have := Q.big; omega) ?_ ?_).mono ?_
  · intro j
    have := cN_bound (j := j) (n := n) Q.P0
    show cN F.P j n - cN F.P j t ≤ 1000000
    omega
  · intro j rb hj
    have hjP : j < F.P := by have := (List.getElem?_eq_some_iff.1 hj).1; simpa using this
    rw [List.getElem?_map, List.getElem?_range hjP] at hj
    cases hj
    have := cN_bound (j := j) (n := n) Q.P0
    exact ⟨_, _, _, Q.rings j hjP, Q.cells.put j hjP, Q.cells.tak j hjP, cN_mono hjP Q.tn, by omega, rfl⟩
  rintro r h1 ⟨rfl, rfl⟩
  refine ⟨congrArg Value.bool ?_, rfl⟩
  rw [Bool.eq_iff_iff, decide_eq_true_iff, decide_eq_true_iff, ← Q.waits]
  omega
end
structure Eg where
  eb : Nat
  nb : Nat
  R : Option Addr
  rc : Nat
  who : Int
  q : Nat
/-- An egress at port q, and the switch's memory: n numbers put, tt taken, sents told, nl entries in its log. -/
structure EgS (h : Heap) (B : Nat) (F : Fb) (e : Eg) (v : Nat) (x : EgV) (M : MemS) (n tt : Nat) (ob : Nat → Bool) (lat : Nat) (sents : List Sn) (nl : Nat) : Prop where
  raw : EgRaw h e.eb x
  xf : x.f = F.fb
  xp : x.p = e.q
  xw : x.who = e.who
  xn : x.nb = e.nb
  xs : x.sn = sents.length
  xl : x.ln = nl
  own : OwnA encSent 5 51 B h x.sA x.sc sents
  logs : ∃ l, OwnA encHe 19 75 B h x.lA x.lc l ∧ l.length = nl
  lane : LaneAt h e.nb e.R F.P e.rc lat x.act
  rows : OwnA encPtr 1 91 B h e.R e.rc ((List.range F.P).map fun j => F.rb j e.q)
  mq : MemQ h B F e.q v M n tt (fun _ => false) ob
  b1 : B ≤ e.eb
  b2 : B ≤ e.nb
  hB : B ≤ h.size
  who : 0 ≤ e.who
  small : n ≤ 1000
  vs : v < 4096
def noB : Nat → Bool := fun _ => false
/-- Nothing is being done (but that next may be anything); a number is being taken; it was. -/
def ZP (h : Heap) (B : Nat) (F : Fb) (e : Eg) (v n t : Nat) (sents : List Sn) (T : Nat) (x : EgV) : Prop :=
  ∃ M, EgS h B F e v x M n t noB (t % F.P) sents (2 * t) ∧ (x.act = none ∨ ∃ tb a, x.act = some tb ∧ LActAt h tb a ∧ a.over = true) ∧ M.locks[e.q]? = some (-1) ∧ M.t = T
def TP (h : Heap) (B : Nat) (F : Fb) (e : Eg) (v n t : Nat) (sents : List Sn) (T : Nat) (next : Nat) (val : Int) (x : EgV) : Prop :=
  ∃ M tb pb, EgS h B F e v x M n t (fun j => j == t % F.P) (t % F.P) sents (2 * t) ∧ x.act = some tb ∧ LActAt h tb ⟨e.nb, pb, 0, 0, false⟩ ∧ ActAt h pb ⟨F.rb (t % F.P) e.q, 6, next, val, false, 0, false⟩ ∧ M.locks[e.q]? = some e.who ∧ M.t = T ∧ B ≤ tb ∧ B ≤ pb
def FP (h : Heap) (B : Nat) (F : Fb) (e : Eg) (v n t : Nat) (sents : List Sn) (T : Nat) (nl : Nat) (x : EgV) : Prop :=
  ∃ M tb pb mk rb nx, EgS h B F e v x M n (t + 1) noB ((t + 1) % F.P) sents nl ∧ x.act = some tb ∧ LActAt h tb ⟨e.nb, pb, 0, t % F.P, true⟩ ∧ ActAt h pb ⟨rb, 6, nx, tik v t, true, mk, true⟩ ∧ M.locks[e.q]? = some e.who ∧ M.t = T
section
variable {h h' : Heap} {B : Nat} {F : Fb} {e : Eg} {v : Nat} {x : EgV} {M : MemS} {n tt : Nat} {ob : Nat → Bool} {lat : Nat} {sents : List Sn} {nl : Nat}
/-- Another value of next. -/
theorem EgS.next (S : EgS h B F e v x M n tt ob lat sents nl) {f : Value} (s : Stored h ⟨e.eb, 4, none⟩ [f] h') : EgS h' B F e v { x with next := f } M n tt ob lat sents nl ∧ Chg [(e.eb, 131)] h h' := by
  have c : Chg [(e.eb, 131)] h h' := s.chg S.raw (.head _)
  obtain ⟨l, ol, hl⟩ := S.logs
  exact ⟨⟨s.put S.raw, S.xf, S.xp, S.xw, S.xn, S.xs, S.xl, S.own.chg c (fun b _ => by simp), ⟨l, ol.chg c (fun b _ => by simp), hl⟩, c.blk S.lane (by simp), S.rows.chg c (fun b _ => by simp), S.mq.chg c (by simp [TyE]) (by simp) (by simp) (by simp) (by simp), S.b1, S.b2, Nat.le_trans S.hB c.size, S.who, S.small, S.vs⟩, c⟩
theorem EgS.upd (S : EgS h B F e v x M n tt ob lat sents nl) {l : List (Nat × TypeId)} (c : Chg l h h') (n1 : ∀ k, (k, 131) ∉ l) (n2 : ∀ k, (k, 51) ∉ l) (n3 : ∀ k, (k, 75) ∉ l) (n4 : ∀ k, (k, 91) ∉ l) {M' : MemS} {n' tt' lat' : Nat} {ob' : Nat → Bool}
    (Q : MemQ h' B F e.q v M' n' tt' (fun _ => false) ob') (L : LaneAt h' e.nb e.R F.P e.rc lat' x.act) (hn : n' ≤ 1000) : EgS h' B F e v x M' n' tt' ob' lat' sents nl := by
  obtain ⟨l, ol, hl⟩ := S.logs
  exact ⟨c.blk S.raw (n1 _), S.xf, S.xp, S.xw, S.xn, S.xs, S.xl, S.own.chg c (fun b _ => n2 b), ⟨l, ol.chg c (fun b _ => n3 b), hl⟩, L, S.rows.chg c (fun b _ => n4 b), Q, S.b1, S.b2, Nat.le_trans S.hB c.size, S.who, hn, S.vs⟩
theorem ZP.next {t T : Nat} (Z : ZP h B F e v n t sents T x) {f : Value} (s : Stored h ⟨e.eb, 4, none⟩ [f] h') : ZP h' B F e v n t sents T { x with next := f } ∧ Chg [(e.eb, 131)] h h' := by
  obtain ⟨M, S, ha, hl, ht⟩ := Z
  obtain ⟨S', c⟩ := S.next s
  refine ⟨⟨M, S', ?_, hl, ht⟩, c⟩
  rcases ha with ha | ⟨tb, a, h1, h2, h3⟩
  · exact .inl ha
  · exact .inr ⟨tb, a, h1, c.blk h2 (by simp), h3⟩
theorem TP.next {t T nx : Nat} {val : Int} (Z : TP h B F e v n t sents T nx val x) {f : Value} (s : Stored h ⟨e.eb, 4, none⟩ [f] h') : TP h' B F e v n t sents T nx val { x with next := f } ∧ Chg [(e.eb, 131)] h h' := by
  obtain ⟨M, tb, pb, S, ha, hL, hA, r⟩ := Z
  obtain ⟨S', c⟩ := S.next s
  exact ⟨⟨M, tb, pb, S', ha, c.blk hL (by simp), c.blk hA (by simp), r⟩, c⟩
theorem FP.next {t T nl : Nat} (Z : FP h B F e v n t sents T nl x) {f : Value} (s : Stored h ⟨e.eb, 4, none⟩ [f] h') : FP h' B F e v n t sents T nl { x with next := f } ∧ Chg [(e.eb, 131)] h h' := by
  obtain ⟨M, tb, pb, mk, rb, nx, S, ha, hL, hA, r⟩ := Z
  obtain ⟨S', c⟩ := S.next s
  exact ⟨⟨M, tb, pb, mk, rb, nx, S', ha, c.blk hL (by simp), c.blk hA (by simp), r⟩, c⟩
end
/-- A step of an egress at which something is being done. -/
theorem eStep_busy {h : Heap} {eb : Nat} {x : EgV} {f : Nat} (nx : Value) (b : Bool) {K : EgV → Heap → Prop} (H : EgRaw h eb x) (hn : x.next = .func (.func f) #[] #[]) (hnx : (nx = .nilFunc ∧ b = true) ∨ ∃ g, nx = .func (.func g) #[] #[] ∧ b = false)
    (hf : HCalls Tryz.prog f #[.pointer (some ⟨eb, 0, none⟩)] h (fun v h' => v = nx ∧ ∃ x', EgRaw h' eb x' ∧ K x' h')) :
    HCalls Tryz.prog 17 #[.pointer (some ⟨eb, 0, none⟩)] h (fun v h' => v = .bool b ∧ ∃ x' h1, K x' h1 ∧ EgRaw h' eb { x' with next := nx } ∧ Stored h1 ⟨eb, 4, none⟩ [nx] h') := by
  have hid := eIdle_fn H hn
  obtain ⟨f', p, who, nb, next, act, mem, sA, sn, sc, lA, ln, lc, since⟩ := x
  simp only at hn
  subst hn
  refine xcalls env0 Tryz.func17 rfl (by kernel_rfl) rfl (by kernel_rfl) ?_
  refine hid.mono ?_
  rintro v h1 ⟨rfl, rfl⟩
  repeat (first | refine ⟨_, cell_blk (H) rfl, ?_⟩)
  refine hf.mono ?_
  rintro v h2 ⟨rfl, x', H2, k⟩
  obtain ⟨f', p, who, nb, next, act, mem, sA, sn, sc, lA, ln, lc, since⟩ := x'
  rcases hnx with ⟨rfl, rfl⟩ | ⟨g, rfl, rfl⟩
  · refine ⟨rfl, rfl, canset_blk H2 rfl, fun h3 s3 => ?_⟩
    have H3 : EgRaw h3 eb ⟨f', p, who, nb, .nilFunc, act, mem, sA, sn, sc, lA, ln, lc, since⟩ := s3.put H2
    refine (eIdle_nil H3 rfl).mono ?_
    rintro v h4 ⟨rfl, rfl⟩
    exact ⟨rfl, _, h2, k, H3, s3⟩
  · refine ⟨rfl, rfl, canset_blk H2 rfl, fun h3 s3 => ?_⟩
    have H3 : EgRaw h3 eb ⟨f', p, who, nb, .func (.func g) #[] #[], act, mem, sA, sn, sc, lA, ln, lc, since⟩ := s3.put H2
    refine (eIdle_fn H3 rfl).mono ?_
    rintro v h4 ⟨rfl, rfl⟩
    exact ⟨rfl, _, h2, k, H3, s3⟩
end Go.Proofs.YthoikbogkhpciaaGreatE
