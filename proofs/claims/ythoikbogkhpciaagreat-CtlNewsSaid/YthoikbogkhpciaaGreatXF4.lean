/- What goes out at a port: lanes, and an egress, step by step. Conditions: something waits at the ring that is next. -/
import Derived.Test.YthoikbogkhpciaaGreatXF7
set_option linter.unusedVariables false
set_option linter.unusedSimpArgs false
set_option maxRecDepth 100000
namespace Go.Proofs.YthoikbogkhpciaaGreatE
open Go Go.Proofs
def env_nNext : Nat → Ann
  | 4 => ⟨.op 0 [] <| .op 1 [] <| .op 2 [] <| .op 3 [] <| .op 4 [] <| .op 5 [] <| .op 6 [] <| .op 7 [] <| .op 8 [] <| .op 9 [] <| .op 10 [] <| .op 11 [] <| .op 12 [3, 7] <| .op 13 [] <| .op 14 [] <| .op 15 [3] <| .op 16 [] <| .op 17 [] <| .op 18 [] <| .nil, [0, 1, 3, 7, 0, 16, 48, 112, 0, 256, 768, 1792, 3840, 8176, 16368, 32752, 65535, 131071, 262143], false⟩
  | _ => ⟨.nil, [], false⟩
def env_nRing : Nat → Ann
  | 1 => ⟨.op 0 [] <| .op 1 [] <| .op 2 [] <| .op 3 [] <| .op 4 [] <| .op 5 [] <| .op 6 [] <| .op 7 [] <| .op 8 [] <| .op 9 [] <| .op 10 [] <| .op 11 [] <| .op 12 [] <| .op 13 [] <| .op 14 [] <| .op 15 [] <| .op 16 [] <| .op 17 [] <| .op 18 [] <| .op 19 [] <| .op 20 [] <| .op 21 [] <| .nil, [0, 1, 3, 7, 15, 31, 63, 0, 128, 384, 896, 2047, 0, 4096, 12288, 28672, 61440, 126976, 258048, 520192, 1048575, 2097151], false⟩
  | _ => ⟨.nil, [], false⟩
def env_nStep : Nat → Ann
  | 7 => ⟨.op 0 [] <| .op 1 [] <| .op 2 [] <| .op 3 [] <| .op 4 [] <| .op 5 [] <| .op 6 [] <| .op 7 [] <| .op 8 [] <| .op 9 [] <| .op 10 [] <| .op 11 [] <| .op 12 [] <| .op 13 [] <| .op 14 [] <| .op 15 [] <| .op 16 [] <| .op 17 [] <| .op 18 [] <| .op 19 [] <| .op 20 [] <| .nil, [0, 1, 3, 7, 0, 16, 48, 112, 240, 0, 512, 1536, 3584, 7680, 15872, 32256, 65024, 131056, 262143, 524287, 1048575], false⟩
  | 8 => ⟨.op 0 [] <| .op 1 [] <| .op 2 [] <| .op 3 [] <| .op 4 [] <| .op 5 [] <| .op 6 [] <| .op 7 [] <| .op 8 [] <| .op 9 [] <| .op 10 [] <| .op 11 [] <| .op 12 [] <| .op 13 [] <| .op 14 [] <| .nil, [0, 1, 3, 7, 0, 16, 48, 112, 240, 496, 1008, 2032, 4080, 8191, 16383], false⟩
  | 4 => ⟨.op 0 [] <| .op 1 [] <| .op 2 [] <| .op 3 [] <| .op 4 [] <| .op 5 [] <| .op 6 [] <| .op 7 [] <| .op 8 [] <| .op 9 [4, 7] <| .op 10 [] <| .op 11 [] <| .op 12 [] <| .op 13 [] <| .op 14 [] <| .op 15 [] <| .nil, [0, 0, 2, 6, 14, 30, 62, 126, 0, 256, 1022, 2046, 4094, 8191, 16383, 32767], false⟩
  | _ => ⟨.nil, [], false⟩
def ptrO (o : Option Nat) : Value := .pointer (o.map fun b => ⟨b, 0, none⟩)
/-- A lane: its rings (as a list of its own), which one is next, what is under way. -/
def LaneAt (h : Heap) (nb : Nat) (A : Option Addr) (n c at_ : Nat) (act : Option Nat) : Prop := h[nb]? = some (.cells [.slice A n c, .int .i64 (at_ : Int), ptrO act].toArray 186 (0, 0))
/-- A taking. -/
structure LA where
  nb : Nat
  pop : Nat
  looked : Nat
  from_ : Nat
  over : Bool
def encLA (a : LA) : List Value := [.pointer (some ⟨a.nb, 0, none⟩), .pointer (some ⟨a.pop, 0, none⟩), .int .i64 (a.looked : Int), .int .i64 (a.from_ : Int), .bool a.over]
def LActAt (h : Heap) (b : Nat) (a : LA) : Prop := h[b]? = some (.cells (encLA a).toArray 220 (0, 0))
section
variable {h : Heap} {nb tb pb : Nat} {a : LA} {A : AS}
theorem nOver_nil : HCalls Tryz.prog 147 #[.pointer none] h (fun v h' => v = .bool true ∧ h' = h) := by
  refine xcalls env0 Tryz.func147 rfl (by kernel_rfl) rfl (by kernel_rfl) ?_
  exact ⟨rfl, rfl⟩
theorem nOver_spec (H : LActAt h tb a) : HCalls Tryz.prog 147 #[.pointer (some ⟨tb, 0, none⟩)] h (fun v h' => v = .bool a.over ∧ h' = h) := by
  refine xcalls env0 Tryz.func147 rfl (by kernel_rfl) rfl (by kernel_rfl) ?_
  repeat (first | refine ⟨_, cell_blk (H) rfl, ?_⟩)
  exact ⟨rfl, rfl⟩
theorem nOk_spec (H : LActAt h tb a) (ho : a.over = true) (HA : ActAt h a.pop A) : HCalls Tryz.prog 151 #[.pointer (some ⟨tb, 0, none⟩)] h (fun v h' => v = .bool A.ok ∧ h' = h) := by
  refine xcalls env0 Tryz.func151 rfl (by kernel_rfl) rfl (by kernel_rfl) ?_
  obtain ⟨nb', pop, lk, fr, ov⟩ := a
  simp only at ho HA
  subst ho
  repeat (first | refine ⟨_, cell_blk (H) rfl, ?_⟩)
  refine (rOk_spec HA).mono ?_
  rintro v h1 ⟨rfl, rfl⟩
  exact ⟨rfl, rfl⟩
theorem nMark_spec (H : LActAt h tb a) (ho : a.over = true) (HA : ActAt h a.pop A) : HCalls Tryz.prog 155 #[.pointer (some ⟨tb, 0, none⟩)] h (fun v h' => v = .int .i64 A.mark ∧ h' = h) := by
  refine xcalls env0 Tryz.func155 rfl (by kernel_rfl) rfl (by kernel_rfl) ?_
  obtain ⟨nb', pop, lk, fr, ov⟩ := a
  simp only at ho HA
  subst ho
  repeat (first | refine ⟨_, cell_blk (H) rfl, ?_⟩)
  refine (rMark_spec HA).mono ?_
  rintro v h1 ⟨rfl, rfl⟩
  exact ⟨rfl, rfl⟩
theorem nFrom_spec (H : LActAt h tb a) (ho : a.over = true) (HA : ActAt h a.pop A) (hk : A.ok = true) : HCalls Tryz.prog 154 #[.pointer (some ⟨tb, 0, none⟩)] h (fun v h' => v = .int .i64 a.from_ ∧ h' = h) := by
  refine xcalls env0 Tryz.func154 rfl (by kernel_rfl) rfl (by kernel_rfl) ?_
  refine (nOk_spec H ho HA).mono ?_
  rintro v h1 ⟨rfl, rfl⟩
  rw [hk]
  repeat (first | refine ⟨_, cell_blk (H) rfl, ?_⟩)
  exact ⟨rfl, rfl⟩
theorem nValue_spec (H : LActAt h tb a) (ho : a.over = true) (HA : ActAt h a.pop A) (hk : A.ok = true) : HCalls Tryz.prog 153 #[.pointer (some ⟨tb, 0, none⟩)] h (fun v h' => v = .int .u64 A.value ∧ h' = h) := by
  refine xcalls env0 Tryz.func153 rfl (by kernel_rfl) rfl (by kernel_rfl) ?_
  refine (nOk_spec H ho HA).mono ?_
  rintro v h1 ⟨rfl, rfl⟩
  rw [hk]
  repeat (first | refine ⟨_, cell_blk (H) rfl, ?_⟩)
  refine (rValue_spec HA).mono ?_
  rintro v h1 ⟨rfl, rfl⟩
  rw [hk]
  exact ⟨rfl, rfl⟩
theorem nIndex_nil {A : Option Addr} {c n : Nat} {l : List Nat} (hr : Row encPtr 1 h A l) (hl : l.length = n) (hn : n ≤ 1000) : HCalls Tryz.prog 146 #[.slice A n c, .pointer none] h (fun v h' => v = .int .i64 (-1) ∧ h' = h) := by
  subst hl
  refine xcalls env0 Tryz.func146 rfl (by kernel_rfl) rfl (by kernel_rfl) ?_
  refine ⟨Nat, fun i => [(0, .slice A l.length c), (1, .pointer none), (7, .int .i64 l.length), (8, .int .i64 i)], fun i h' => i ≤ l.length ∧ h' = h, fun i => l.length - i, 0, ⟨rfl, rfl, rfl, rfl, trivial⟩, ⟨Nat.zero_le _, rfl⟩, ?_⟩
  rintro i h1 ⟨hi, rfl⟩
  refine xif_of (fun q => ?_) (fun q => ?_)
  · have q : (i : Int) < l.length := of_decide_eq_true q
    obtain ⟨v, hv⟩ : ∃ v, l[i]? = some v := ⟨l[i]'(by omega), List.getElem?_eq_getElem (by omega)⟩
    obtain ⟨a, rfl, hrd⟩ := hr i v hv
    refine ⟨a, rfl, Int.natCast_nonneg i, q, _, hrd.cons, ?_⟩
    exact ⟨i + 1, ⟨rfl, rfl, rfl, slot_inc (by omega), trivial⟩, ⟨by omega, rfl⟩, by show l.length - (i + 1) < l.length - i; omega⟩
  · exact ⟨rfl, rfl⟩
theorem nContains_nil {A : Option Addr} {c n : Nat} {l : List Nat} (hr : Row encPtr 1 h A l) (hl : l.length = n) (hn : n ≤ 1000) : HCalls Tryz.prog 105 #[.slice A n c, .pointer none] h (fun v h' => v = .bool false ∧ h' = h) := by
  refine xcalls env0 Tryz.func105 rfl (by kernel_rfl) rfl (by kernel_rfl) ?_
  refine (nIndex_nil hr hl hn).mono ?_
  rintro v h1 ⟨rfl, rfl⟩
  exact ⟨rfl, rfl⟩
theorem nClone_spec {base : Nat} {A : Option Addr} {c n : Nat} {l : List Nat} (own : OwnA encPtr 1 91 base h A c l) (hl : l.length = n) (hn : n ≤ 100000) : HCalls Tryz.prog 106 #[.slice A n c] h (fun v h' => ∃ A' c', v = .slice A' n c' ∧ OwnA encPtr 1 91 h.size h' A' c' l ∧ Ext h h') := by
  subst hl
  refine xcalls env0 Tryz.func106 rfl (by kernel_rfl) rfl (by kernel_rfl) ?_
  cases A with
  | none =>
    rcases own with ⟨_, rfl, rfl⟩ | ⟨_, _, e, _⟩
    · exact ⟨none, 0, rfl, .inl ⟨rfl, rfl, rfl⟩, Ext.refl _⟩
    · cases e
  | some a =>
    intro b1 h1 n1
    have own1 : OwnA encPtr 1 91 h.size h1 (some ⟨b1, 0, none⟩) 0 ([] : List Nat) := .inr ⟨b1, [], rfl, n1.ge (Ext.refl _), n1.this, rfl, Nat.le_refl _⟩
    refine xappend_many (xs := []) (ys := l) ptrInfo ptrZero rfl (by decide) encPtr_len encPtr_one own1 rfl rfl ((own.ext n1.ext).reads) (by omega) n1.ext.size fun A' c' h' o k => ?_
    exact ⟨A', c', by rw [Nat.zero_add]; rfl, o, k.ext n1.ext (fun b' e => by cases e; exact n1.ge (Ext.refl _))⟩
theorem nNew_spec {base : Nat} {A : Option Addr} {c n : Nat} {l : List Nat} (own : OwnA encPtr 1 91 base h A c l) (hl : l.length = n) (hn1 : 1 ≤ n) (hn : n ≤ 64) : HCalls Tryz.prog 60 #[.slice A n c] h (fun v h' => ∃ nb A' c', v = .tuple #[.pointer (some ⟨nb, 0, none⟩), .int .i64 0] ∧ h.size ≤ nb ∧ LaneAt h' nb A' n c' 0 none ∧ OwnA encPtr 1 91 h.size h' A' c' l ∧ Ext h h') := by
  refine xcalls env0 Tryz.func60 rfl (by kernel_rfl) rfl (by kernel_rfl) ?_
  refine xif_false (decide_eq_false ?_) ?_
  · show ¬ (n : Int) < 1
    omega
  refine xif_false (decide_eq_false ?_) ?_
  · show ¬ (n : Int) > 64
    omega
  refine (nContains_nil (own.row encPtr_len) hl (by omega)).mono ?_
  rintro v h1 ⟨rfl, rfl⟩
  refine (nClone_spec own hl (by omega)).mono ?_
  rintro v h2 ⟨A', c', rfl, o2, x2⟩
  intro nb h3 n3
  exact ⟨nb, A', c', rfl, n3.ge x2, n3.this, o2.ext n3.ext, x2.trans n3.ext⟩
def sumTo (f : Nat → Nat) : Nat → Nat
  | 0 => 0
  | k + 1 => sumTo f k + f k
theorem sumTo_le {f : Nat → Nat} {m : Nat} (hf : ∀ j, f j ≤ m) : ∀ k, sumTo f k ≤ k * m
  | 0 => by simp [sumTo]
  | k + 1 => by have := sumTo_le hf k; have := hf k; rw [Nat.succ_mul]; unfold sumTo; omega
theorem nLen_spec {mb cb lb : Nat} {M : MemS} {R : Option Addr} {n c at_ : Nat} {act : Option Nat} {rbs : List Nat} {f : Nat → Nat} (H : LaneAt h nb R n c at_ act) (own : Row encPtr 1 h R rbs) (hl : rbs.length = n) (hn : n ≤ 64) (HM : MemAt h mb cb lb M) (h4 : M.cells.length < 100000000) (hf : ∀ j, f j ≤ 1000000)
    (hr : ∀ j rb, rbs[j]? = some rb → ∃ RR a b, RingAt h rb mb RR ∧ M.cells[RR.base]? = some ((a : Nat) : Int) ∧ M.cells[RR.base + 1]? = some ((b : Nat) : Int) ∧ b ≤ a ∧ a < 1000000 ∧ f j = a - b) :
    HCalls Tryz.prog 61 #[.pointer (some ⟨nb, 0, none⟩)] h (fun v h' => v = .int .i64 ((sumTo f n : Nat) : Int) ∧ h' = h) := by
  subst hl
  refine xcalls env0 Tryz.func61 rfl (by kernel_rfl) rfl (by kernel_rfl) ?_
  repeat (first | refine ⟨_, cell_blk (H) rfl, ?_⟩)
  refine ⟨Nat, fun i => [(3, .int .i64 ((sumTo f i : Nat) : Int)), (11, .slice R rbs.length c), (12, .int .i64 rbs.length), (13, .int .i64 i)], fun i h' => i ≤ rbs.length ∧ h' = h, fun i => rbs.length - i, 0, ⟨rfl, rfl, rfl, rfl, trivial⟩, ⟨Nat.zero_le _, rfl⟩, ?_⟩
  rintro i h1 ⟨hi, rfl⟩
  refine xif_of (fun q => ?_) (fun q => ?_)
  · have q : (i : Int) < rbs.length := of_decide_eq_true q
    obtain ⟨v, hv⟩ : ∃ v, rbs[i]? = some v := ⟨rbs[i]'(by omega), List.getElem?_eq_getElem (by omega)⟩
    obtain ⟨a, rfl, hrd⟩ := own i v hv
    obtain ⟨RR, ia, ib, r1, r2, r3, r4, r5, r6⟩ := hr i v hv
    refine ⟨a, rfl, Int.natCast_nonneg i, q, _, hrd.cons, ?_⟩
    refine (rLen_spec r1 HM r2 r3 r4 r5 h4).mono ?_
    rintro w h2 ⟨rfl, rfl⟩
    have hs := sumTo_le hf i
    have hi64 : i * 1000000 ≤ 64 * 1000000 := Nat.mul_le_mul_right _ (by omega)
    refine ⟨i + 1, ⟨?_, rfl, rfl, slot_inc (by omega), trivial⟩, ⟨by omega, rfl⟩, by show rbs.length - (i + 1) < rbs.length - i; omega⟩
    show some (Value.int .i64 (IntKind.i64.wrap (((sumTo f i : Nat) : Int) + ((ia - ib : Nat) : Int)))) = some (Value.int .i64 ((sumTo f (i + 1) : Nat) : Int))
    rw [wrap_add _ _ (by omega), ← r6]
    rfl
  · have q : ¬ (i : Int) < rbs.length := of_decide_eq_false q
    have e : i = rbs.length := by omega
    subst e
    exact ⟨rfl, rfl⟩
theorem nRing_raw {R : Option Addr} {n c at_ : Nat} {act : Option Nat} {pv : Value} {fr : Int} {ov : Bool} (H : h[tb]? = some (.cells [Value.pointer (some ⟨nb, 0, none⟩), pv, .int .i64 0, .int .i64 fr, .bool ov].toArray 220 (0, 0))) (HL : LaneAt h nb R n c at_ act) (hat : at_ < n) (hn : n ≤ 64) : HCalls Tryz.prog 148 #[.pointer (some ⟨tb, 0, none⟩)] h (fun v h' => v = .int .i64 (at_ : Int) ∧ h' = h) := by
  refine xcalls env_nRing Tryz.func148 rfl (by kernel_rfl) rfl (by kernel_rfl) ?_
  repeat (first | refine ⟨_, cell_blk (H) rfl, ?_⟩ | refine ⟨_, cell_blk (HL) rfl, ?_⟩)
  refine ⟨by show (n : Int) ≠ 0; omega, ?_⟩
  refine ⟨congrArg (Value.int .i64) ?_, rfl⟩
  show (IntKind.i64.wrap ((at_ : Int) + ((0 : Nat) : Int))).tmod n = at_
  rw [wrap_add at_ 0 (by omega), Nat.add_zero, Int.tmod_eq_emod_of_nonneg (by omega), Int.emod_eq_of_lt (by omega) (by omega)]
theorem nRing_spec {R : Option Addr} {n c at_ : Nat} {act : Option Nat} (H : LActAt h tb a) (HL : LaneAt h a.nb R n c at_ act) (hlk : a.looked = 0) (hat : at_ < n) (hn : n ≤ 64) : HCalls Tryz.prog 148 #[.pointer (some ⟨tb, 0, none⟩)] h (fun v h' => v = .int .i64 (at_ : Int) ∧ h' = h) := by
  obtain ⟨nb', pop, lk, fr, ov⟩ := a
  simp only at hlk HL
  subst hlk
  exact nRing_raw H HL hat hn
theorem nNext_spec {R : Option Addr} {n c at_ mb : Nat} {act : Option Nat} {rbs : List Nat} {RS : RS} {rb : Nat} (H : LaneAt h nb R n c at_ act) (hact : act = none ∨ ∃ tb a, act = some tb ∧ LActAt h tb a ∧ a.over = true) (own : OwnA encPtr 1 91 0 h R c rbs) (hl : rbs.length = n) (hn : n ≤ 64) (hat : rbs[at_]? = some rb) (HR : RingAt h rb mb RS) (hb : RS.ob = false) :
    HCalls Tryz.prog 107 #[.pointer (some ⟨nb, 0, none⟩)] h (fun v h' => ∃ tb pb, v = .pointer (some ⟨tb, 0, none⟩) ∧ h.size ≤ tb ∧ h.size ≤ pb ∧ LaneAt h' nb R n c at_ (some tb) ∧ LActAt h' tb ⟨nb, pb, 0, 0, false⟩ ∧ ActAt h' pb ⟨rb, 6, 180, 0, false, 0, false⟩ ∧ RingAt h' rb mb { RS with ob := true } ∧ Chg [(nb, 186), (rb, 151)] h h') := by
  refine xcalls env_nNext Tryz.func107 rfl (by kernel_rfl) rfl (by kernel_rfl) ?_
  repeat (first | refine ⟨_, cell_blk (H) rfl, ?_⟩)
  refine HCalls.mono (R := fun v h' => v = .bool true ∧ h' = h) ?_ ?_
  · rcases hact with rfl | ⟨tb, a, rfl, Ha, ho⟩
    · exact nOver_nil
    · exact ho ▸ nOver_spec Ha
  rintro v h1 ⟨rfl, rfl⟩
  intro tb h2 n2
  have H2 := n2.ext.blk H
  refine ⟨rfl, rfl, canset_blk H2 rfl, fun h3 s3 => ?_⟩
  have H3 : LaneAt h3 nb R n c at_ (some tb) := s3.put H2
  have c3 : Chg [(nb, 186)] h2 h3 := s3.chg H2 (.head _)
  have T3 : h3[tb]? = some (.cells [Value.pointer (some ⟨nb, 0, none⟩), .pointer none, .int .i64 0, .int .i64 0, .bool false].toArray 220 (0, 0)) := c3.blk n2.this (by simp)
  have o3 := (own.ext n2.ext).chg c3 (fun b _ => by simp)
  have R3 : RingAt h3 rb mb RS := c3.blk (n2.ext.blk HR) (by simp)
  have han : at_ < n := by have := (List.getElem?_eq_some_iff.1 hat).1; omega
  repeat (first | refine ⟨_, cell_blk (H3) rfl, ?_⟩)
  refine (nRing_raw T3 H3 han hn).mono ?_
  rintro v h4 ⟨rfl, rfl⟩
  try (refine ⟨by ((repeat (first | refine ⟨cell_blk (H3) rfl, ?_⟩)); exact trivial), ?_⟩)
  obtain ⟨A2, hA2, hrd2⟩ := o3.row encPtr_len at_ rb hat
  refine ⟨A2, hA2, Int.natCast_nonneg at_, Int.ofNat_lt.2 han, _, hrd2.cons, ?_⟩
  refine (rPop_spec R3 hb).mono ?_
  rintro v h5 ⟨pb, rfl, gp, P5, R5, c5⟩
  have H5 := c5.blk H3 (by simp)
  have T5 := c5.blk T3 (by simp)
  try (refine ⟨by ((repeat (first | refine ⟨cell_blk (H5) rfl, ?_⟩)); exact trivial), ?_⟩)
  refine ⟨rfl, rfl, canset_blk T5 rfl, fun h6 s6 => ?_⟩
  have T6 : LActAt h6 tb ⟨nb, pb, 0, 0, false⟩ := s6.put T5
  have c6 : Chg [(tb, 220)] h5 h6 := s6.chg T5 (.head _)
  have H6 := c6.blk H5 (by simp)
  repeat (first | refine ⟨_, cell_blk (H6) rfl, ?_⟩)
  have g2 : h1.size ≤ h2.size := n2.ext.size
  have g3 := c3.size
  have c16 : Chg [(nb, 186), (rb, 151)] h1 h6 := (((n2.ext.chg _).trans (c3.mono (by simp))).trans (c5.mono (by simp))).stored s6 (n2.ge (Ext.refl _))
  exact ⟨tb, pb, rfl, n2.ge (Ext.refl _), by omega, H6, T6, c6.blk P5 (by simp), c6.blk R5 (by simp), c16⟩
/-- A taking goes on, and isn't over. -/
theorem nStep_go {K : Heap → Prop} (H : LActAt h tb a) (ho : a.over = false) (hn : HCalls Tryz.prog 57 #[.pointer (some ⟨a.pop, 0, none⟩)] h (fun v h' => v = .bool false ∧ LActAt h' tb a ∧ K h')) :
    HCalls Tryz.prog 150 #[.pointer (some ⟨tb, 0, none⟩)] h (fun v h' => v = .bool false ∧ K h') := by
  refine xcalls env_nStep Tryz.func150 rfl (by kernel_rfl) rfl (by kernel_rfl) ?_
  refine (nOver_spec H).mono ?_
  rintro v h1 ⟨rfl, rfl⟩
  rw [ho]
  repeat (first | refine ⟨_, cell_blk (H) rfl, ?_⟩)
  refine hn.mono ?_
  rintro v h2 ⟨rfl, H2, k⟩
  refine (nOver_spec H2).mono ?_
  rintro v h3 ⟨rfl, rfl⟩
  rw [ho]
  exact ⟨rfl, k⟩
/-- A taking is over. -/
theorem nStep_end {R : Option Addr} {n c at_ : Nat} {act : Option Nat} {K : Heap → Prop} (H : LActAt h tb a) (ho : a.over = false) (hlk : a.looked = 0) (hat : at_ < n) (hn : n ≤ 64)
    (hs : HCalls Tryz.prog 57 #[.pointer (some ⟨a.pop, 0, none⟩)] h (fun v h' => v = .bool true ∧ LActAt h' tb a ∧ LaneAt h' a.nb R n c at_ act ∧ (∃ A, ActAt h' a.pop A ∧ A.ok = true) ∧ K h')) :
    HCalls Tryz.prog 150 #[.pointer (some ⟨tb, 0, none⟩)] h (fun v h' => v = .bool true ∧ ∃ h1, K h1 ∧ LActAt h' tb { a with over := true, from_ := at_ } ∧ LaneAt h' a.nb R n c ((at_ + 1) % n) act ∧ Chg [(tb, 220), (a.nb, 186)] h1 h') := by
  refine xcalls env_nStep Tryz.func150 rfl (by kernel_rfl) rfl (by kernel_rfl) ?_
  refine (nOver_spec H).mono ?_
  rintro v h1 ⟨rfl, rfl⟩
  rw [ho]
  repeat (first | refine ⟨_, cell_blk (H) rfl, ?_⟩)
  refine hs.mono ?_
  rintro v h2 ⟨rfl, H2, L2, ⟨A, A2, hk⟩, k⟩
  repeat (first | refine ⟨_, cell_blk (H2) rfl, ?_⟩)
  refine (rOk_spec A2).mono ?_
  rintro v h3 ⟨rfl, rfl⟩
  rw [hk]
  refine (nRing_spec H2 L2 hlk hat hn).mono ?_
  rintro v h4 ⟨rfl, rfl⟩
  refine ⟨rfl, rfl, canset_blk H2 rfl, fun h5 s5 => ?_⟩
  obtain ⟨nb', pop, lk, fr, ov⟩ := a
  simp only at ho hlk L2 A2 H2 H
  subst hlk
  have H5 : LActAt h5 tb ⟨nb', pop, 0, fr, true⟩ := s5.put H2
  have c5 : Chg [(tb, 220)] _ h5 := s5.chg H2 (.head _)
  refine ⟨rfl, rfl, canset_blk H5 rfl, fun h6 s6 => ?_⟩
  have H6 : LActAt h6 tb ⟨nb', pop, 0, at_, true⟩ := s6.put H5
  have c6 : Chg [(tb, 220)] h5 h6 := s6.chg H5 (.head _)
  have L6 : LaneAt h6 nb' R n c at_ act := (c5.trans c6).blk L2 (by simp)
  repeat (first | refine ⟨_, cell_blk (H6) rfl, ?_⟩ | refine ⟨_, cell_blk (L6) rfl, ?_⟩)
  refine ⟨by show (n : Int) ≠ 0; omega, ?_⟩
  refine ⟨rfl, rfl, canset_blk L6 rfl, fun h7 s7 => ?_⟩
  have L7 : LaneAt h7 nb' R n c ((at_ + 1) % n) act := by
    have := s7.put L6
    rw [wrap_add1 at_ (by omega), Int.tmod_eq_emod_of_nonneg (by omega), ← Int.natCast_emod] at this
    exact this
  have c7 : Chg [(nb', 186)] h6 h7 := s7.chg L6 (.head _)
  have H7 := c7.blk H6 (by simp)
  repeat (first | refine ⟨_, cell_blk (H7) rfl, ?_⟩)
  exact ⟨rfl, _, k, H7, L7, ((c5.trans c6).mono (by simp)).trans (c7.mono (by simp))⟩
end
end Go.Proofs.YthoikbogkhpciaaGreatE
