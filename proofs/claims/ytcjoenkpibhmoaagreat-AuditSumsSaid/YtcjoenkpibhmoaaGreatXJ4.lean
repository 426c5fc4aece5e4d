/- What is wrong with a report, by the program: counts, what became of frames. Conditions: the report is one. -/
import Derived.Test.YtcjoenkpibhmoaaGreatXJ3
set_option linter.unusedVariables false
set_option linter.unusedSimpArgs false
set_option maxRecDepth 100000
namespace Go.Proofs.YtcjoenkpibhmoaaGreatE
open Go Go.Proofs
def env_aCounts : Nat → Ann
  | 3 => ⟨.op 0 [] <| .op 1 [] <| .op 2 [] <| .op 3 [] <| .op 4 [] <| .op 5 [3] <| .op 6 [] <| .op 7 [] <| .nil, [0, 1, 0, 4, 3, 19, 63, 127], false⟩
  | _ => ⟨.nil, [], false⟩
def kSel (a b : Int) (e : He) : Bool := decide (0 < e.fin ∧ e.op.port = a ∧ e.op.to = b)
def kOff (a b : Int) (e : He) : Bool := kSel a b e && decide (e.op.kind = 10)
def kFull (a b : Int) (e : He) : Bool := kSel a b e && decide (e.op.kind = 10 ∧ e.ans = 0)
def kGet (a b : Int) (e : He) : Bool := kSel a b e && decide (e.op.kind = 11)
def kDrain (w a b : Int) (e : He) : Bool := kSel a b e && decide (e.op.kind = 11 ∧ e.who = w)
def kSent (a b : Int) (o : Ot) : Bool := decide (o.frm = a ∧ o.to = b)
def drainer (ports : Int) : Int := IntKind.i64.wrap (IntKind.i64.wrap (2 * ports) + 1)
def cnt {α : Type} (p : α → Bool) (l : List α) (i : Nat) : Int := ((l.take i).countP p : Nat)
theorem cnt_next {α : Type} {p : α → Bool} {l : List α} {i : Nat} {e : α} (h : l[i]? = some e) : cnt p l (i + 1) = cnt p l i + (if p e = true then 1 else 0) := by
  unfold cnt
  rw [← take_next h, List.countP_append, List.countP_singleton]
  split <;> simp
theorem cnt_yes {α : Type} {p : α → Bool} {l : List α} {i : Nat} {e : α} (h : l[i]? = some e) (q : p e = true) : cnt p l (i + 1) = cnt p l i + 1 := by rw [cnt_next h, if_pos q]
theorem cnt_no {α : Type} {p : α → Bool} {l : List α} {i : Nat} {e : α} (h : l[i]? = some e) (q : p e = false) : cnt p l (i + 1) = cnt p l i := by rw [cnt_next h, if_neg (by rw [q]; decide), Int.add_zero]
theorem cnt_range {α : Type} (p : α → Bool) (l : List α) (i : Nat) : 0 ≤ cnt p l i ∧ cnt p l i ≤ l.length := by
  unfold cnt
  have := List.countP_le_length (p := p) (l := l.take i)
  rw [List.length_take] at this
  omega
theorem cnt_zero {α : Type} (p : α → Bool) (l : List α) : cnt p l 0 = 0 := rfl
def cntR (r : Rp) (a b : Int) (i k : Nat) : Cn := ⟨cnt (kOff a b) r.log i, cnt (kFull a b) r.log i, cnt (kSent a b) r.outs k, 0, cnt (kDrain (drainer r.ports) a b) r.log i, 0⟩
section
variable {h : Heap}
theorem aCounted_spec {r : Rp} (R : RpOk h r) (a b : Int) : HCalls Tryz.prog 89 #[.agg (encRp r).toArray, .int .i64 a, .int .i64 b] h
    (fun v h' => v = .tuple #[.agg (encCn (cntR r a b r.ln r.on)).toArray, .int .i64 (cnt (kGet a b) r.log r.ln)] ∧ Ext h h') := by
  refine xcalls env0 Tryz.func89 rfl (by kernel_rfl) rfl (by kernel_rfl) ?_
  intro rb h1 n1 cb h2 n2
  have hrb : h2[rb]? = some (.cells (encRp r).toArray 50 (0, 0)) := n2.ext.blk n1.this
  have hcb : h2[cb]? = some (.cells (encCn (cntR r a b 0 0)).toArray 57 (0, 0)) := n2.this
  have x2 := n1.ext.trans n2.ext
  have cge : h.size ≤ cb := n2.ge n1.ext
  have rne : rb ≠ cb := by have := n2.lt n1.this; omega
  have ll := R.logl
  have ls := R.logs
  have ol := R.outsl
  have os := R.outss
  refine ⟨_, cell_blk hrb rfl, ?_⟩
  refine ⟨Nat, fun i => [(1, .int .i64 a), (2, .int .i64 b), (3, .pointer (some ⟨rb, 0, none⟩)), (6, .pointer (some ⟨cb, 0, none⟩)), (7, .int .i64 (cnt (kGet a b) r.log i)), (13, .slice r.LA r.ln r.lc), (14, .int .i64 r.ln), (15, .int .i64 i)],
    fun i h' => i ≤ r.ln ∧ h'[cb]? = some (.cells (encCn (cntR r a b i 0)).toArray 57 (0, 0)) ∧ h'[rb]? = some (.cells (encRp r).toArray 50 (0, 0)) ∧ Ext h h', fun i => r.ln - i, 0, ⟨rfl, rfl, rfl, rfl, rfl, rfl, rfl, rfl, trivial⟩, ⟨Nat.zero_le _, hcb, hrb, x2⟩, ?_⟩
  rintro i h3 ⟨hi, hcb3, hrb3, x3⟩
  refine xif_of (fun hlt => ?_) (fun hge => ?_)
  · have hlt : (i : Int) < r.ln := of_decide_eq_true hlt
    obtain ⟨e, he⟩ : ∃ e, r.log[i]? = some e := ⟨r.log[i]'(by omega), List.getElem?_eq_getElem (by omega)⟩
    obtain ⟨la, hLA, lrd⟩ := (x3.row R.log) i e he
    have m0 := cnt_next (p := kOff a b) he
    have m1 := cnt_next (p := kFull a b) he
    have m2 := cnt_next (p := kGet a b) he
    have m3 := cnt_next (p := kDrain (drainer r.ports) a b) he
    have g0 := cnt_range (kOff a b) r.log i
    have g1 := cnt_range (kFull a b) r.log i
    have g2 := cnt_range (kGet a b) r.log i
    have g3 := cnt_range (kDrain (drainer r.ports) a b) r.log i
    refine ⟨la, hLA, by omega, hlt, encHe e, rfl, lrd, ?_⟩
    intro eb h4 n4
    refine ⟨rfl, rfl, canset_blk n4.this rfl, fun h5 s5 => ?_⟩
    have heb : h5[eb]? = some (.cells (encHe e).toArray 116 (0, 0)) := n4.fill rfl s5
    have x35 : Ext h3 h5 := n4.ext.stored s5 (n4.ge (Ext.refl _))
    have hcb5 := x35.blk hcb3
    have hrb5 := x35.blk hrb3
    have x5 := x3.trans x35
    have mk : ∀ (x y z : Int), x = cnt (kOff a b) r.log (i + 1) → y = cnt (kFull a b) r.log (i + 1) → z = cnt (kDrain (drainer r.ports) a b) r.log (i + 1) → (⟨x, y, cnt (kSent a b) r.outs 0, 0, z, 0⟩ : Cn) = cntR r a b (i + 1) 0 := by
      rintro x y z rfl rfl rfl; rfl
    have skip : kSel a b e = false → cntR r a b i 0 = cntR r a b (i + 1) 0 ∧ cnt (kGet a b) r.log i = cnt (kGet a b) r.log (i + 1) := fun q =>
      ⟨mk _ _ _ (cnt_no he (by unfold kOff; rw [q]; rfl)).symm (cnt_no he (by unfold kFull; rw [q]; rfl)).symm (cnt_no he (by unfold kDrain; rw [q]; rfl)).symm, (cnt_no he (by unfold kGet; rw [q]; rfl)).symm⟩
    have skips : kSel a b e = false → h5[cb]? = some (.cells (encCn (cntR r a b (i + 1) 0)).toArray 57 (0, 0)) ∧ cnt (kGet a b) r.log i = cnt (kGet a b) r.log (i + 1) := fun q => ⟨(skip q).1 ▸ hcb5, (skip q).2⟩
    refine ⟨_, cell_blk heb rfl, ?_⟩
    refine xif_of (fun q => ?_) (fun q => ?_)
    · have q : e.fin ≤ 0 := of_decide_eq_true q
      obtain ⟨k1, k2⟩ := skips (decide_eq_false (by omega))
      exact ⟨i + 1, ⟨rfl, rfl, rfl, rfl, congrArg (fun x => some (Value.int .i64 x)) k2, rfl, rfl, slot_inc (by omega), trivial⟩, ⟨by omega, k1, hrb5, x5⟩, by show r.ln - (i + 1) < r.ln - i; omega⟩
    have q : ¬ e.fin ≤ 0 := of_decide_eq_false q
    refine ⟨_, cell_blk heb rfl, ?_⟩
    refine xif_of (fun q2 => ?_) (fun q2 => ?_)
    · have q2 : ¬ e.op.port = a := by simpa using q2
      obtain ⟨k1, k2⟩ := skips (decide_eq_false (fun k => q2 k.2.1))
      exact ⟨i + 1, ⟨rfl, rfl, rfl, rfl, congrArg (fun x => some (Value.int .i64 x)) k2, rfl, rfl, slot_inc (by omega), trivial⟩, ⟨by omega, k1, hrb5, x5⟩, by show r.ln - (i + 1) < r.ln - i; omega⟩
    have q2 : e.op.port = a := by simpa using q2
    refine ⟨_, cell_blk heb rfl, ?_⟩
    refine xif_of (fun q3 => ?_) (fun q3 => ?_)
    · have q3 : ¬ e.op.to = b := by simpa using q3
      obtain ⟨k1, k2⟩ := skips (decide_eq_false (fun k => q3 k.2.2))
      exact ⟨i + 1, ⟨rfl, rfl, rfl, rfl, congrArg (fun x => some (Value.int .i64 x)) k2, rfl, rfl, slot_inc (by omega), trivial⟩, ⟨by omega, k1, hrb5, x5⟩, by show r.ln - (i + 1) < r.ln - i; omega⟩
    have q3 : e.op.to = b := by simpa using q3
    have sel : kSel a b e = true := decide_eq_true ⟨by omega, q2, q3⟩
    refine ⟨_, cell_blk heb rfl, ?_⟩
    refine xif_of (fun q4 => ?_) (fun q4 => ?_)
    · have q4 : e.op.kind = 10 := by simpa using q4
      have w0 : IntKind.i64.wrap (cnt (kOff a b) r.log i + 1) = cnt (kOff a b) r.log (i + 1) := by
        rw [wrap_i64 (by omega) (by omega), cnt_yes he (by unfold kOff; rw [sel]; simp [q4])]
      have w2 : cnt (kGet a b) r.log i = cnt (kGet a b) r.log (i + 1) := (cnt_no he (by unfold kGet; rw [sel]; simp [q4])).symm
      have w3 : cnt (kDrain (drainer r.ports) a b) r.log i = cnt (kDrain (drainer r.ports) a b) r.log (i + 1) := (cnt_no he (by unfold kDrain; rw [sel]; simp [q4])).symm
      refine ⟨_, cell_blk hcb5 rfl, rfl, rfl, canset_blk hcb5 rfl, fun h6 s6 => ?_⟩
      have hcb6 : h6[cb]? = some (.cells (encCn ⟨IntKind.i64.wrap (cnt (kOff a b) r.log i + 1), cnt (kFull a b) r.log i, cnt (kSent a b) r.outs 0, 0, cnt (kDrain (drainer r.ports) a b) r.log i, 0⟩).toArray 57 (0, 0)) := s6.put hcb5
      have hrb6 := s6.blk hrb5 rne
      have heb6 := s6.blk heb (by have := n4.lt hcb3; show eb ≠ cb; omega)
      have x6 : Ext h h6 := x5.stored s6 cge
      refine ⟨_, cell_blk heb6 rfl, ?_⟩
      refine xif_of (fun q5 => ?_) (fun q5 => ?_)
      · have q5 : e.ans = 0 := by simpa using q5
        have w1 : IntKind.i64.wrap (cnt (kFull a b) r.log i + 1) = cnt (kFull a b) r.log (i + 1) := by
          rw [wrap_i64 (by omega) (by omega), cnt_yes he (by unfold kFull; rw [sel]; simp [q4, q5])]
        refine ⟨_, cell_blk hcb6 rfl, rfl, rfl, canset_blk hcb6 rfl, fun h7 s7 => ?_⟩
        have hcb7 : h7[cb]? = some (.cells (encCn ⟨IntKind.i64.wrap (cnt (kOff a b) r.log i + 1), IntKind.i64.wrap (cnt (kFull a b) r.log i + 1), cnt (kSent a b) r.outs 0, 0, cnt (kDrain (drainer r.ports) a b) r.log i, 0⟩).toArray 57 (0, 0)) := s7.put hcb6
        rw [mk _ _ _ w0 w1 w3] at hcb7
        exact ⟨i + 1, ⟨rfl, rfl, rfl, rfl, congrArg (fun x => some (Value.int .i64 x)) w2, rfl, rfl, slot_inc (by omega), trivial⟩, ⟨by omega, hcb7, s7.blk hrb6 rne, x6.stored s7 cge⟩, by show r.ln - (i + 1) < r.ln - i; omega⟩
      · have q5 : ¬ e.ans = 0 := by simpa using q5
        have w1 : cnt (kFull a b) r.log i = cnt (kFull a b) r.log (i + 1) := (cnt_no he (by unfold kFull; rw [sel]; simp [q5])).symm
        rw [mk _ _ _ w0 w1 w3] at hcb6
        exact ⟨i + 1, ⟨rfl, rfl, rfl, rfl, congrArg (fun x => some (Value.int .i64 x)) w2, rfl, rfl, slot_inc (by omega), trivial⟩, ⟨by omega, hcb6, hrb6, x6⟩, by show r.ln - (i + 1) < r.ln - i; omega⟩
    have q4 : ¬ e.op.kind = 10 := by simpa using q4
    have w0 : cnt (kOff a b) r.log i = cnt (kOff a b) r.log (i + 1) := (cnt_no he (by unfold kOff; rw [sel]; simp [q4])).symm
    have w1 : cnt (kFull a b) r.log i = cnt (kFull a b) r.log (i + 1) := (cnt_no he (by unfold kFull; rw [sel]; simp [q4])).symm
    refine xif_of (fun q5 => ?_) (fun q5 => ?_)
    · have q5 : e.op.kind = 11 := by simpa using q5
      have w2 : IntKind.i64.wrap (cnt (kGet a b) r.log i + 1) = cnt (kGet a b) r.log (i + 1) := by
        rw [wrap_i64 (by omega) (by omega), cnt_yes he (by unfold kGet; rw [sel]; simp [q5])]
      refine ⟨_, cell_blk heb rfl, _, cell_blk hrb5 rfl, ?_⟩
      refine xif_of (fun q6 => ?_) (fun q6 => ?_)
      · have q6 : e.who = drainer r.ports := eq_of_beq q6
        have w3 : IntKind.i64.wrap (cnt (kDrain (drainer r.ports) a b) r.log i + 1) = cnt (kDrain (drainer r.ports) a b) r.log (i + 1) := by
          rw [wrap_i64 (by omega) (by omega), cnt_yes he (by unfold kDrain; rw [sel]; simp [q5, q6])]
        refine ⟨_, cell_blk hcb5 rfl, rfl, rfl, canset_blk hcb5 rfl, fun h6 s6 => ?_⟩
        have hcb6 : h6[cb]? = some (.cells (encCn ⟨cnt (kOff a b) r.log i, cnt (kFull a b) r.log i, cnt (kSent a b) r.outs 0, 0, IntKind.i64.wrap (cnt (kDrain (drainer r.ports) a b) r.log i + 1), 0⟩).toArray 57 (0, 0)) := s6.put hcb5
        rw [mk _ _ _ w0 w1 w3] at hcb6
        exact ⟨i + 1, ⟨rfl, rfl, rfl, rfl, congrArg (fun x => some (Value.int .i64 x)) w2, rfl, rfl, slot_inc (by omega), trivial⟩, ⟨by omega, hcb6, s6.blk hrb5 rne, x5.stored s6 cge⟩, by show r.ln - (i + 1) < r.ln - i; omega⟩
      · have q6 : ¬ e.who = drainer r.ports := fun k => by
          have : (e.who == drainer r.ports) = false := q6
          rw [k] at this; simp at this
        have w3 : cnt (kDrain (drainer r.ports) a b) r.log i = cnt (kDrain (drainer r.ports) a b) r.log (i + 1) := (cnt_no he (by unfold kDrain; rw [sel]; simp [q6])).symm
        have hcb6 : h5[cb]? = some (.cells (encCn ⟨cnt (kOff a b) r.log i, cnt (kFull a b) r.log i, cnt (kSent a b) r.outs 0, 0, cnt (kDrain (drainer r.ports) a b) r.log i, 0⟩).toArray 57 (0, 0)) := hcb5
        rw [mk _ _ _ w0 w1 w3] at hcb6
        exact ⟨i + 1, ⟨rfl, rfl, rfl, rfl, congrArg (fun x => some (Value.int .i64 x)) w2, rfl, rfl, slot_inc (by omega), trivial⟩, ⟨by omega, hcb6, hrb5, x5⟩, by show r.ln - (i + 1) < r.ln - i; omega⟩
    · have q5 : ¬ e.op.kind = 11 := by simpa using q5
      have w2 : cnt (kGet a b) r.log i = cnt (kGet a b) r.log (i + 1) := (cnt_no he (by unfold kGet; rw [sel]; simp [q5])).symm
      have w3 : cnt (kDrain (drainer r.ports) a b) r.log i = cnt (kDrain (drainer r.ports) a b) r.log (i + 1) := (cnt_no he (by unfold kDrain; rw [sel]; simp [q5])).symm
      have hcb6 : h5[cb]? = some (.cells (encCn ⟨cnt (kOff a b) r.log i, cnt (kFull a b) r.log i, cnt (kSent a b) r.outs 0, 0, cnt (kDrain (drainer r.ports) a b) r.log i, 0⟩).toArray 57 (0, 0)) := hcb5
      rw [mk _ _ _ w0 w1 w3] at hcb6
      exact ⟨i + 1, ⟨rfl, rfl, rfl, rfl, congrArg (fun x => some (Value.int .i64 x)) w2, rfl, rfl, slot_inc (by omega), trivial⟩, ⟨by omega, hcb6, hrb5, x5⟩, by show r.ln - (i + 1) < r.ln - i; omega⟩
  have hge : ¬ (i : Int) < r.ln := of_decide_eq_false hge
  obtain rfl : i = r.ln := by omega
  refine ⟨_, cell_blk hrb3 rfl, ?_⟩
  refine ⟨Nat, fun k => [(1, .int .i64 a), (2, .int .i64 b), (6, .pointer (some ⟨cb, 0, none⟩)), (7, .int .i64 (cnt (kGet a b) r.log r.ln)), (70, .slice r.OA r.on r.oc), (71, .int .i64 r.on), (72, .int .i64 k)],
    fun k h' => k ≤ r.on ∧ h'[cb]? = some (.cells (encCn (cntR r a b r.ln k)).toArray 57 (0, 0)) ∧ Ext h h', fun k => r.on - k, 0, ⟨rfl, rfl, rfl, rfl, rfl, rfl, rfl, trivial⟩, ⟨Nat.zero_le _, hcb3, x3⟩, ?_⟩
  rintro k h4 ⟨hk, hcb4, x4⟩
  refine xif_of (fun hlt => ?_) (fun hge2 => ?_)
  · have hlt : (k : Int) < r.on := of_decide_eq_true hlt
    obtain ⟨o, ho⟩ : ∃ o, r.outs[k]? = some o := ⟨r.outs[k]'(by omega), List.getElem?_eq_getElem (by omega)⟩
    obtain ⟨oa, hOA, i0, i1, hl5, ord⟩ := out_at (R.ext x4) ho
    have g0 := cnt_range (kSent a b) r.outs k
    refine ⟨oa, hOA, i0, i1, _, hl5, ord, ?_⟩
    intro ob h5 n5
    refine ⟨rfl, rfl, canset_blk n5.this rfl, fun h6 s6 => ?_⟩
    have hob : h6[ob]? = some (.cells (encOt o).toArray 75 (0, 0)) := n5.fill rfl s6
    have x46 : Ext h4 h6 := n5.ext.stored s6 (n5.ge (Ext.refl _))
    have hcb6 := x46.blk hcb4
    have x6 := x4.trans x46
    have no : kSent a b o = false → h6[cb]? = some (.cells (encCn (cntR r a b r.ln (k + 1))).toArray 57 (0, 0)) := fun q => by
      have : cntR r a b r.ln (k + 1) = cntR r a b r.ln k := by unfold cntR; rw [cnt_no ho q]
      rw [this]; exact hcb6
    refine ⟨_, cell_blk hob rfl, ?_⟩
    refine xif_of (fun q => ?_) (fun q => ?_)
    rotate_left
    · have q : ¬ o.frm = a := by simpa using q
      exact ⟨k + 1, ⟨rfl, rfl, rfl, rfl, rfl, rfl, slot_inc (by omega), trivial⟩, ⟨by omega, no (decide_eq_false fun e => q e.1), x6⟩, by show r.on - (k + 1) < r.on - k; omega⟩
    have q : o.frm = a := by simpa using q
    refine ⟨_, cell_blk hob rfl, ?_⟩
    refine xif_of (fun q2 => ?_) (fun q2 => ?_)
    rotate_left
    · have q2 : ¬ o.to = b := by simpa using q2
      exact ⟨k + 1, ⟨rfl, rfl, rfl, rfl, rfl, rfl, slot_inc (by omega), trivial⟩, ⟨by omega, no (decide_eq_false fun e => q2 e.2), x6⟩, by show r.on - (k + 1) < r.on - k; omega⟩
    have q2 : o.to = b := by simpa using q2
    have w0 : IntKind.i64.wrap (cnt (kSent a b) r.outs k + 1) = cnt (kSent a b) r.outs (k + 1) := by
      rw [wrap_i64 (by omega) (by omega), cnt_yes ho (decide_eq_true ⟨q, q2⟩)]
    refine ⟨_, cell_blk hcb6 rfl, rfl, rfl, canset_blk hcb6 rfl, fun h7 s7 => ?_⟩
    have hcb7 : h7[cb]? = some (.cells (encCn ⟨cnt (kOff a b) r.log r.ln, cnt (kFull a b) r.log r.ln, IntKind.i64.wrap (cnt (kSent a b) r.outs k + 1), 0, cnt (kDrain (drainer r.ports) a b) r.log r.ln, 0⟩).toArray 57 (0, 0)) := s7.put hcb6
    rw [w0] at hcb7
    exact ⟨k + 1, ⟨rfl, rfl, rfl, rfl, rfl, rfl, slot_inc (by omega), trivial⟩, ⟨by omega, hcb7, x6.stored s7 cge⟩, by show r.on - (k + 1) < r.on - k; omega⟩
  have hge2 : ¬ (k : Int) < r.on := of_decide_eq_false hge2
  obtain rfl : k = r.on := by omega
  refine ⟨_, rfl, reads_all hcb4, rfl, rfl, canset_blk hcb4 rfl, fun h5 s5 => ?_⟩
  have hcb5 := s5.fill0 hcb4 rfl
  exact ⟨_, rfl, reads_all hcb5, rfl, x4.stored s5 cge⟩
def s5 (c : Cn) : Int := IntKind.i64.wrap (IntKind.i64.wrap (IntKind.i64.wrap (IntKind.i64.wrap (c.full + c.sent) + c.late) + c.drain) + c.wait)
def s3 (c : Cn) : Int := IntKind.i64.wrap (IntKind.i64.wrap (c.sent + c.late) + c.drain)
def pairM (r : Rp) (c : Cn) (a b : Int) : Bool :=
  decide ((c.off = cnt (kOff a b) r.log r.ln ∧ c.full = cnt (kFull a b) r.log r.ln ∧ c.sent = cnt (kSent a b) r.outs r.on ∧ c.drain = cnt (kDrain (drainer r.ports) a b) r.log r.ln) ∧
    (0 ≤ c.late ∧ 0 ≤ c.wait ∧ c.late ≤ c.off ∧ c.wait ≤ c.off) ∧ s5 c ≤ c.off ∧ s3 c ≤ cnt (kGet a b) r.log r.ln)
theorem eqCn (x y : Cn) : eqv Tryz.prog 60 57 (.agg (encCn x).toArray) (.agg (encCn y).toArray) = some ((x.off == y.off) && ((x.full == y.full) && ((x.sent == y.sent) && ((x.late == y.late) && ((x.drain == y.drain) && ((x.wait == y.wait) && true)))))) := by kernel_rfl
theorem eqCnG (x : Cn) : guardBad Tryz.prog 57 (.agg (encCn x).toArray) = false := by kernel_rfl
theorem aCounts_spec {r : Rp} (R : RpOk h r) {a b : Nat} {row : Cr} {c : Cn} (hrow : r.cnts[a]? = some row) (hc : row.l[b]? = some c) :
    HCalls Tryz.prog 52 #[.agg (encRp r).toArray, .int .i64 a, .int .i64 b] h (fun v h' => v = .bool (pairM r c a b) ∧ Ext h h') := by
  refine xcalls env_aCounts Tryz.func52 rfl (by kernel_rfl) rfl (by kernel_rfl) ?_
  intro rb h1 n1
  have hrb : h1[rb]? = some (.cells (encRp r).toArray 50 (0, 0)) := n1.this
  obtain ⟨ka, hKA, krd⟩ := (n1.ext.row R.cnts) a row hrow
  have ka1 := (List.getElem?_eq_some_iff.1 hrow).1
  have kl := R.cntsl
  have RO := (R.ext n1.ext).cntsr row (List.mem_of_getElem? hrow)
  obtain ⟨ca, hCA, crd⟩ := RO.row b c hc
  have cb1 := (List.getElem?_eq_some_iff.1 hc).1
  have cl := RO.len
  have k0 : cell h1 (ka.add ((a : Int).toNat * 1)) = some (.slice row.A row.n row.c) := by
    have := krd.get 0 (v := .slice row.A row.n row.c) rfl
    rwa [add_zero'] at this
  refine ⟨_, cell_blk hrb rfl, ka, hKA, by omega, by omega, _, k0, ca, hCA, by omega, by omega, encCn c, rfl, crd, ?_⟩
  intro cb h2 n2
  refine ⟨rfl, rfl, canset_blk n2.this rfl, fun h3 s3 => ?_⟩
  have hcb : h3[cb]? = some (.cells (encCn c).toArray 57 (0, 0)) := n2.fill rfl s3
  have x13 : Ext h1 h3 := n2.ext.stored s3 (n2.ge (Ext.refl _))
  have hrb3 := x13.blk hrb
  have x3 := n1.ext.trans x13
  refine ⟨encRp r, rfl, reads_all hrb3, ?_⟩
  refine (aCounted_spec (R.ext x3) a b).mono ?_
  rintro v h4 ⟨rfl, x4⟩
  intro wb h5 n5
  refine ⟨rfl, rfl, canset_blk n5.this rfl, fun h6 s6 => ?_⟩
  have hwb : h6[wb]? = some (.cells (encCn (cntR r a b r.ln r.on)).toArray 57 (0, 0)) := n5.fill rfl s6
  have x46 : Ext h4 h6 := n5.ext.stored s6 (n5.ge (Ext.refl _))
  have hcb6 := (x4.trans x46).blk hcb
  have x6 := x3.trans (x4.trans x46)
  have ne : cb ≠ wb := by have := n5.lt (x4.blk hcb); omega
  have wge : h.size ≤ wb := n5.ge (x3.trans x4)
  refine ⟨_, cell_blk hcb6 rfl, _, cell_blk hcb6 rfl, rfl, rfl, canset_blk hwb rfl, fun h7 s7 => ?_⟩
  have hcb7 := s7.blk hcb6 ne
  have hwb7 := s7.put hwb
  refine ⟨⟨cell_blk hcb7 rfl, trivial⟩, ?_⟩
  refine ⟨rfl, rfl, canset_blk hwb7 rfl, fun h8 s8 => ?_⟩
  have hcb8 := s8.blk hcb7 ne
  have hwb8 : h8[wb]? = some (.cells (encCn ⟨cnt (kOff a b) r.log r.ln, cnt (kFull a b) r.log r.ln, cnt (kSent a b) r.outs r.on, c.late, cnt (kDrain (drainer r.ports) a b) r.log r.ln, c.wait⟩).toArray 57 (0, 0)) := s8.put hwb7
  have x8 : Ext h h8 := (x6.stored s7 wge).stored s8 wge
  have eb : ((c.off == cnt (kOff a b) r.log r.ln) && ((c.full == cnt (kFull a b) r.log r.ln) && ((c.sent == cnt (kSent a b) r.outs r.on) && ((c.late == c.late) && ((c.drain == cnt (kDrain (drainer r.ports) a b) r.log r.ln) && ((c.wait == c.wait) && true)))))) =
      decide (c.off = cnt (kOff a b) r.log r.ln ∧ c.full = cnt (kFull a b) r.log r.ln ∧ c.sent = cnt (kSent a b) r.outs r.on ∧ c.drain = cnt (kDrain (drainer r.ports) a b) r.log r.ln) := by
    rw [Bool.eq_iff_iff]; simp
  refine ⟨encCn c, rfl, reads_all hcb8, encCn ⟨cnt (kOff a b) r.log r.ln, cnt (kFull a b) r.log r.ln, cnt (kSent a b) r.outs r.on, c.late, cnt (kDrain (drainer r.ports) a b) r.log r.ln, c.wait⟩, rfl, reads_all hwb8, ?_⟩
  refine xeq_of (eqCnG c) ((eqCn c ⟨cnt (kOff a b) r.log r.ln, cnt (kFull a b) r.log r.ln, cnt (kSent a b) r.outs r.on, c.late, cnt (kDrain (drainer r.ports) a b) r.log r.ln, c.wait⟩).trans (congrArg some eb)) ?_
  refine xif_of (fun q => ?_) (fun q => ?_)
  · have q : ¬ (c.off = cnt (kOff a b) r.log r.ln ∧ c.full = cnt (kFull a b) r.log r.ln ∧ c.sent = cnt (kSent a b) r.outs r.on ∧ c.drain = cnt (kDrain (drainer r.ports) a b) r.log r.ln) := by
      intro k
      rw [decide_eq_true k] at q
      cases q
    exact ⟨congrArg Value.bool (decide_eq_false fun k => q k.1).symm, x8⟩
  have q : c.off = cnt (kOff a b) r.log r.ln ∧ c.full = cnt (kFull a b) r.log r.ln ∧ c.sent = cnt (kSent a b) r.outs r.on ∧ c.drain = cnt (kDrain (drainer r.ports) a b) r.log r.ln := by
    refine Classical.byContradiction fun k => ?_
    rw [decide_eq_false k] at q
    cases q
  refine ⟨_, cell_blk hcb8 rfl, ?_⟩
  refine xif_of (fun q2 => ?_) (fun q2 => ?_)
  · have q2 : c.late < 0 := of_decide_eq_true q2
    exact ⟨congrArg Value.bool (decide_eq_false (by rintro ⟨_, k, _⟩; omega)).symm, x8⟩
  have q2 : ¬ c.late < 0 := of_decide_eq_false q2
  refine ⟨_, cell_blk hcb8 rfl, ?_⟩
  refine xif_of (fun q3 => ?_) (fun q3 => ?_)
  · have q3 : c.wait < 0 := of_decide_eq_true q3
    exact ⟨congrArg Value.bool (decide_eq_false (by rintro ⟨_, k, _⟩; omega)).symm, x8⟩
  have q3 : ¬ c.wait < 0 := of_decide_eq_false q3
  refine ⟨_, cell_blk hcb8 rfl, _, cell_blk hcb8 rfl, ?_⟩
  refine xif_of (fun q4 => ?_) (fun q4 => ?_)
  · have q4 : c.late > c.off := of_decide_eq_true q4
    exact ⟨congrArg Value.bool (decide_eq_false (by rintro ⟨_, k, _⟩; omega)).symm, x8⟩
  have q4 : ¬ c.late > c.off := of_decide_eq_false q4
  refine ⟨_, cell_blk hcb8 rfl, _, cell_blk hcb8 rfl, ?_⟩
  refine xif_of (fun q5 => ?_) (fun q5 => ?_)
  · have q5 : c.wait > c.off := of_decide_eq_true q5
    exact ⟨congrArg Value.bool (decide_eq_false (by rintro ⟨_, k, _⟩; omega)).symm, x8⟩
  have q5 : ¬ c.wait > c.off := of_decide_eq_false q5
  refine ⟨_, cell_blk hcb8 rfl, _, cell_blk hcb8 rfl, _, cell_blk hcb8 rfl, _, cell_blk hcb8 rfl, _, cell_blk hcb8 rfl, _, cell_blk hcb8 rfl, ?_⟩
  refine xif_of (fun q6 => ?_) (fun q6 => ?_)
  rotate_left
  · have q6 : ¬ c.off ≥ s5 c := of_decide_eq_false q6
    exact ⟨congrArg Value.bool (decide_eq_false (by rintro ⟨_, _, k, _⟩; omega)).symm, x8⟩
  have q6 : c.off ≥ s5 c := of_decide_eq_true q6
  refine ⟨_, cell_blk hcb8 rfl, _, cell_blk hcb8 rfl, _, cell_blk hcb8 rfl, congrArg Value.bool ?_, x8⟩
  show decide (cnt (kGet a b) r.log r.ln ≥ Go.Proofs.YtcjoenkpibhmoaaGreatE.s3 c) = _
  unfold pairM
  rw [Bool.eq_iff_iff, decide_eq_true_iff, decide_eq_true_iff]
  exact ⟨fun k => ⟨q, by omega, q6, k⟩, fun k => k.2.2.2⟩
theorem aSquare1_spec {r : Rp} {rb : Nat} (x : Cr) (hrb : h[rb]? = some (.cells (encRp r).toArray 50 (0, 0))) : HCalls Tryz.prog 88 #[.slice x.A x.n x.c, .pointer (some ⟨rb, 0, none⟩)] h (fun v h' => v = .bool (!decide ((x.n : Int) = r.ports)) ∧ Ext h h') := by
  refine xcalls env0 Tryz.func88 rfl (by kernel_rfl) rfl (by kernel_rfl) ?_
  exact ⟨_, cell_blk hrb rfl, rfl, Ext.refl _⟩
def squareM (r : Rp) : Bool := decide ((r.kn : Int) = r.ports) && !r.cnts.any fun x => !decide ((x.n : Int) = r.ports)
theorem aSquare_spec {r : Rp} (R : RpOk h r) : HCalls Tryz.prog 51 #[.agg (encRp r).toArray] h (fun v h' => v = .bool (squareM r) ∧ Ext h h') := by
  refine xcalls env0 Tryz.func51 rfl (by kernel_rfl) rfl (by kernel_rfl) ?_
  intro rb h1 n1
  have hrb : h1[rb]? = some (.cells (encRp r).toArray 50 (0, 0)) := n1.this
  refine ⟨_, cell_blk hrb rfl, _, cell_blk hrb rfl, ?_⟩
  refine xif_of (fun q => ?_) (fun q => ?_)
  · have q : (r.kn : Int) = r.ports := by simpa using q
    refine ⟨_, cell_blk hrb rfl, ?_⟩
    refine (crContainsC_spec (P := fun x => !decide ((x.n : Int) = r.ports)) (cap := [.pointer (some ⟨rb, 0, none⟩)]) (n1.ext.row R.cnts) R.cntsl (by have := R.cntss; omega) (fun h' e x _ => aSquare1_spec e (x.blk hrb))).mono ?_
    rintro v h2 ⟨rfl, x2⟩
    refine ⟨congrArg Value.bool ?_, n1.ext.trans x2⟩
    unfold squareM
    rw [decide_eq_true q]; rfl
  · have q : ¬ (r.kn : Int) = r.ports := by simpa using q
    refine ⟨congrArg Value.bool ?_, n1.ext⟩
    unfold squareM
    rw [decide_eq_false q]; rfl
def pairAt (r : Rp) (a b : Nat) : Bool := match r.cnts[a]? with
  | none => false
  | some row => match row.l[b]? with
    | none => false
    | some c => pairM r c a b
def allCM (r : Rp) : Bool := squareM r && decide (∀ a, a < r.ports.toNat → ∀ b, b < r.ports.toNat → pairAt r a b = true)
theorem square_row {r : Rp} (R : RpOk h r) (q : squareM r = true) {a b : Nat} (ha : a < r.ports.toNat) (hb : b < r.ports.toNat) : ∃ row c, r.cnts[a]? = some row ∧ row.l[b]? = some c ∧ pairAt r a b = pairM r c a b := by
  unfold squareM at q
  simp only [Bool.and_eq_true, decide_eq_true_eq, Bool.not_eq_true', List.any_eq_false] at q
  have kl := R.cntsl
  have hrow : r.cnts[a]? = some (r.cnts[a]'(by omega)) := List.getElem?_eq_getElem (by omega)
  have hm := q.2 _ (List.mem_of_getElem? hrow)
  have hm : ((r.cnts[a]'(by omega)).n : Int) = r.ports := by simpa using hm
  have rl := (R.cntsr _ (List.mem_of_getElem? hrow)).len
  have hc : (r.cnts[a]'(by omega)).l[b]? = some ((r.cnts[a]'(by omega)).l[b]'(by omega)) := List.getElem?_eq_getElem (by omega)
  exact ⟨_, _, hrow, hc, by unfold pairAt; rw [hrow]; simp only; rw [hc]⟩
theorem aAll_spec {r : Rp} (R : RpOk h r) : HCalls Tryz.prog 18 #[.agg (encRp r).toArray] h (fun v h' => v = .bool (allCM r) ∧ Ext h h') := by
  refine xcalls env0 Tryz.func18 rfl (by kernel_rfl) rfl (by kernel_rfl) ?_
  intro rb h1 n1
  have hrb : h1[rb]? = some (.cells (encRp r).toArray 50 (0, 0)) := n1.this
  refine ⟨encRp r, rfl, reads_all hrb, ?_⟩
  refine (aSquare_spec (R.ext n1.ext)).mono ?_
  rintro v h2 ⟨rfl, x2⟩
  have x02 := n1.ext.trans x2
  have hrb2 := x2.blk hrb
  refine xif_of (fun q => ?_) (fun q => ?_)
  · have q : squareM r = false := by simpa using q
    exact ⟨congrArg Value.bool (by unfold allCM; rw [q]; rfl), x02⟩
  have q : squareM r = true := by simpa using q
  have ks := R.cntss
  have kp : r.ports = (r.kn : Int) := by
    unfold squareM at q
    simp only [Bool.and_eq_true, decide_eq_true_eq] at q
    exact q.1.symm
  have bad : ∀ a b, a < r.ports.toNat → b < r.ports.toNat → pairAt r a b = false → allCM r = false := by
    intro a b ha hb k
    unfold allCM
    rw [q, Bool.true_and]
    exact decide_eq_false fun w => by rw [w a ha b hb] at k; cases k
  refine ⟨_, cell_blk hrb2 rfl, ?_⟩
  refine ⟨Nat, fun i => [(1, .pointer (some ⟨rb, 0, none⟩)), (10, .int .i64 r.ports), (11, .int .i64 i)], fun i h' => (i ≤ r.ports.toNat ∧ ∀ a, a < i → ∀ b, b < r.ports.toNat → pairAt r a b = true) ∧ h'[rb]? = some (.cells (encRp r).toArray 50 (0, 0)) ∧ Ext h h', fun i => r.ports.toNat - i, 0, ⟨rfl, rfl, rfl, trivial⟩, ⟨⟨Nat.zero_le _, fun a ha => by omega⟩, hrb2, x02⟩, ?_⟩
  rintro i h3 ⟨⟨hi, hal⟩, hrb3, x3⟩
  refine xif_of (fun hlt => ?_) (fun hge => ?_)
  rotate_left
  · have hge : ¬ (i : Int) < r.ports := of_decide_eq_false hge
    refine ⟨congrArg Value.bool ?_, x3⟩
    unfold allCM
    rw [q, Bool.true_and]
    exact (decide_eq_true fun a ha => hal a (by omega)).symm
  have hlt : (i : Int) < r.ports := of_decide_eq_true hlt
  refine ⟨_, cell_blk hrb3 rfl, ?_⟩
  refine ⟨Nat, fun k => [(1, .pointer (some ⟨rb, 0, none⟩)), (3, .int .i64 i), (10, .int .i64 r.ports), (11, .int .i64 i), (16, .int .i64 r.ports), (17, .int .i64 k)], fun k h' => (k ≤ r.ports.toNat ∧ ∀ b, b < k → pairAt r i b = true) ∧ h'[rb]? = some (.cells (encRp r).toArray 50 (0, 0)) ∧ Ext h h', fun k => r.ports.toNat - k, 0, ⟨rfl, rfl, rfl, rfl, rfl, rfl, trivial⟩, ⟨⟨Nat.zero_le _, fun b hb => by omega⟩, hrb3, x3⟩, ?_⟩
  rintro k h4 ⟨⟨hk, hbl⟩, hrb4, x4⟩
  refine xif_of (fun hlt2 => ?_) (fun hge2 => ?_)
  rotate_left
  · have hge2 : ¬ (k : Int) < r.ports := of_decide_eq_false hge2
    refine ⟨i + 1, ⟨rfl, rfl, slot_inc (by omega), trivial⟩, ⟨⟨by omega, fun a ha b hb => ?_⟩, hrb4, x4⟩, by show r.ports.toNat - (i + 1) < r.ports.toNat - i; omega⟩
    by_cases e : a = i
    · subst e; exact hbl b (by omega)
    · exact hal a (by omega) b hb
  have hlt2 : (k : Int) < r.ports := of_decide_eq_true hlt2
  obtain ⟨row, c, hrow, hc, hp⟩ := square_row R q (a := i) (b := k) (by omega) (by omega)
  refine ⟨encRp r, rfl, reads_all hrb4, ?_⟩
  refine (aCounts_spec (R.ext x4) hrow hc).mono ?_
  rintro v h5 ⟨rfl, x5⟩
  have hrb5 := x5.blk hrb4
  refine xif_of (fun q3 => ?_) (fun q3 => ?_)
  · have q3 : pairM r c i k = false := by simpa using q3
    exact ⟨congrArg Value.bool (bad i k (by omega) (by omega) (hp.trans q3)).symm, x4.trans x5⟩
  · have q3 : pairM r c i k = true := by simpa using q3
    refine ⟨k + 1, ⟨rfl, rfl, rfl, rfl, rfl, slot_inc (by omega), trivial⟩, ⟨⟨by omega, fun b hb => ?_⟩, hrb5, x4.trans x5⟩, by show r.ports.toNat - (k + 1) < r.ports.toNat - k; omega⟩
    by_cases e : b = k
    · subst e; exact hp.trans q3
    · exact hbl b (by omega)
/-! ### What became of frames -/
def encBo (b : Bool) : List Value := [.bool b]
theorem encBo_len (b : Bool) : (encBo b).length = 1 := rfl
def doneM (n : Nat) (ids : List Int) : Bool := decide ((∀ x ∈ ids, 0 ≤ x ∧ x < (n : Int)) ∧ ids.Nodup)
theorem done_next {n : Nat} {ids : List Int} {x : Int} : doneM n (ids ++ [x]) = true ↔ doneM n ids = true ∧ (0 ≤ x ∧ x < (n : Int)) ∧ x ∉ ids := by
  unfold doneM
  rw [decide_eq_true_iff, decide_eq_true_iff, List.nodup_append]
  simp only [List.mem_append, List.mem_singleton, show [x].Nodup from List.pairwise_singleton _ _, true_and]
  constructor
  · rintro ⟨h1, h2, h3⟩
    exact ⟨⟨fun y hy => h1 y (.inl hy), h2⟩, h1 x (.inr rfl), fun hx => h3 x hx x rfl rfl⟩
  · rintro ⟨⟨h1, h2⟩, h3, h4⟩
    exact ⟨fun y hy => hy.elim (h1 y) fun e => e ▸ h3, h2, fun a ha b hb e => h4 (by subst hb; subst e; exact ha)⟩
theorem done_take {n : Nat} {ids : List Int} (h : doneM n ids = true) (k : Nat) : doneM n (ids.take k) = true := by
  unfold doneM at *
  rw [decide_eq_true_iff] at *
  exact ⟨fun x hx => h.1 x (List.mem_of_mem_take hx), h.2.sublist (List.take_sublist _ _)⟩
def seenL (n : Nat) (ids : List Int) : List Bool := (List.range n).map fun (k : Nat) => decide ((k : Int) ∈ ids)
theorem seen_len (n : Nat) (ids : List Int) : (seenL n ids).length = n := by unfold seenL; rw [List.length_map, List.length_range]
theorem seen_at {n : Nat} {ids : List Int} {k : Nat} (h : k < n) : (seenL n ids)[k]? = some (decide ((k : Int) ∈ ids)) := by
  unfold seenL
  rw [List.getElem?_map, List.getElem?_range h]; rfl
theorem seen_set {n : Nat} {ids : List Int} {k : Nat} (h : k < n) : (seenL n ids).set k true = seenL n (ids ++ [(k : Int)]) := by
  apply List.ext_getElem?
  intro j
  rw [List.getElem?_set]
  by_cases e : k = j
  · subst e
    rw [if_pos rfl, if_pos (by rw [seen_len]; exact h), seen_at h]
    simp
  · rw [if_neg e]
    by_cases hj : j < n
    · rw [seen_at hj, seen_at hj]
      congr 1
      rw [Bool.eq_iff_iff, decide_eq_true_iff, decide_eq_true_iff, List.mem_append, List.mem_singleton]
      exact ⟨.inl, fun w => w.resolve_right (by omega)⟩
    · rw [List.getElem?_eq_none (by rw [seen_len]; omega), List.getElem?_eq_none (by rw [seen_len]; omega)]
def idsD (r : Rp) : List Int := r.don.map Dn.id
theorem boInfo : (Tryz.prog.info? 4).map (fun i => (i.size, i.bytes)) = some (1, 1) := by kernel_rfl
theorem aDone_spec {r : Rp} (R : RpOk h r) : HCalls Tryz.prog 16 #[.agg (encRp r).toArray] h (fun v h' => v = .bool (doneM r.cn (idsD r)) ∧ Ext h h') := by
  refine xcalls env0 Tryz.func16 rfl (by kernel_rfl) rfl (by kernel_rfl) ?_
  intro rb h1 n1
  have hrb : h1[rb]? = some (.cells (encRp r).toArray 50 (0, 0)) := n1.this
  have cs := R.cames
  have ds := R.dons
  have dl := R.donl
  have by1 : ((Tryz.prog.types[(4 : Nat)]!).bytes : Int) * (r.cn : Int) ≤ 140737488355328 := by
    have : (Tryz.prog.types[(4 : Nat)]!).bytes = 1 := by kernel_rfl
    rw [this]; omega
  refine ⟨_, cell_blk hrb rfl, by omega, by omega, by1, by omega, ?_⟩
  intro sb h2 n2
  have hrb2 := n2.ext.blk hrb
  have x2 := n1.ext.trans n2.ext
  have o2 : OwnA encBo 1 4 h.size h2 (some ⟨sb, 0, none⟩) r.cn (seenL r.cn []) := by
    have := OwnA.made (enc := encBo) (sz := 1) (z := false) (base := h.size) r.cn n2 rfl n1.ext.size
    have e : List.replicate r.cn false = seenL r.cn [] := by
      unfold seenL
      simp only [List.not_mem_nil, decide_false, List.map_const', List.length_range]
    rw [e] at this
    exact this
  refine ⟨_, cell_blk hrb2 rfl, ?_⟩
  refine ⟨Nat, fun i => [(1, .pointer (some ⟨rb, 0, none⟩)), (3, .slice (some ⟨sb, 0, none⟩) r.cn r.cn), (11, .slice r.DA r.dn r.dc), (12, .int .i64 r.dn), (13, .int .i64 i)],
    fun i h' => (i ≤ r.dn ∧ doneM r.cn ((idsD r).take i) = true) ∧ OwnA encBo 1 4 h.size h' (some ⟨sb, 0, none⟩) r.cn (seenL r.cn ((idsD r).take i)) ∧ h'[rb]? = some (.cells (encRp r).toArray 50 (0, 0)) ∧ Ext h h', fun i => r.dn - i, 0, ⟨rfl, rfl, rfl, rfl, rfl, trivial⟩, ⟨⟨Nat.zero_le _, rfl⟩, o2, hrb2, x2⟩, ?_⟩
  rintro i h3 ⟨⟨hi, hd⟩, o3, hrb3, x3⟩
  refine xif_of (fun hlt => ?_) (fun hge => ?_)
  rotate_left
  · have hge : ¬ (i : Int) < r.dn := of_decide_eq_false hge
    rw [List.take_of_length_le (by unfold idsD; rw [List.length_map]; omega)] at hd
    exact ⟨congrArg Value.bool hd.symm, x3⟩
  have hlt : (i : Int) < r.dn := of_decide_eq_true hlt
  obtain ⟨d, hdn⟩ : ∃ d, r.don[i]? = some d := ⟨r.don[i]'(by omega), List.getElem?_eq_getElem (by omega)⟩
  have hid : (idsD r)[i]? = some d.id := by unfold idsD; rw [List.getElem?_map, hdn]; rfl
  have bad : ¬ ((0 ≤ d.id ∧ d.id < (r.cn : Int)) ∧ d.id ∉ (idsD r).take i) → doneM r.cn (idsD r) = false := by
    intro k
    cases hk : doneM r.cn (idsD r) with
    | false => rfl
    | true =>
      have := done_take hk (i + 1)
      rw [← take_next hid, done_next] at this
      exact absurd this.2 k
  obtain ⟨da, hDA, drd⟩ := (x3.row R.don) i d hdn
  refine ⟨da, hDA, by omega, hlt, encDn d, rfl, drd, ?_⟩
  intro db h4 n4
  refine ⟨rfl, rfl, canset_blk n4.this rfl, fun h5 s5 => ?_⟩
  have hdb : h5[db]? = some (.cells (encDn d).toArray 74 (0, 0)) := n4.fill rfl s5
  have x35 : Ext h3 h5 := n4.ext.stored s5 (n4.ge (Ext.refl _))
  have hrb5 := x35.blk hrb3
  have x5 := x3.trans x35
  have o5 := o3.ext x35
  refine ⟨encRp r, rfl, reads_all hrb5, _, cell_blk hdb rfl, ?_⟩
  refine (aCame_spec r d.id).mono ?_
  rintro v h6 ⟨hv, x6⟩
  have hrb6 := x6.blk hrb5
  have hdb6 := x6.blk hdb
  have x06 := x5.trans x6
  have o6 := o5.ext x6
  cases hc : cameM r d.id with
  | false =>
    rw [hc] at hv
    subst hv
    have : ¬ (0 ≤ d.id ∧ d.id < (r.cn : Int)) := of_decide_eq_false hc
    exact ⟨congrArg Value.bool (bad fun k => this k.1).symm, x06⟩
  | true =>
    rw [hc] at hv
    subst hv
    have hc : 0 ≤ d.id ∧ d.id < (r.cn : Int) := of_decide_eq_true hc
    have hc' : ((d.id.toNat : Nat) : Int) = d.id := Int.toNat_of_nonneg hc.1
    obtain ⟨sa, hSA, srd⟩ := (o6.row encBo_len) d.id.toNat _ (seen_at (by omega))
    rw [hc'] at srd
    have q0 : cell h6 (sa.add (d.id.toNat * 1)) = some (.bool (decide (d.id ∈ (idsD r).take i))) := by
      have := srd.get 0 (v := .bool (decide (d.id ∈ (idsD r).take i))) rfl
      rwa [add_zero'] at this
    refine ⟨_, cell_blk hdb6 rfl, sa, hSA, hc.1, hc.2, _, q0, ?_⟩
    refine xif_of (fun q => ?_) (fun q => ?_)
    · have q : d.id ∈ (idsD r).take i := of_decide_eq_true q
      exact ⟨congrArg Value.bool (bad fun k => k.2 q).symm, x06⟩
    have q : d.id ∉ (idsD r).take i := of_decide_eq_false q
    obtain ⟨b', hA', hg', hcs⟩ := o6.canset encBo_len (i := d.id.toNat) (j := 0) (n := 1) (by rw [seen_len]; omega) (by omega)
    cases hA'
    refine ⟨_, cell_blk hdb6 rfl, _, rfl, hc.1, hc.2, rfl, rfl, ?_, fun h7 s7 => ?_⟩
    · rw [add_lit, Nat.zero_add]; exact hcs
    rw [add_lit, Nat.zero_add] at s7
    have o7 := o6.put (x' := true) (j := 0) (vs := [.bool true]) encBo_len rfl s7 (seen_at (ids := (idsD r).take i) (k := d.id.toNat) (by omega)) (Nat.le_refl _) rfl
    rw [seen_set (by omega), hc', take_next hid] at o7
    have ne : rb ≠ sb := by have := n2.lt hrb; omega
    refine ⟨i + 1, ⟨rfl, rfl, rfl, rfl, slot_inc (by omega), trivial⟩, ⟨⟨by omega, ?_⟩, o7, s7.blk hrb6 ne, x06.stored s7 hg'⟩, by show r.dn - (i + 1) < r.dn - i; omega⟩
    rw [← take_next hid]
    exact done_next.2 ⟨hd, hc, q⟩
/-! ### The rules -/
/-- What may be said of a report. -/
def wordS : Nat → ByteArray
  | 0 => { data := #[] }
  | 1 => { data := #[116, 105, 109, 101, 115] }
  | 2 => { data := #[98, 117, 115, 121] }
  | 3 => { data := #[97, 110, 115, 119, 101, 114, 115] }
  | 4 => { data := #[100, 111, 110, 101] }
  | 5 => { data := #[115, 116, 114, 97, 110, 103, 101, 114] }
  | 6 => { data := #[114, 101, 102, 108, 101, 99, 116, 101, 100] }
  | 7 => { data := #[114, 101, 102, 117, 115, 101, 100] }
  | 8 => { data := #[102, 111, 117, 110, 100] }
  | 9 => { data := #[116, 119, 105, 99, 101] }
  | 10 => { data := #[111, 114, 100, 101, 114] }
  | 11 => { data := #[98, 121, 116, 101, 115] }
  | 12 => { data := #[99, 111, 117, 110, 116, 115] }
  | _ => { data := #[112, 108, 97, 110] }
def encRl (x : ByteArray × Nat) : List Value := [.string x.1, .func (.func x.2) #[] #[]]
theorem encRl_len (x : ByteArray × Nat) : (encRl x).length = 2 := rfl
def rulesL : List (ByteArray × Nat) := [(wordS 5, 40), (wordS 6, 41), (wordS 7, 42), (wordS 8, 44), (wordS 9, 45), (wordS 10, 48), (wordS 11, 50)]
theorem aRules_spec : HCalls Tryz.prog 17 #[] h (fun v h' => ∃ b, v = .slice (some ⟨b, 0, none⟩) 7 7 ∧ h'[b]? = some (.cells (rulesL.flatMap encRl ++ []).toArray 84 (0, 0)) ∧ Ext h h') := by
  refine xcalls env0 Tryz.func17 rfl (by kernel_rfl) rfl (by kernel_rfl) ?_
  intro b h1 n1
  exact ⟨b, rfl, n1.this, n1.ext⟩
def wrongO (r : Rp) (o : Ot) (w i : Nat) : Bool := match w with
  | 0 => strangerM r o
  | 1 => decide (o.frm = o.to)
  | 2 => refusedM r o
  | 3 => foundM r o
  | 4 => (r.outs.take i).any (twiceM o)
  | 5 => (r.outs.take i).any (orderQ o)
  | _ => bytesM r o
def wrongM (r : Rp) (w i : Nat) : Bool := match r.outs[i]? with
  | none => false
  | some o => wrongO r o w i
theorem wrong_at {r : Rp} {i : Nat} {o : Ot} (ho : r.outs[i]? = some o) (w : Nat) : wrongM r w i = wrongO r o w i := by unfold wrongM; rw [ho]
theorem aWrong_spec {r : Rp} (R : RpOk h r) {w i : Nat} {x : ByteArray × Nat} (hx : rulesL[w]? = some x) (hi : i < r.on) (hs : w = 6 → wrongM r 0 i = false) :
    HCalls Tryz.prog x.2 #[.agg (encRp r).toArray, .int .i64 i] h (fun v h' => v = .bool (wrongM r w i) ∧ Ext h h') := by
  have ol := R.outsl
  obtain ⟨o, ho⟩ : ∃ o, r.outs[i]? = some o := ⟨r.outs[i]'(by omega), List.getElem?_eq_getElem (by omega)⟩
  have hw : w < 7 := (List.getElem?_eq_some_iff.1 hx).1
  have e := wrong_at ho
  rw [e] at hs ⊢
  match w, hw with
  | 0, _ => cases hx; exact aStranger_spec R ho
  | 1, _ => cases hx; exact aRu1_spec R ho
  | 2, _ => cases hx; exact aRu2_spec R ho
  | 3, _ => cases hx; exact aRu3_spec R ho
  | 4, _ => cases hx; exact aRu4_spec R ho
  | 5, _ => cases hx; exact aRu5_spec R ho
  | 6, _ => cases hx; exact aBytes_spec R ho (hs rfl)
end
end Go.Proofs.YtcjoenkpibhmoaaGreatE
