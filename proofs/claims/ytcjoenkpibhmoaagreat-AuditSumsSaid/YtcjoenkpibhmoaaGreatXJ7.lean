/- What is wrong with a report first, by the document. Conditions: the report is one. -/
import Derived.Test.YtcjoenkpibhmoaaGreatXJ6
import Derived.Test.YtcjoenkpibhmoaaGreatXJ5
import Derived.Test.YtcjoenkpibhmoaaGreatXH9
set_option linter.unusedVariables false
set_option linter.unusedSimpArgs false
set_option maxRecDepth 100000
namespace Go.Proofs.YtcjoenkpibhmoaaGreatE
open Go Go.Proofs
def env_rHistory23 : Nat → Ann
  | 4 => ⟨.op 0 [] <| .op 1 [] <| .op 2 [] <| .op 3 [] <| .op 4 [1] <| .op 5 [] <| .op 6 [] <| .op 7 [] <| .op 8 [] <| .op 9 [] <| .nil, [0, 1, 0, 4, 12, 31, 63, 127, 127, 511], false⟩
  | _ => ⟨.nil, [], false⟩
def env_rJudge23 : Nat → Ann
  | 9 => ⟨.op 0 [] <| .op 1 [] <| .op 2 [] <| .op 3 [] <| .op 4 [] <| .op 5 [] <| .op 6 [] <| .op 7 [] <| .op 8 [] <| .nil, [0, 0, 2, 0, 14, 30, 62, 127, 255], false⟩
  | 14 => ⟨.op 0 [] <| .op 1 [] <| .op 2 [] <| .op 3 [] <| .op 4 [] <| .op 5 [] <| .op 6 [] <| .op 7 [] <| .op 8 [] <| .op 9 [] <| .op 10 [] <| .op 11 [] <| .op 12 [] <| .nil, [0, 1, 0, 7, 15, 31, 0, 64, 0, 448, 960, 1984, 4095], false⟩
  | 23 => ⟨.op 0 [] <| .op 1 [] <| .op 2 [] <| .op 3 [] <| .op 4 [] <| .op 5 [] <| .op 6 [] <| .nil, [0, 0, 0, 0, 12, 28, 63], false⟩
  | 30 => ⟨.op 0 [] <| .op 1 [] <| .op 2 [] <| .op 3 [] <| .op 4 [] <| .op 5 [] <| .op 6 [] <| .op 7 [] <| .op 8 [] <| .op 9 [] <| .nil, [0, 1, 0, 7, 15, 31, 0, 64, 192, 511], false⟩
  | _ => ⟨.nil, [], false⟩
section
variable {h : Heap}
set_option maxHeartbeats 1000000 in
theorem rCounts23_spec {r : Rp} (R : RpOk h r) {a b : Nat} {row : Cr} {c : Cn} (hrow : r.cnts[a]? = some row) (hc : row.l[b]? = some c) :
    HCalls Tryz.prog 23 #[.agg (encRp r).toArray, .int .i64 a, .int .i64 b] h (fun v h' => v = .bool (pairM r c a b) ∧ Ext h h') := by
  refine xcalls env0 Tryz.func23 rfl (by kernel_rfl) rfl (by kernel_rfl) ?_
  intro rb h1 n1
  have hrb1 : h1[rb]? = some (.cells (encRp r).toArray 35 (0, 0)) := n1.this
  obtain ⟨ka, hKA, krd⟩ := (n1.ext.row R.cnts) a row hrow
  have ka1 := (List.getElem?_eq_some_iff.1 hrow).1
  have kl := R.cntsl
  have RO := (R.ext n1.ext).cntsr row (List.mem_of_getElem? hrow)
  obtain ⟨ca, hCA, crd⟩ := RO.row b c hc
  have cb1 := (List.getElem?_eq_some_iff.1 hc).1
  have cl := RO.len
  have k0 : cell h1 (ka.add ((a : Int).toNat * 1)) = some (.slice row.A row.n row.c) := by
    have := krd.get 0 (v := .slice row.A row.n row.c) rfl
    rwa [add_zero'] at this
  refine ⟨_, cell_blk hrb1 rfl, ka, hKA, by omega, by omega, _, k0, ca, hCA, by omega, by omega, encCn c, rfl, crd, ?_⟩
  intro cb h2 n2
  refine ⟨rfl, rfl, canset_blk n2.this rfl, fun gz s3 => ?_⟩
  have hcb0 : gz[cb]? = some (.cells (encCn c).toArray 58 (0, 0)) := n2.fill rfl s3
  have x13 : Ext h1 gz := n2.ext.stored s3 (n2.ge (Ext.refl _))
  have hrb0 := x13.blk hrb1
  have xg := n1.ext.trans x13
  have R0 := R.ext xg
  intro wb hw nw
  have hwb : hw[wb]? = some (.cells (encCn (cntR r a b 0 0)).toArray 58 (0, 0)) := nw.this
  have wge : gz.size ≤ wb := nw.ge (Ext.refl _)
  have rne : rb ≠ wb := by have := nw.lt hrb0; omega
  have CB : ∀ g, Ext gz g → g[cb]? = some (.cells (encCn c).toArray 58 (0, 0)) := fun g x => x.blk hcb0
  have ll := R.logl
  have ls := R.logs
  have ol := R.outsl
  have os := R.outss
  refine ⟨Nat, fun i => [(1, .int .i64 a), (2, .int .i64 b), (3, .pointer (some ⟨rb, 0, none⟩)), (7, .pointer (some ⟨cb, 0, none⟩)), (8, .pointer (some ⟨wb, 0, none⟩)), (9, .int .i64 (cnt (kGet a b) r.log i)), (10, .int .i64 i)],
    fun i h' => i ≤ r.ln ∧ h'[wb]? = some (.cells (encCn (cntR r a b i 0)).toArray 58 (0, 0)) ∧ h'[rb]? = some (.cells (encRp r).toArray 35 (0, 0)) ∧ h'[cb]? = some (.cells (encCn c).toArray 58 (0, 0)) ∧ Ext gz h', fun i => r.ln - i, 0, ⟨rfl, rfl, rfl, rfl, rfl, rfl, rfl, trivial⟩, ⟨Nat.zero_le _, hwb, nw.ext.blk hrb0, CB _ nw.ext, nw.ext⟩, ?_⟩
  rintro i h3 ⟨hi, hwb3, hrb3, hcb3, x3⟩
  refine ⟨_, cell_blk hrb3 rfl, ?_⟩
  refine xif_of (fun hlt => ?_) (fun hge => ?_)
  · have hlt : (i : Int) < r.ln := of_decide_eq_true hlt
    obtain ⟨e, he⟩ : ∃ e, r.log[i]? = some e := ⟨r.log[i]'(by omega), List.getElem?_eq_getElem (by omega)⟩
    obtain ⟨la, hLA, lrd⟩ := (x3.row R0.log) i e he
    have m0 := cnt_next (p := kOff a b) he
    have m1 := cnt_next (p := kFull a b) he
    have m2 := cnt_next (p := kGet a b) he
    have m3 := cnt_next (p := kDrain (drainer r.ports) a b) he
    have g0 := cnt_range (kOff a b) r.log i
    have g1 := cnt_range (kFull a b) r.log i
    have g2 := cnt_range (kGet a b) r.log i
    have g3 := cnt_range (kDrain (drainer r.ports) a b) r.log i
    refine ⟨_, cell_blk hrb3 rfl, la, hLA, by omega, hlt, encHe e, rfl, lrd, ?_⟩
    intro eb h4 n4
    refine ⟨rfl, rfl, canset_blk n4.this rfl, fun h5 s5 => ?_⟩
    have heb : h5[eb]? = some (.cells (encHe e).toArray 107 (0, 0)) := n4.fill rfl s5
    have x35 : Ext h3 h5 := n4.ext.stored s5 (n4.ge (Ext.refl _))
    have hwb5 := x35.blk hwb3
    have hrb5 := x35.blk hrb3
    have x5 := x3.trans x35
    have mk : ∀ (x y z : Int), x = cnt (kOff a b) r.log (i + 1) → y = cnt (kFull a b) r.log (i + 1) → z = cnt (kDrain (drainer r.ports) a b) r.log (i + 1) → (⟨x, y, cnt (kSent a b) r.outs 0, 0, z, 0⟩ : Cn) = cntR r a b (i + 1) 0 := by
      rintro x y z rfl rfl rfl; rfl
    have skip : kSel a b e = false → cntR r a b i 0 = cntR r a b (i + 1) 0 ∧ cnt (kGet a b) r.log i = cnt (kGet a b) r.log (i + 1) := fun q =>
      ⟨mk _ _ _ (cnt_no he (by unfold kOff; rw [q]; rfl)).symm (cnt_no he (by unfold kFull; rw [q]; rfl)).symm (cnt_no he (by unfold kDrain; rw [q]; rfl)).symm, (cnt_no he (by unfold kGet; rw [q]; rfl)).symm⟩
    have skips : kSel a b e = false → h5[wb]? = some (.cells (encCn (cntR r a b (i + 1) 0)).toArray 58 (0, 0)) ∧ cnt (kGet a b) r.log i = cnt (kGet a b) r.log (i + 1) := fun q => ⟨(skip q).1 ▸ hwb5, (skip q).2⟩
    refine ⟨_, cell_blk heb rfl, ?_⟩
    refine xif_of (fun q => ?_) (fun q => ?_)
    · have q : e.fin ≤ 0 := of_decide_eq_true q
      obtain ⟨k1, k2⟩ := skips (decide_eq_false (by omega))
      exact ⟨i + 1, ⟨rfl, rfl, rfl, rfl, rfl, congrArg (fun x => some (Value.int .i64 x)) k2, slot_inc (by omega), trivial⟩, ⟨by omega, k1, hrb5, CB _ (x5), x5⟩, by show r.ln - (i + 1) < r.ln - i; omega⟩
    have q : ¬ e.fin ≤ 0 := of_decide_eq_false q
    refine ⟨_, cell_blk heb rfl, ?_⟩
    refine xif_of (fun q2 => ?_) (fun q2 => ?_)
    · have q2 : ¬ e.op.port = a := by simpa using q2
      obtain ⟨k1, k2⟩ := skips (decide_eq_false (fun k => q2 k.2.1))
      exact ⟨i + 1, ⟨rfl, rfl, rfl, rfl, rfl, congrArg (fun x => some (Value.int .i64 x)) k2, slot_inc (by omega), trivial⟩, ⟨by omega, k1, hrb5, CB _ (x5), x5⟩, by show r.ln - (i + 1) < r.ln - i; omega⟩
    have q2 : e.op.port = a := by simpa using q2
    refine ⟨_, cell_blk heb rfl, ?_⟩
    refine xif_of (fun q3 => ?_) (fun q3 => ?_)
    · have q3 : ¬ e.op.to = b := by simpa using q3
      obtain ⟨k1, k2⟩ := skips (decide_eq_false (fun k => q3 k.2.2))
      exact ⟨i + 1, ⟨rfl, rfl, rfl, rfl, rfl, congrArg (fun x => some (Value.int .i64 x)) k2, slot_inc (by omega), trivial⟩, ⟨by omega, k1, hrb5, CB _ (x5), x5⟩, by show r.ln - (i + 1) < r.ln - i; omega⟩
    have q3 : e.op.to = b := by simpa using q3
    have sel : kSel a b e = true := decide_eq_true ⟨by omega, q2, q3⟩
    refine ⟨_, cell_blk heb rfl, ?_⟩
    refine xif_of (fun q4 => ?_) (fun q4 => ?_)
    · have q4 : e.op.kind = 10 := by simpa using q4
      have w0 : IntKind.i64.wrap (cnt (kOff a b) r.log i + 1) = cnt (kOff a b) r.log (i + 1) := by
        rw [wrap_i64 (by omega) (by omega), cnt_yes he (by unfold kOff; rw [sel]; simp [q4])]
      have w2 : cnt (kGet a b) r.log i = cnt (kGet a b) r.log (i + 1) := (cnt_no he (by unfold kGet; rw [sel]; simp [q4])).symm
      have w3 : cnt (kDrain (drainer r.ports) a b) r.log i = cnt (kDrain (drainer r.ports) a b) r.log (i + 1) := (cnt_no he (by unfold kDrain; rw [sel]; simp [q4])).symm
      refine ⟨_, cell_blk hwb5 rfl, rfl, rfl, canset_blk hwb5 rfl, fun h6 s6 => ?_⟩
      have hwb6 : h6[wb]? = some (.cells (encCn ⟨IntKind.i64.wrap (cnt (kOff a b) r.log i + 1), cnt (kFull a b) r.log i, cnt (kSent a b) r.outs 0, 0, cnt (kDrain (drainer r.ports) a b) r.log i, 0⟩).toArray 58 (0, 0)) := s6.put hwb5
      have hrb6 := s6.blk hrb5 rne
      have heb6 := s6.blk heb (by have := n4.lt hwb3; show eb ≠ wb; omega)
      have x6 : Ext gz h6 := x5.stored s6 wge
      refine ⟨_, cell_blk heb6 rfl, ?_⟩
      refine xif_of (fun q5 => ?_) (fun q5 => ?_)
      · have q5 : e.ans = 0 := by simpa using q5
        have w1 : IntKind.i64.wrap (cnt (kFull a b) r.log i + 1) = cnt (kFull a b) r.log (i + 1) := by
          rw [wrap_i64 (by omega) (by omega), cnt_yes he (by unfold kFull; rw [sel]; simp [q4, q5])]
        refine ⟨_, cell_blk hwb6 rfl, rfl, rfl, canset_blk hwb6 rfl, fun h7 s7 => ?_⟩
        have hwb7 : h7[wb]? = some (.cells (encCn ⟨IntKind.i64.wrap (cnt (kOff a b) r.log i + 1), IntKind.i64.wrap (cnt (kFull a b) r.log i + 1), cnt (kSent a b) r.outs 0, 0, cnt (kDrain (drainer r.ports) a b) r.log i, 0⟩).toArray 58 (0, 0)) := s7.put hwb6
        rw [mk _ _ _ w0 w1 w3] at hwb7
        have heb7 := s7.blk heb6 (by have := n4.lt hwb3; show eb ≠ wb; omega)
        refine ⟨_, cell_blk heb7 rfl, ?_⟩
        refine xif_of (fun q => ?_) (fun _ => ?_)
        · have q : e.op.kind = 11 := by simpa using q
          omega
        exact ⟨i + 1, ⟨rfl, rfl, rfl, rfl, rfl, congrArg (fun x => some (Value.int .i64 x)) w2, slot_inc (by omega), trivial⟩, ⟨by omega, hwb7, s7.blk hrb6 rne, CB _ (x6.stored s7 wge), x6.stored s7 wge⟩, by show r.ln - (i + 1) < r.ln - i; omega⟩
      · have q5 : ¬ e.ans = 0 := by simpa using q5
        have w1 : cnt (kFull a b) r.log i = cnt (kFull a b) r.log (i + 1) := (cnt_no he (by unfold kFull; rw [sel]; simp [q5])).symm
        rw [mk _ _ _ w0 w1 w3] at hwb6
        refine ⟨_, cell_blk heb6 rfl, ?_⟩
        refine xif_of (fun q => ?_) (fun _ => ?_)
        · have q : e.op.kind = 11 := by simpa using q
          omega
        exact ⟨i + 1, ⟨rfl, rfl, rfl, rfl, rfl, congrArg (fun x => some (Value.int .i64 x)) w2, slot_inc (by omega), trivial⟩, ⟨by omega, hwb6, hrb6, CB _ (x6), x6⟩, by show r.ln - (i + 1) < r.ln - i; omega⟩
    have q4 : ¬ e.op.kind = 10 := by simpa using q4
    have w0 : cnt (kOff a b) r.log i = cnt (kOff a b) r.log (i + 1) := (cnt_no he (by unfold kOff; rw [sel]; simp [q4])).symm
    have w1 : cnt (kFull a b) r.log i = cnt (kFull a b) r.log (i + 1) := (cnt_no he (by unfold kFull; rw [sel]; simp [q4])).symm
    refine ⟨_, cell_blk heb rfl, ?_⟩
    refine xif_of (fun q5 => ?_) (fun q5 => ?_)
    · have q5 : e.op.kind = 11 := by simpa using q5
      have w2 : IntKind.i64.wrap (cnt (kGet a b) r.log i + 1) = cnt (kGet a b) r.log (i + 1) := by
        rw [wrap_i64 (by omega) (by omega), cnt_yes he (by unfold kGet; rw [sel]; simp [q5])]
      refine ⟨_, cell_blk heb rfl, _, cell_blk hrb5 rfl, ?_⟩
      refine xif_of (fun q6 => ?_) (fun q6 => ?_)
      · have q6 : e.who = drainer r.ports := eq_of_beq q6
        have w3 : IntKind.i64.wrap (cnt (kDrain (drainer r.ports) a b) r.log i + 1) = cnt (kDrain (drainer r.ports) a b) r.log (i + 1) := by
          rw [wrap_i64 (by omega) (by omega), cnt_yes he (by unfold kDrain; rw [sel]; simp [q5, q6])]
        refine ⟨_, cell_blk hwb5 rfl, rfl, rfl, canset_blk hwb5 rfl, fun h6 s6 => ?_⟩
        have hwb6 : h6[wb]? = some (.cells (encCn ⟨cnt (kOff a b) r.log i, cnt (kFull a b) r.log i, cnt (kSent a b) r.outs 0, 0, IntKind.i64.wrap (cnt (kDrain (drainer r.ports) a b) r.log i + 1), 0⟩).toArray 58 (0, 0)) := s6.put hwb5
        rw [mk _ _ _ w0 w1 w3] at hwb6
        exact ⟨i + 1, ⟨rfl, rfl, rfl, rfl, rfl, congrArg (fun x => some (Value.int .i64 x)) w2, slot_inc (by omega), trivial⟩, ⟨by omega, hwb6, s6.blk hrb5 rne, CB _ (x5.stored s6 wge), x5.stored s6 wge⟩, by show r.ln - (i + 1) < r.ln - i; omega⟩
      · have q6 : ¬ e.who = drainer r.ports := fun k => by
          have : (e.who == drainer r.ports) = false := q6
          rw [k] at this; simp at this
        have w3 : cnt (kDrain (drainer r.ports) a b) r.log i = cnt (kDrain (drainer r.ports) a b) r.log (i + 1) := (cnt_no he (by unfold kDrain; rw [sel]; simp [q6])).symm
        have hwb6 : h5[wb]? = some (.cells (encCn ⟨cnt (kOff a b) r.log i, cnt (kFull a b) r.log i, cnt (kSent a b) r.outs 0, 0, cnt (kDrain (drainer r.ports) a b) r.log i, 0⟩).toArray 58 (0, 0)) := hwb5
        rw [mk _ _ _ w0 w1 w3] at hwb6
        exact ⟨i + 1, ⟨rfl, rfl, rfl, rfl, rfl, congrArg (fun x => some (Value.int .i64 x)) w2, slot_inc (by omega), trivial⟩, ⟨by omega, hwb6, hrb5, CB _ (x5), x5⟩, by show r.ln - (i + 1) < r.ln - i; omega⟩
    · have q5 : ¬ e.op.kind = 11 := by simpa using q5
      have w2 : cnt (kGet a b) r.log i = cnt (kGet a b) r.log (i + 1) := (cnt_no he (by unfold kGet; rw [sel]; simp [q5])).symm
      have w3 : cnt (kDrain (drainer r.ports) a b) r.log i = cnt (kDrain (drainer r.ports) a b) r.log (i + 1) := (cnt_no he (by unfold kDrain; rw [sel]; simp [q5])).symm
      have hwb6 : h5[wb]? = some (.cells (encCn ⟨cnt (kOff a b) r.log i, cnt (kFull a b) r.log i, cnt (kSent a b) r.outs 0, 0, cnt (kDrain (drainer r.ports) a b) r.log i, 0⟩).toArray 58 (0, 0)) := hwb5
      rw [mk _ _ _ w0 w1 w3] at hwb6
      exact ⟨i + 1, ⟨rfl, rfl, rfl, rfl, rfl, congrArg (fun x => some (Value.int .i64 x)) w2, slot_inc (by omega), trivial⟩, ⟨by omega, hwb6, hrb5, CB _ (x5), x5⟩, by show r.ln - (i + 1) < r.ln - i; omega⟩
  have hge : ¬ (i : Int) < r.ln := of_decide_eq_false hge
  obtain rfl : i = r.ln := by omega
  refine ⟨Nat, fun k => [(1, .int .i64 a), (2, .int .i64 b), (3, .pointer (some ⟨rb, 0, none⟩)), (7, .pointer (some ⟨cb, 0, none⟩)), (8, .pointer (some ⟨wb, 0, none⟩)), (9, .int .i64 (cnt (kGet a b) r.log r.ln)), (12, .int .i64 k)],
    fun k h' => k ≤ r.on ∧ h'[wb]? = some (.cells (encCn (cntR r a b r.ln k)).toArray 58 (0, 0)) ∧ h'[rb]? = some (.cells (encRp r).toArray 35 (0, 0)) ∧ Ext gz h', fun k => r.on - k, 0, ⟨rfl, rfl, rfl, rfl, rfl, rfl, rfl, trivial⟩, ⟨Nat.zero_le _, hwb3, hrb3, x3⟩, ?_⟩
  rintro k h4 ⟨hk, hwb4, hrb4, x4⟩
  refine ⟨_, cell_blk hrb4 rfl, ?_⟩
  refine xif_of (fun hlt => ?_) (fun hge2 => ?_)
  · have hlt : (k : Int) < r.on := of_decide_eq_true hlt
    obtain ⟨o, ho⟩ : ∃ o, r.outs[k]? = some o := ⟨r.outs[k]'(by omega), List.getElem?_eq_getElem (by omega)⟩
    obtain ⟨oa, hOA, i0, i1, hl5, ord⟩ := out_at (R0.ext x4) ho
    have g0' := cnt_range (kSent a b) r.outs k
    have q1' : cell h4 ((oa.add ((k : Int).toNat * 5)).add 1) = some (.int .i64 o.frm) := ord.get 1 rfl
    have q2' : cell h4 ((oa.add ((k : Int).toNat * 5)).add 2) = some (.int .i64 o.to) := ord.get 2 rfl
    have no : kSent a b o = false → h4[wb]? = some (.cells (encCn (cntR r a b r.ln (k + 1))).toArray 58 (0, 0)) := fun q => by
      have : cntR r a b r.ln (k + 1) = cntR r a b r.ln k := by unfold cntR; rw [cnt_no ho q]
      rw [this]; exact hwb4
    refine ⟨_, cell_blk hrb4 rfl, oa, hOA, i0, i1, _, q1', ?_⟩
    refine xif_of (fun q => ?_) (fun q => ?_)
    rotate_left
    · have q : ¬ o.frm = a := by simpa using q
      exact ⟨k + 1, ⟨rfl, rfl, rfl, rfl, rfl, rfl, slot_inc (by omega), trivial⟩, ⟨by omega, no (decide_eq_false fun e => q e.1), hrb4, x4⟩, by show r.on - (k + 1) < r.on - k; omega⟩
    have q : o.frm = a := by simpa using q
    refine ⟨_, cell_blk hrb4 rfl, oa, hOA, i0, i1, _, q2', ?_⟩
    refine xif_of (fun q2 => ?_) (fun q2 => ?_)
    rotate_left
    · have q2 : ¬ o.to = b := by simpa using q2
      exact ⟨k + 1, ⟨rfl, rfl, rfl, rfl, rfl, rfl, slot_inc (by omega), trivial⟩, ⟨by omega, no (decide_eq_false fun e => q2 e.2), hrb4, x4⟩, by show r.on - (k + 1) < r.on - k; omega⟩
    have q2 : o.to = b := by simpa using q2
    have w0 : IntKind.i64.wrap (cnt (kSent a b) r.outs k + 1) = cnt (kSent a b) r.outs (k + 1) := by
      rw [wrap_i64 (by omega) (by omega), cnt_yes ho (decide_eq_true ⟨q, q2⟩)]
    refine ⟨_, cell_blk hwb4 rfl, rfl, rfl, canset_blk hwb4 rfl, fun h7 s7 => ?_⟩
    have hwb7 : h7[wb]? = some (.cells (encCn ⟨cnt (kOff a b) r.log r.ln, cnt (kFull a b) r.log r.ln, IntKind.i64.wrap (cnt (kSent a b) r.outs k + 1), 0, cnt (kDrain (drainer r.ports) a b) r.log r.ln, 0⟩).toArray 58 (0, 0)) := s7.put hwb4
    rw [w0] at hwb7
    exact ⟨k + 1, ⟨rfl, rfl, rfl, rfl, rfl, rfl, slot_inc (by omega), trivial⟩, ⟨by omega, hwb7, s7.blk hrb4 rne, x4.stored s7 wge⟩, by show r.on - (k + 1) < r.on - k; omega⟩
  have hge2 : ¬ (k : Int) < r.on := of_decide_eq_false hge2
  obtain rfl : k = r.on := by omega
  have hcb4 := CB _ x4
  have x04 := xg.trans x4
  refine ⟨_, cell_blk hcb4 rfl, _, cell_blk hwb4 rfl, ?_⟩
  refine xif_of (fun p1 => ?_) (fun p1 => ?_)
  · have p1 : ¬ c.off = (cntR r a b r.ln r.on).off := by simpa using p1
    have p1 : ¬ c.off = cnt (kOff a b) r.log r.ln := p1
    exact ⟨congrArg Value.bool (decide_eq_false fun k => p1 k.1.1).symm, x04⟩
  have p1 : c.off = (cntR r a b r.ln r.on).off := by simpa using p1
  have p1 : c.off = cnt (kOff a b) r.log r.ln := p1
  refine ⟨_, cell_blk hcb4 rfl, _, cell_blk hwb4 rfl, ?_⟩
  refine xif_of (fun p2 => ?_) (fun p2 => ?_)
  · have p2 : ¬ c.full = (cntR r a b r.ln r.on).full := by simpa using p2
    have p2 : ¬ c.full = cnt (kFull a b) r.log r.ln := p2
    exact ⟨congrArg Value.bool (decide_eq_false fun k => p2 k.1.2.1).symm, x04⟩
  have p2 : c.full = (cntR r a b r.ln r.on).full := by simpa using p2
  have p2 : c.full = cnt (kFull a b) r.log r.ln := p2
  refine ⟨_, cell_blk hcb4 rfl, _, cell_blk hwb4 rfl, ?_⟩
  refine xif_of (fun p3 => ?_) (fun p3 => ?_)
  · have p3 : ¬ c.drain = (cntR r a b r.ln r.on).drain := by simpa using p3
    have p3 : ¬ c.drain = cnt (kDrain (drainer r.ports) a b) r.log r.ln := p3
    exact ⟨congrArg Value.bool (decide_eq_false fun k => p3 k.1.2.2.2).symm, x04⟩
  have p3 : c.drain = (cntR r a b r.ln r.on).drain := by simpa using p3
  have p3 : c.drain = cnt (kDrain (drainer r.ports) a b) r.log r.ln := p3
  refine ⟨_, cell_blk hcb4 rfl, _, cell_blk hwb4 rfl, ?_⟩
  refine xif_of (fun p4 => ?_) (fun p4 => ?_)
  · have p4 : ¬ c.sent = (cntR r a b r.ln r.on).sent := by simpa using p4
    have p4 : ¬ c.sent = cnt (kSent a b) r.outs r.on := p4
    exact ⟨congrArg Value.bool (decide_eq_false fun k => p4 k.1.2.2.1).symm, x04⟩
  have p4 : c.sent = (cntR r a b r.ln r.on).sent := by simpa using p4
  have p4 : c.sent = cnt (kSent a b) r.outs r.on := p4
  refine ⟨_, cell_blk hcb4 rfl, ?_⟩
  refine xif_of (fun q2 => ?_) (fun q2 => ?_)
  · have q2 : c.late < 0 := of_decide_eq_true q2
    exact ⟨congrArg Value.bool (decide_eq_false (by rintro ⟨_, k, _⟩; omega)).symm, x04⟩
  have q2 : ¬ c.late < 0 := of_decide_eq_false q2
  refine ⟨_, cell_blk hcb4 rfl, ?_⟩
  refine xif_of (fun q3 => ?_) (fun q3 => ?_)
  · have q3 : c.wait < 0 := of_decide_eq_true q3
    exact ⟨congrArg Value.bool (decide_eq_false (by rintro ⟨_, k, _⟩; omega)).symm, x04⟩
  have q3 : ¬ c.wait < 0 := of_decide_eq_false q3
  refine ⟨_, cell_blk hcb4 rfl, _, cell_blk hcb4 rfl, ?_⟩
  refine xif_of (fun q4 => ?_) (fun q4 => ?_)
  · have q4 : c.late > c.off := of_decide_eq_true q4
    exact ⟨congrArg Value.bool (decide_eq_false (by rintro ⟨_, k, _⟩; omega)).symm, x04⟩
  have q4 : ¬ c.late > c.off := of_decide_eq_false q4
  refine ⟨_, cell_blk hcb4 rfl, _, cell_blk hcb4 rfl, ?_⟩
  refine xif_of (fun q5 => ?_) (fun q5 => ?_)
  · have q5 : c.wait > c.off := of_decide_eq_true q5
    exact ⟨congrArg Value.bool (decide_eq_false (by rintro ⟨_, k, _⟩; omega)).symm, x04⟩
  have q5 : ¬ c.wait > c.off := of_decide_eq_false q5
  refine ⟨_, cell_blk hcb4 rfl, _, cell_blk hcb4 rfl, _, cell_blk hcb4 rfl, _, cell_blk hcb4 rfl, _, cell_blk hcb4 rfl, _, cell_blk hcb4 rfl, ?_⟩
  refine xif_of (fun q6 => ?_) (fun q6 => ?_)
  rotate_left
  · have q6 : ¬ c.off ≥ s5 c := of_decide_eq_false q6
    exact ⟨congrArg Value.bool (decide_eq_false (by rintro ⟨_, _, k, _⟩; omega)).symm, x04⟩
  have q6 : c.off ≥ s5 c := of_decide_eq_true q6
  refine ⟨_, cell_blk hcb4 rfl, _, cell_blk hcb4 rfl, _, cell_blk hcb4 rfl, congrArg Value.bool ?_, x04⟩
  show decide (cnt (kGet a b) r.log r.ln ≥ Go.Proofs.YtcjoenkpibhmoaaGreatE.s3 c) = _
  unfold pairM
  rw [Bool.eq_iff_iff, decide_eq_true_iff, decide_eq_true_iff]
  exact ⟨fun k => ⟨⟨p1, p2, p4, p3⟩, by omega, q6, k⟩, fun k => k.2.2.2⟩
set_option maxHeartbeats 1000000 in
theorem rHistory23_spec {r : Rp} (R : RpOk h r) {A B : Option Addr} {na ca nb cb : Nat} {rules : List Ru} {vls : List Vl} {P tries ring normal short : Int} {s : Sz}
    (hra : Row encRu 2 h A (fixRules P rules)) (hrb0 : Row encVl 3 h B (fixVlans P vls)) (hna : (fixRules P rules).length = na) (hnb : (fixVlans P vls).length = nb) (wf : ∀ v ∈ vls, SetWf v.mem ∧ SetWf v.unt)
    (hp : r.plan = planV (fixPorts P) (.slice A na ca) (.slice B nb cb) (fixSz s) (fixTries tries) (fixRing ring) normal short) (wo : ∀ e ∈ r.log, e.op.Wf) :
    HCalls Tryz.prog 20 #[.agg (encRp r).toArray] h (fun v h' => ∃ w, v = .string (wordS w) ∧ HistW (fixPl P s tries ring normal short) (newM (fixPl P s tries ring normal short) (fixVlans P vls)) r.log w ∧ Ext h h') := by
  refine xcalls env_rHistory23 Tryz.func20 rfl (by kernel_rfl) rfl (by kernel_rfl) ?_
  intro rb h1 n1
  have hrb : h1[rb]? = some (.cells (encRp r).toArray 35 (0, 0)) := n1.this
  have rp : ∀ g : Heap, g[rb]? = some (.cells (encRp r).toArray 35 (0, 0)) → Reads g ⟨rb, 0, none⟩ (planV (fixPorts P) (.slice A na ca) (.slice B nb cb) (fixSz s) (fixTries tries) (fixRing ring) normal short) := fun g hg => by
    have : Reads g ⟨rb, 0, none⟩ r.plan := reads_at hg rfl
    rw [hp] at this; exact this
  have ll := R.logl
  have lc := R.logc
  have ls := R.logs
  obtain ⟨O, hO⟩ := ordJ_exists r.log r.log.length
  have hO' : IsOrd r.log r.ln O := by rw [← ll]; exact hO
  obtain ⟨L, hL⟩ := ordE_exists r.log
  obtain ⟨O', hO2⟩ := ordJ_exists (L.map Prod.fst) r.log.length
  have hO2' : IsOrd (L.map Prod.fst) r.ln O' := by rw [← ll]; exact hO2
  have mk2 : ∀ w, w = histW (fixPl P s tries ring normal short) (newM (fixPl P s tries ring normal short) (fixVlans P vls)) r.log O L O' → HistW (fixPl P s tries ring normal short) (newM (fixPl P s tries ring normal short) (fixVlans P vls)) r.log w := fun w hw => ⟨O, L, O', hO, hL, hO2, hw⟩
  refine ⟨_, rfl, rp _ hrb, _, cell_blk hrb rfl, ?_⟩
  refine (rCheck18_spec (n1.ext.row hra) (n1.ext.row hrb0) hna hnb wf (n1.ext.row R.log) ll (by omega) wo).mono ?_
  rintro v h2 ⟨i2, e2, rfl, k2, x2⟩
  have k2 := congrArg Prod.snd (k2 O hO')
  have x02 := n1.ext.trans x2
  have hrb2 := x2.blk hrb
  refine xif_of (fun q => ?_) (fun q => ?_)
  · have q : e2 = 4 := by simpa using q
    exact ⟨1, rfl, mk2 1 (by unfold histW; rw [if_pos (by rw [← k2]; exact q)]), x02⟩
  have q : ¬ e2 = 4 := by simpa using q
  have q1 : ¬ (checkH (fixPl P s tries ring normal short) r.log (newM (fixPl P s tries ring normal short) (fixVlans P vls)) O).2 = 4 := by rw [← k2]; exact q
  refine ⟨_, rfl, rp _ hrb2, _, cell_blk hrb2 rfl, ?_⟩
  refine (rOrdered_spec (x02.row R.log) ll (by omega)).mono ?_
  rintro v h3 ⟨A3, c3, L3, rfl, hL3, o3, x3⟩
  obtain rfl := hL3.one hL
  have x03 := x02.trans x3
  have hrb3 := x3.blk hrb2
  have lL : (L3.map Prod.fst).length = r.ln := by rw [List.length_map, hL3.len, ll]
  refine ⟨⟨rp _ hrb3, trivial⟩, ?_⟩
  refine (rCheck18_spec (x03.row hra) (x03.row hrb0) hna hnb wf (o3.row encHe_len) lL (by omega) (hL3.wf wo)).mono ?_
  rintro v h4 ⟨i4, e4, rfl, k4, x4⟩
  have k4 := congrArg Prod.snd (k4 O' hO2')
  have x04 := x03.trans x4
  have hrb4 := x4.blk hrb3
  refine xif_of (fun q2 => ?_) (fun q2 => ?_)
  · have q2 : e4 = 10 := by simpa using q2
    exact ⟨2, rfl, mk2 2 (by unfold histW; rw [if_neg q1, if_pos (by rw [← k4]; exact q2)]), x04⟩
  have q2 : ¬ e4 = 10 := by simpa using q2
  have q3 : ¬ (checkH (fixPl P s tries ring normal short) (L3.map Prod.fst) (newM (fixPl P s tries ring normal short) (fixVlans P vls)) O').2 = 10 := by rw [← k4]; exact q2
  refine ⟨_, rfl, rp _ hrb4, _, cell_blk hrb4 rfl, ?_⟩
  refine (rReplay18_spec (x04.row hra) (x04.row hrb0) hna hnb wf (x04.row R.log) ll (by omega) wo).mono ?_
  rintro v h5 ⟨m, D, G, O5, bm, rfl, hO5, _, _, _, x5⟩
  obtain rfl := hO5.one hO'
  have x05 := x04.trans x5
  refine xif_of (fun q4 => ?_) (fun q4 => ?_)
  · have q4 : (replayM (fixPl P s tries ring normal short) r.log (newM (fixPl P s tries ring normal short) (fixVlans P vls)) O5).2 ≥ 0 := of_decide_eq_true q4
    exact ⟨3, rfl, mk2 3 (by unfold histW; rw [if_neg q1, if_neg q3, if_pos q4]), x05⟩
  · have q4 : ¬ (replayM (fixPl P s tries ring normal short) r.log (newM (fixPl P s tries ring normal short) (fixVlans P vls)) O5).2 ≥ 0 := of_decide_eq_false q4
    exact ⟨0, rfl, mk2 0 (by unfold histW; rw [if_neg q1, if_neg q3, if_neg q4]), x05⟩
def encSt (x : ByteArray) : List Value := [.string x]
def waysL : List ByteArray := [wordS 5, wordS 6, wordS 7, wordS 8, wordS 9, wordS 10, wordS 11]
theorem ways_at {w : Nat} (hw : w < 7) : waysL[w]? = some (wordS (5 + w)) := by
  match w, hw with
  | 0, _ => rfl
  | 1, _ => rfl
  | 2, _ => rfl
  | 3, _ => rfl
  | 4, _ => rfl
  | 5, _ => rfl
  | 6, _ => rfl
set_option maxHeartbeats 2000000 in
theorem rJudge23_spec {r : Rp} (R : RpOk h r) {A B : Option Addr} {na ca nb cb : Nat} {rules : List Ru} {vls : List Vl} {P tries ring normal short : Int} {s : Sz}
    (hra : Row encRu 2 h A (fixRules P rules)) (hrb0 : Row encVl 3 h B (fixVlans P vls)) (hna : (fixRules P rules).length = na) (hnb : (fixVlans P vls).length = nb) (wf : ∀ v ∈ vls, SetWf v.mem ∧ SetWf v.unt)
    (hp : r.plan = planV (fixPorts P) (.slice A na ca) (.slice B nb cb) (fixSz s) (fixTries tries) (fixRing ring) normal short) (wo : ∀ e ∈ r.log, e.op.Wf) :
    HCalls Tryz.prog 9 #[.agg (encRp r).toArray] h (fun v h' => ∃ w, v = .string (wordS (judgeM r w)) ∧ HistW (fixPl P s tries ring normal short) (newM (fixPl P s tries ring normal short) (fixVlans P vls)) r.log w ∧ Ext h h') := by
  refine xcalls env_rJudge23 Tryz.func9 rfl (by kernel_rfl) rfl (by kernel_rfl) ?_
  intro rb h1 n1
  have hrb : h1[rb]? = some (.cells (encRp r).toArray 35 (0, 0)) := n1.this
  have rp : ∀ g : Heap, g[rb]? = some (.cells (encRp r).toArray 35 (0, 0)) → Reads g ⟨rb, 0, none⟩ (planV (fixPorts P) (.slice A na ca) (.slice B nb cb) (fixSz s) (fixTries tries) (fixRing ring) normal short) := fun g hg => by
    have : Reads g ⟨rb, 0, none⟩ r.plan := reads_at hg rfl
    rw [hp] at this; exact this
  have wfv : ∀ v ∈ fixVlans P vls, SetWf v.mem ∧ SetWf v.unt := fun v hv => fixVl_wf _ _ (fun v hv => wf v (List.mem_of_mem_take hv)) v hv
  have hpr := fixPorts_range P
  have hvl := fixVlans_len P vls
  have hrl : (fixRules P rules).length = (fixPorts P).toNat := by unfold fixRules; simp
  have os := R.outss
  have ol := R.outsl
  have ds := R.dons
  have dl := R.donl
  refine ⟨_, rfl, rp _ hrb, ?_⟩
  refine (r17Check_spec (n1.ext.row hra) hna (n1.ext.row hrb0) hnb (by omega) (by omega) wfv).mono ?_
  rintro v h2 ⟨hv, x2⟩
  rw [fix_check P rules vls s tries ring] at hv
  subst hv
  have x02 := n1.ext.trans x2
  have hrb2 := x2.blk hrb
  refine ⟨encRp r, rfl, reads_all hrb2, ?_⟩
  refine (rHistory23_spec (R.ext x02) (x02.row hra) (x02.row hrb0) hna hnb wf hp wo).mono ?_
  rintro v h3 ⟨hw, rfl, hist, x3⟩
  have x03 := x02.trans x3
  have hrb3 := x3.blk hrb2
  refine xif_of (fun q => ?_) (fun q => ?_)
  · have q : ¬ hw = 0 := by
      intro e
      have : (!((wordS hw).toList == ({ data := #[] } : ByteArray).toList)) = true := q
      rw [word_empty hist.le, decide_eq_true e] at this
      cases this
    exact ⟨hw, congrArg Value.string (by unfold judgeM; rw [if_pos q]), hist, x03⟩
  have q : hw = 0 := by
    refine Classical.byContradiction fun e => ?_
    have : (!((wordS hw).toList == ({ data := #[] } : ByteArray).toList)) = false := q
    rw [word_empty hist.le, decide_eq_false e] at this
    cases this
  have badD : doneM r.cn (idsD r) = false → (Value.string (wordS 4)) = .string (wordS (judgeM r hw)) := fun k => by
    have : judgeM r hw = 4 := by unfold judgeM; rw [if_neg (by omega), if_pos k]
    rw [this]
  refine ⟨Nat, fun i => [(1, .pointer (some ⟨rb, 0, none⟩)), (4, .int .i64 i)], fun i h' => (i ≤ r.dn ∧ doneM r.cn ((idsD r).take i) = true) ∧ h'[rb]? = some (.cells (encRp r).toArray 35 (0, 0)) ∧ Ext h h', fun i => r.dn - i, 0, ⟨rfl, rfl, trivial⟩, ⟨⟨Nat.zero_le _, rfl⟩, hrb3, x03⟩, ?_⟩
  rintro i h4 ⟨⟨hi, hd⟩, hrb4, x4⟩
  refine ⟨_, cell_blk hrb4 rfl, ?_⟩
  refine xif_of (fun hlt => ?_) (fun hge => ?_)
  · have hlt : (i : Int) < r.dn := of_decide_eq_true hlt
    obtain ⟨d, hdn⟩ : ∃ d, r.don[i]? = some d := ⟨r.don[i]'(by omega), List.getElem?_eq_getElem (by omega)⟩
    have hid : (idsD r)[i]? = some d.id := by unfold idsD; rw [List.getElem?_map, hdn]; rfl
    have bad : ¬ ((0 ≤ d.id ∧ d.id < (r.cn : Int)) ∧ d.id ∉ (idsD r).take i) → doneM r.cn (idsD r) = false := by
      intro k
      cases hk : doneM r.cn (idsD r) with
      | false => rfl
      | true =>
        have := done_take hk (i + 1)
        rw [← take_next hid, done_next] at this
        exact absurd this.2 k
    obtain ⟨da, hDA, drd⟩ := (x4.row R.don) i d hdn
    have q0 : cell h4 ((da.add ((i : Int).toNat * 7)).add 0) = some (.int .i64 d.id) := drd.get 0 rfl
    refine ⟨encRp r, rfl, reads_all hrb4, _, cell_blk hrb4 rfl, da, hDA, by omega, hlt, _, q0, ?_⟩
    refine (rCame23_spec r d.id).mono ?_
    rintro v h5 ⟨rfl, x5⟩
    have x05 := x4.trans x5
    have hrb5 := x5.blk hrb4
    refine xif_of (fun q2 => ?_) (fun q2 => ?_)
    · have q2 : cameM r d.id = false := by simpa using q2
      have : ¬ (0 ≤ d.id ∧ d.id < (r.cn : Int)) := of_decide_eq_false q2
      exact ⟨hw, badD (bad fun k => this k.1), hist, x05⟩
    have q2 : cameM r d.id = true := by simpa using q2
    have q2 : 0 ≤ d.id ∧ d.id < (r.cn : Int) := of_decide_eq_true q2
    refine ⟨Nat, fun k => [(1, .pointer (some ⟨rb, 0, none⟩)), (4, .int .i64 i), (5, .int .i64 k)], fun k h' => (k ≤ i ∧ ∀ j y, j < k → (idsD r)[j]? = some y → ¬ y = d.id) ∧ h' = h5, fun k => i - k, 0, ⟨rfl, rfl, rfl, trivial⟩, ⟨⟨Nat.zero_le _, fun j y hj => by omega⟩, rfl⟩, ?_⟩
    rintro k h6 ⟨⟨hk, hkn⟩, rfl⟩
    refine xif_of (fun hlt2 => ?_) (fun hge2 => ?_)
    · have hlt2 : (k : Int) < i := of_decide_eq_true hlt2
      obtain ⟨d2, hdn2⟩ : ∃ d, r.don[k]? = some d := ⟨r.don[k]'(by omega), List.getElem?_eq_getElem (by omega)⟩
      have hid2 : (idsD r)[k]? = some d2.id := by unfold idsD; rw [List.getElem?_map, hdn2]; rfl
      obtain ⟨da, hDA, drd⟩ := (x05.row R.don) i d hdn
      obtain ⟨db, hDB, drd2⟩ := (x05.row R.don) k d2 hdn2
      have q0 : cell h6 ((da.add ((i : Int).toNat * 7)).add 0) = some (.int .i64 d.id) := drd.get 0 rfl
      have q1 : cell h6 ((db.add ((k : Int).toNat * 7)).add 0) = some (.int .i64 d2.id) := drd2.get 0 rfl
      refine ⟨_, cell_blk hrb5 rfl, db, hDB, by omega, by omega, _, q1, _, cell_blk hrb5 rfl, da, hDA, by omega, hlt, _, q0, ?_⟩
      refine xif_of (fun q3 => ?_) (fun q3 => ?_)
      · have q3 : d2.id = d.id := by simpa using q3
        refine ⟨hw, badD (bad fun w => w.2 ?_), hist, x05⟩
        rw [← q3]
        exact List.mem_of_getElem? (i := k) (by rw [List.getElem?_take, if_pos (by omega), hid2])
      · have q3 : ¬ d2.id = d.id := by simpa using q3
        refine ⟨k + 1, ⟨rfl, rfl, slot_inc (by omega), trivial⟩, ⟨⟨by omega, fun j y hj hy => ?_⟩, rfl⟩, by show i - (k + 1) < i - k; omega⟩
        by_cases e : j = k
        · subst e; rw [hid2] at hy; cases hy; exact q3
        · exact hkn j y (by omega) hy
    have hge2 : ¬ (k : Int) < i := of_decide_eq_false hge2
    refine ⟨i + 1, ⟨rfl, slot_inc (by omega), trivial⟩, ⟨⟨by omega, ?_⟩, hrb5, x05⟩, by show r.dn - (i + 1) < r.dn - i; omega⟩
    rw [← take_next hid]
    refine done_next.2 ⟨hd, q2, fun hm => ?_⟩
    obtain ⟨j, hj⟩ := List.getElem?_of_mem hm
    rw [List.getElem?_take] at hj
    split at hj
    · exact hkn j _ (by omega) hj rfl
    · cases hj
  have hge : ¬ (i : Int) < r.dn := of_decide_eq_false hge
  have q2 : doneM r.cn (idsD r) = true := by
    rwa [List.take_of_length_le (by unfold idsD; rw [List.length_map]; omega)] at hd
  have j1 : judgeM r hw = match rulesW r with
    | some w => 5 + w
    | none => if allCM r = true then 0 else 12 := by
    unfold judgeM
    rw [if_neg (by omega), if_neg (by rw [q2]; decide)]
    cases rulesW r <;> rfl
  intro ub h5 n5
  have hub : h5[ub]? = some (.cells (waysL.flatMap encSt ++ []).toArray 9 (0, 0)) := n5.this
  have hrb5 := n5.ext.blk hrb4
  have x5 := x4.trans n5.ext
  refine ⟨Nat, fun w => [(1, .pointer (some ⟨rb, 0, none⟩)), (6, .slice (some ⟨ub, 0, none⟩) 7 7), (7, .int .i64 w)],
    fun w h' => (w ≤ 7 ∧ ∀ w', w' < w → ∀ i, i < r.on → wrongM r w' i = false) ∧ h'[rb]? = some (.cells (encRp r).toArray 35 (0, 0)) ∧ h'[ub]? = some (.cells (waysL.flatMap encSt ++ []).toArray 9 (0, 0)) ∧ Ext h h', fun w => 7 - w, 0, ⟨rfl, rfl, rfl, trivial⟩, ⟨⟨Nat.zero_le _, fun w' hw' => by omega⟩, hrb5, hub, x5⟩, ?_⟩
  rintro w h6 ⟨⟨hw7, hal⟩, hrb6, hub6, x6⟩
  refine xif_of (fun hlt => ?_) (fun hge => ?_)
  · have hlt : (w : Int) < 7 := of_decide_eq_true hlt
    refine ⟨Nat, fun i => [(1, .pointer (some ⟨rb, 0, none⟩)), (6, .slice (some ⟨ub, 0, none⟩) 7 7), (7, .int .i64 w), (8, .int .i64 i)],
      fun i h' => (i ≤ r.on ∧ ∀ j, j < i → wrongM r w j = false) ∧ h'[rb]? = some (.cells (encRp r).toArray 35 (0, 0)) ∧ h'[ub]? = some (.cells (waysL.flatMap encSt ++ []).toArray 9 (0, 0)) ∧ Ext h h', fun i => r.on - i, 0, ⟨rfl, rfl, rfl, rfl, trivial⟩, ⟨⟨Nat.zero_le _, fun j hj => by omega⟩, hrb6, hub6, x6⟩, ?_⟩
    rintro i h9 ⟨⟨hi, hil⟩, hrb9, hub9, x9⟩
    refine ⟨_, cell_blk hrb9 rfl, ?_⟩
    refine xif_of (fun hlt2 => ?_) (fun hge2 => ?_)
    rotate_left
    · have hge2 : ¬ (i : Int) < r.on := of_decide_eq_false hge2
      refine ⟨w + 1, ⟨rfl, rfl, slot_inc (by omega), trivial⟩, ⟨⟨by omega, fun w' hw' j hj => ?_⟩, hrb9, hub9, x9⟩, by show 7 - (w + 1) < 7 - w; omega⟩
      by_cases e : w' = w
      · subst e; exact hil j (by omega)
      · exact hal w' (by omega) j hj
    have hlt2 : (i : Int) < r.on := of_decide_eq_true hlt2
    obtain ⟨ua, hUA, urd⟩ := (row_blk (enc := encSt) (sz := 1) hub9 fun _ _ => rfl) w _ (ways_at (w := w) (by omega))
    have q0 : cell h9 (ua.add ((w : Int).toNat * 1)) = some (.string (wordS (5 + w))) := by
      have := urd.get 0 (v := .string (wordS (5 + w))) rfl
      rwa [add_zero'] at this
    refine ⟨encRp r, rfl, reads_all hrb9, ua, hUA, by omega, hlt, _, q0, ?_⟩
    refine (rOut23_spec (R.ext x9) (w := w) (i := i) (by omega) (by omega) (fun e => hal 0 (by omega) i (by omega))).mono ?_
    rintro v h10 ⟨rfl, x10⟩
    refine xif_of (fun q3 => ?_) (fun q3 => ?_)
    · have q3 : wrongM r w i = true := q3
      have hs : rulesW r = some w := by
        unfold rulesW
        refine List.find?_range_eq_some.2 ⟨?_, by rw [List.mem_range]; omega, fun j hj => ?_⟩
        · rw [List.any_eq_true]
          exact ⟨i, by rw [List.mem_range]; omega, q3⟩
        · rw [Bool.not_eq_true', List.any_eq_false]
          intro k hk
          rw [List.mem_range] at hk
          rw [hal j hj k hk]; decide
      rw [hs] at j1
      have q1 : cell h10 (ua.add ((w : Int).toNat * 1)) = some (.string (wordS (5 + w))) := x10.cell q0
      refine ⟨ua, hUA, by omega, hlt, _, q1, hw, congrArg Value.string ?_, hist, x9.trans x10⟩
      rw [j1]
    · have q3 : wrongM r w i = false := q3
      refine ⟨i + 1, ⟨rfl, rfl, rfl, slot_inc (by omega), trivial⟩, ⟨⟨by omega, fun j hj => ?_⟩, x10.blk hrb9, x10.blk hub9, x9.trans x10⟩, by show r.on - (i + 1) < r.on - i; omega⟩
      by_cases e : j = i
      · subst e; exact q3
      · exact hil j (by omega)
  have hge : ¬ (w : Int) < 7 := of_decide_eq_false hge
  have hnone : rulesW r = none := by
    unfold rulesW
    rw [List.find?_eq_none]
    intro j hj
    rw [List.mem_range] at hj
    rw [List.any_eq_true]
    rintro ⟨i, hi, k⟩
    rw [List.mem_range] at hi
    rw [hal j (by omega) i hi] at k
    cases k
  rw [hnone] at j1
  have bad : allCM r = false → (Value.string (wordS 12)) = .string (wordS (judgeM r hw)) := fun k => by
    have : judgeM r hw = 12 := j1.trans (by show (if allCM r = true then 0 else 12) = 12; rw [k]; rfl)
    rw [this]
  have kl := R.cntsl
  have ks := R.cntss
  refine ⟨_, cell_blk hrb6 rfl, _, cell_blk hrb6 rfl, ?_⟩
  refine xif_of (fun q3 => ?_) (fun q3 => ?_)
  · have q3 : ¬ (r.kn : Int) = r.ports := by simpa using q3
    refine ⟨hw, bad ?_, hist, x6⟩
    unfold allCM squareM
    rw [decide_eq_false q3]; rfl
  have kp : (r.kn : Int) = r.ports := by simpa using q3
  have badS : ∀ row ∈ r.cnts, ¬ (row.n : Int) = r.ports → allCM r = false := fun row hm k => by
    have : squareM r = false := by
      unfold squareM
      rw [decide_eq_true kp, Bool.true_and, Bool.not_eq_false', List.any_eq_true]
      exact ⟨row, hm, by rw [decide_eq_false k]; rfl⟩
    unfold allCM
    rw [this]; rfl
  refine ⟨Nat, fun i => [(1, .pointer (some ⟨rb, 0, none⟩)), (9, .int .i64 i)], fun i h' => (i ≤ r.kn ∧ ∀ j row, j < i → r.cnts[j]? = some row → (row.n : Int) = r.ports) ∧ h' = h6, fun i => r.kn - i, 0, ⟨rfl, rfl, trivial⟩, ⟨⟨Nat.zero_le _, fun j row hj => by omega⟩, rfl⟩, ?_⟩
  rintro i h7 ⟨⟨hi, hrow⟩, rfl⟩
  refine ⟨_, cell_blk hrb6 rfl, ?_⟩
  refine xif_of (fun hlt => ?_) (fun hge3 => ?_)
  · have hlt : (i : Int) < r.ports := of_decide_eq_true hlt
    obtain ⟨row, hr⟩ : ∃ row, r.cnts[i]? = some row := ⟨r.cnts[i]'(by omega), List.getElem?_eq_getElem (by omega)⟩
    obtain ⟨ka, hKA, krd⟩ := (x6.row R.cnts) i row hr
    have k0 : cell h7 (ka.add ((i : Int).toNat * 1)) = some (.slice row.A row.n row.c) := by
      have := krd.get 0 (v := .slice row.A row.n row.c) rfl
      rwa [add_zero'] at this
    refine ⟨_, cell_blk hrb6 rfl, ka, hKA, by omega, by omega, _, k0, _, cell_blk hrb6 rfl, ?_⟩
    refine xif_of (fun q4 => ?_) (fun q4 => ?_)
    · have q4 : ¬ (row.n : Int) = r.ports := by simpa using q4
      exact ⟨hw, bad (badS row (List.mem_of_getElem? hr) q4), hist, x6⟩
    · have q4 : (row.n : Int) = r.ports := by simpa using q4
      refine ⟨i + 1, ⟨rfl, slot_inc (by omega), trivial⟩, ⟨⟨by omega, fun j y hj hy => ?_⟩, rfl⟩, by show r.kn - (i + 1) < r.kn - i; omega⟩
      by_cases e : j = i
      · subst e; rw [hr] at hy; cases hy; exact q4
      · exact hrow j y (by omega) hy
  have hge3 : ¬ (i : Int) < r.ports := of_decide_eq_false hge3
  have sq : squareM r = true := by
    unfold squareM
    rw [decide_eq_true kp, Bool.true_and, Bool.not_eq_true', List.any_eq_false]
    intro row hm
    obtain ⟨j, hj⟩ := List.getElem?_of_mem hm
    have := (List.getElem?_eq_some_iff.1 hj).1
    rw [decide_eq_true (hrow j row (by omega) hj)]; decide
  have badP : ∀ a b, a < r.ports.toNat → b < r.ports.toNat → pairAt r a b = false → allCM r = false := by
    intro a b ha hb k
    unfold allCM
    rw [sq, Bool.true_and]
    exact decide_eq_false fun w => by rw [w a ha b hb] at k; cases k
  refine ⟨Nat, fun i => [(1, .pointer (some ⟨rb, 0, none⟩)), (10, .int .i64 i)], fun i h' => (i ≤ r.ports.toNat ∧ ∀ a, a < i → ∀ b, b < r.ports.toNat → pairAt r a b = true) ∧ h'[rb]? = some (.cells (encRp r).toArray 35 (0, 0)) ∧ Ext h h', fun i => r.ports.toNat - i, 0, ⟨rfl, rfl, trivial⟩, ⟨⟨Nat.zero_le _, fun a ha => by omega⟩, hrb6, x6⟩, ?_⟩
  rintro i2 h8 ⟨⟨hi2, hal2⟩, hrb8, x8⟩
  refine ⟨_, cell_blk hrb8 rfl, ?_⟩
  refine xif_of (fun hlt => ?_) (fun hge4 => ?_)
  rotate_left
  · have hge4 : ¬ (i2 : Int) < r.ports := of_decide_eq_false hge4
    have ok : allCM r = true := by
      unfold allCM
      rw [sq, Bool.true_and]
      exact decide_eq_true fun a ha => hal2 a (by omega)
    have j2 : judgeM r hw = 0 := j1.trans (by show (if allCM r = true then 0 else 12) = 0; rw [ok]; rfl)
    exact ⟨hw, by rw [j2]; rfl, hist, x8⟩
  have hlt : (i2 : Int) < r.ports := of_decide_eq_true hlt
  refine ⟨Nat, fun k => [(1, .pointer (some ⟨rb, 0, none⟩)), (10, .int .i64 i2), (11, .int .i64 k)], fun k h' => (k ≤ r.ports.toNat ∧ ∀ b, b < k → pairAt r i2 b = true) ∧ h'[rb]? = some (.cells (encRp r).toArray 35 (0, 0)) ∧ Ext h h', fun k => r.ports.toNat - k, 0, ⟨rfl, rfl, rfl, trivial⟩, ⟨⟨Nat.zero_le _, fun b hb => by omega⟩, hrb8, x8⟩, ?_⟩
  rintro k h9 ⟨⟨hk, hbl⟩, hrb9, x9⟩
  refine ⟨_, cell_blk hrb9 rfl, ?_⟩
  refine xif_of (fun hlt2 => ?_) (fun hge5 => ?_)
  rotate_left
  · have hge5 : ¬ (k : Int) < r.ports := of_decide_eq_false hge5
    refine ⟨i2 + 1, ⟨rfl, slot_inc (by omega), trivial⟩, ⟨⟨by omega, fun a ha b hb => ?_⟩, hrb9, x9⟩, by show r.ports.toNat - (i2 + 1) < r.ports.toNat - i2; omega⟩
    by_cases e : a = i2
    · subst e; exact hbl b (by omega)
    · exact hal2 a (by omega) b hb
  have hlt2 : (k : Int) < r.ports := of_decide_eq_true hlt2
  obtain ⟨row, c, hrow2, hc, hp2⟩ := square_row R sq (a := i2) (b := k) (by omega) (by omega)
  refine ⟨encRp r, rfl, reads_all hrb9, ?_⟩
  refine (rCounts23_spec (R.ext x9) hrow2 hc).mono ?_
  rintro v h10 ⟨rfl, x10⟩
  refine xif_of (fun q3 => ?_) (fun q3 => ?_)
  · have q3 : pairM r c i2 k = false := by simpa using q3
    exact ⟨hw, bad (badP i2 k (by omega) (by omega) (hp2.trans q3)), hist, x9.trans x10⟩
  · have q3 : pairM r c i2 k = true := by simpa using q3
    refine ⟨k + 1, ⟨rfl, rfl, slot_inc (by omega), trivial⟩, ⟨⟨by omega, fun b hb => ?_⟩, x10.blk hrb9, x9.trans x10⟩, by show r.ports.toNat - (k + 1) < r.ports.toNat - k; omega⟩
    by_cases e : b = k
    · subst e; exact hp2.trans q3
    · exact hbl b (by omega)
end
end Go.Proofs.YtcjoenkpibhmoaaGreatE
