/- What may be wrong with a report, by the program: the rules of frames that went out. Conditions: the report is one. -/
import Derived.Test.YtcjoenkpibhmoaaGreatXJ2
set_option linter.unusedVariables false
set_option linter.unusedSimpArgs false
set_option maxRecDepth 100000
namespace Go.Proofs.YtcjoenkpibhmoaaGreatE
open Go Go.Proofs
def env_aStranger : Nat → Ann
  | 2 => ⟨.op 0 [] <| .op 1 [] <| .op 2 [] <| .op 3 [] <| .op 4 [] <| .op 5 [] <| .op 6 [] <| .op 7 [] <| .op 8 [] <| .op 9 [] <| .op 10 [] <| .op 11 [] <| .op 12 [] <| .op 13 [] <| .op 14 [] <| .op 15 [] <| .op 16 [] <| .op 17 [] <| .op 18 [] <| .op 19 [] <| .op 20 [] <| .op 21 [] <| .op 22 [] <| .op 23 [] <| .op 24 [] <| .op 25 [] <| .op 26 [] <| .op 27 [] <| .op 28 [] <| .op 29 [] <| .op 30 [] <| .nil, [0, 0, 2, 7, 15, 31, 63, 127, 63, 319, 1023, 2047, 4095, 63, 8255, 32767, 65535, 131071, 262143, 524287, 1048575, 2097151, 4194303, 8388607, 16777215, 8388607, 41943039, 109051903, 268435455, 536870911, 1073741823], false⟩
  | _ => ⟨.nil, [], false⟩
def env_aRu1 : Nat → Ann
  | 1 => ⟨.op 0 [] <| .op 1 [] <| .op 2 [] <| .op 3 [] <| .op 4 [] <| .op 5 [] <| .op 6 [] <| .op 7 [] <| .op 8 [] <| .op 9 [] <| .op 10 [] <| .op 11 [] <| .op 12 [] <| .op 13 [] <| .nil, [0, 1, 0, 7, 15, 31, 0, 64, 0, 448, 960, 1984, 4095, 8191], false⟩
  | _ => ⟨.nil, [], false⟩
def env_aRu2 : Nat → Ann
  | 1 => ⟨.op 0 [] <| .op 1 [] <| .op 2 [] <| .op 3 [] <| .op 4 [] <| .op 5 [] <| .op 6 [] <| .op 7 [] <| .op 8 [] <| .nil, [0, 0, 2, 0, 14, 30, 62, 127, 255], false⟩
  | _ => ⟨.nil, [], false⟩
def env_aRu3 : Nat → Ann
  | 1 => ⟨.op 0 [] <| .op 1 [] <| .op 2 [] <| .op 3 [] <| .op 4 [] <| .op 5 [] <| .op 6 [] <| .op 7 [] <| .op 8 [] <| .nil, [0, 0, 2, 0, 14, 30, 62, 127, 255], false⟩
  | 2 => ⟨.op 0 [] <| .op 1 [] <| .op 2 [] <| .op 3 [] <| .op 4 [] <| .op 5 [] <| .op 6 [] <| .op 7 [] <| .op 8 [] <| .op 9 [] <| .op 10 [] <| .op 11 [] <| .op 12 [] <| .op 13 [] <| .op 14 [] <| .op 15 [] <| .op 16 [] <| .op 17 [] <| .op 18 [] <| .op 19 [] <| .op 20 [] <| .op 21 [] <| .op 22 [] <| .nil, [0, 1, 3, 7, 15, 31, 63, 127, 255, 511, 1023, 2047, 4095, 8191, 1023, 17407, 1023, 115711, 246783, 508927, 1048575, 2097151, 4194303], false⟩
  | _ => ⟨.nil, [], false⟩
def env_aRu41 : Nat → Ann
  | 1 => ⟨.op 0 [] <| .op 1 [] <| .op 2 [] <| .op 3 [] <| .op 4 [] <| .op 5 [] <| .op 6 [] <| .op 7 [] <| .op 8 [] <| .op 9 [] <| .op 10 [] <| .op 11 [] <| .op 12 [] <| .op 13 [] <| .op 14 [] <| .op 15 [] <| .op 16 [] <| .op 17 [] <| .op 18 [] <| .op 19 [] <| .op 20 [] <| .nil, [0, 1, 0, 4, 0, 28, 60, 124, 255, 511, 1023, 2047, 1023, 5119, 1023, 29695, 62463, 127999, 262143, 524287, 1048575], false⟩
  | _ => ⟨.nil, [], false⟩
def env_aBytes : Nat → Ann
  | 8 => ⟨.op 0 [] <| .op 1 [] <| .op 2 [] <| .op 3 [] <| .op 4 [] <| .op 5 [] <| .op 6 [] <| .op 7 [] <| .op 8 [] <| .op 9 [] <| .op 10 [] <| .op 11 [] <| .op 12 [] <| .op 13 [] <| .op 14 [] <| .op 15 [] <| .op 16 [] <| .op 17 [] <| .op 18 [] <| .op 19 [] <| .op 20 [] <| .op 21 [] <| .nil, [0, 1, 0, 4, 15, 31, 63, 0, 128, 0, 512, 0, 3584, 7680, 15872, 32256, 65535, 131071, 262143, 262143, 524287, 2097151], true⟩
  | _ => ⟨.nil, [], false⟩
def findD (l : List Dn) (id : Int) : Option Dn := l.find? fun d => decide (d.id = id)
def cameM (r : Rp) (id : Int) : Bool := decide (0 ≤ id ∧ id < (r.cn : Int))
def cameAt (r : Rp) (id : Int) : Option Cm := if 0 ≤ id then r.came[id.toNat]? else none
def strangerM (r : Rp) (o : Ot) : Bool := match cameAt r o.id with
  | none => true
  | some c => decide (c.port ≠ o.frm ∨ o.to < 0 ∨ r.ports ≤ o.to)
def refusedM (r : Rp) (o : Ot) : Bool := match findD r.don o.id with
  | none => false
  | some d => decide (d.why ≠ 0)
def foundM (r : Rp) (o : Ot) : Bool := match findD r.don o.id with
  | none => false
  | some d => decide (0 ≤ d.found ∧ d.found ≠ o.to)
def twiceM (o x : Ot) : Bool := decide (x.id = o.id ∧ x.to = o.to)
def orderQ (o x : Ot) : Bool := decide (x.frm = o.frm ∧ x.to = o.to ∧ x.id > o.id)
def sendQ (o : Ot) (e : He) : Bool := decide (e.op.kind = 12 ∧ e.op.to = o.to ∧ e.mark = o.mark)
def bytesM (r : Rp) (o : Ot) : Bool := match r.log.find? (sendQ o) with
  | none => true
  | some e => if e.ans ≠ 2 ∧ e.ans ≠ 3 then true else match cameAt r o.id with
    | none => true
    | some c => decide (outE c.bs (decide (e.ans = 3)) e.op.vid ≠ 0 ∨ outB c.bs (decide (e.ans = 3)) e.op.vid ≠ o.bs)
section
variable {h : Heap}
theorem aCame_spec (r : Rp) (id : Int) : HCalls Tryz.prog 39 #[.agg (encRp r).toArray, .int .i64 id] h (fun v h' => v = .bool (cameM r id) ∧ Ext h h') := by
  refine xcalls env0 Tryz.func39 rfl (by kernel_rfl) rfl (by kernel_rfl) ?_
  intro b h1 n1
  have hb : h1[b]? = some (.cells (encRp r).toArray 50 (0, 0)) := n1.this
  unfold cameM
  refine xif_of (fun q => ?_) (fun q => ?_)
  · have q : id ≥ 0 := of_decide_eq_true q
    refine ⟨_, cell_blk hb rfl, congrArg Value.bool ?_, n1.ext⟩
    rw [Bool.eq_iff_iff, decide_eq_true_iff, decide_eq_true_iff]; omega
  · have q : ¬ id ≥ 0 := of_decide_eq_false q
    exact ⟨by rw [decide_eq_false (by omega)]; rfl, n1.ext⟩
theorem aOf1_spec (d : Dn) {id : Int} {ib : Nat} {T : TypeId} (hi : h[ib]? = some (.cells [.int .i64 id].toArray T (0, 0))) : HCalls Tryz.prog 82 #[.agg (encDn d).toArray, .pointer (some ⟨ib, 0, none⟩)] h (fun v h' => v = .bool (decide (d.id = id)) ∧ Ext h h') := by
  refine xcalls env0 Tryz.func82 rfl (by kernel_rfl) rfl (by kernel_rfl) ?_
  intro b h1 n1
  have hb : h1[b]? = some (.cells (encDn d).toArray 74 (0, 0)) := n1.this
  refine ⟨_, cell_blk hb rfl, _, cell_blk (n1.ext.blk hi) rfl, congrArg Value.bool ?_, n1.ext⟩
  rw [Bool.eq_iff_iff, decide_eq_true_iff, beq_iff_eq]
theorem aOf_spec {r : Rp} (R : RpOk h r) (id : Int) : HCalls Tryz.prog 43 #[.agg (encRp r).toArray, .int .i64 id] h
    (fun v h' => ((v = .pointer none ∧ findD r.don id = none) ∨ ∃ a d, v = .pointer (some a) ∧ findD r.don id = some d ∧ Reads h' a (encDn d)) ∧ Ext h h') := by
  refine xcalls env0 Tryz.func43 rfl (by kernel_rfl) rfl (by kernel_rfl) ?_
  intro b h1 n1 ib h2 n2
  have hb : h2[b]? = some (.cells (encRp r).toArray 50 (0, 0)) := n2.ext.blk n1.this
  have hi : h2[ib]? = some (.cells [.int .i64 id].toArray 3 (0, 0)) := n2.this
  have x2 := n1.ext.trans n2.ext
  refine ⟨_, cell_blk hb rfl, ?_⟩
  refine (dnIndexC_spec (P := fun d => decide (d.id = id)) (cap := [.pointer (some ⟨ib, 0, none⟩)]) (x2.row R.don) R.donl (by have := R.dons; omega) (fun h' e x _ => aOf1_spec e (x.blk hi))).mono ?_
  rintro v h3 ⟨rfl, x3⟩
  have hb3 := x3.blk hb
  rcases idxQ_find (P := fun d : Dn => decide (d.id = id)) (l := r.don) (i := 0) with ⟨e1, e2⟩ | ⟨k, d, e1, e2, e3⟩
  · rw [e1]
    exact ⟨.inl ⟨rfl, e2⟩, x2.trans x3⟩
  · rw [e1, Nat.zero_add]
    obtain ⟨a, hA, hrd⟩ := ((x2.trans x3).row R.don) k d e2
    have hkl := (List.getElem?_eq_some_iff.1 e2).1
    have := R.donl
    exact ⟨_, cell_blk hb3 rfl, a, hA, by omega, by omega, .inr ⟨_, d, rfl, e3, hrd⟩, x2.trans x3⟩
theorem out_at {r : Rp} (R : RpOk h r) {i : Nat} {o : Ot} (ho : r.outs[i]? = some o) : ∃ a, r.OA = some a ∧ (0 : Int) ≤ i ∧ (i : Int) < r.on ∧ (encOt o).length = 5 ∧ Reads h (a.add (i * 5)) (encOt o) := by
  obtain ⟨a, hA, hrd⟩ := R.outs i o ho
  have := (List.getElem?_eq_some_iff.1 ho).1
  have := R.outsl
  exact ⟨a, hA, by omega, by omega, rfl, hrd⟩
theorem came_at {r : Rp} (R : RpOk h r) {id : Int} {c : Cm} (hc : cameAt r id = some c) : ∃ a, r.CA = some a ∧ 0 ≤ id ∧ id < r.cn ∧ Reads h (a.add (id.toNat * 3)) (encCm c) := by
  unfold cameAt at hc
  split at hc
  · rename_i q
    obtain ⟨a, hA, hrd⟩ := R.came id.toNat c hc
    have := (List.getElem?_eq_some_iff.1 hc).1
    have := R.camel
    exact ⟨a, hA, q, by omega, hrd⟩
  · cases hc
theorem came_iff {r : Rp} (R : RpOk h r) (id : Int) : (cameM r id = false ∧ cameAt r id = none) ∨ (cameM r id = true ∧ ∃ c, cameAt r id = some c) := by
  have := R.camel
  unfold cameM cameAt
  by_cases q : 0 ≤ id
  · rw [if_pos q]
    by_cases q2 : id < (r.cn : Int)
    · exact .inr ⟨decide_eq_true ⟨q, q2⟩, r.came[id.toNat]'(by omega), List.getElem?_eq_getElem (by omega)⟩
    · exact .inl ⟨decide_eq_false (by omega), List.getElem?_eq_none (by omega)⟩
  · rw [if_neg q]
    exact .inl ⟨decide_eq_false (by omega), rfl⟩
theorem aRu1_spec {r : Rp} (R : RpOk h r) {i : Nat} {o : Ot} (ho : r.outs[i]? = some o) : HCalls Tryz.prog 41 #[.agg (encRp r).toArray, .int .i64 i] h (fun v h' => v = .bool (decide (o.frm = o.to)) ∧ Ext h h') := by
  refine xcalls env_aRu1 Tryz.func41 rfl (by kernel_rfl) rfl (by kernel_rfl) ?_
  intro b h1 n1
  have hb : h1[b]? = some (.cells (encRp r).toArray 50 (0, 0)) := n1.this
  obtain ⟨a, hA, i0, i1, _, hrd⟩ := out_at (R.ext n1.ext) ho
  refine ⟨_, cell_blk hb rfl, a, hA, i0, i1, _, hrd.get 1 rfl, _, cell_blk hb rfl, a, hA, i0, i1, _, hrd.get 2 rfl, congrArg Value.bool ?_, n1.ext⟩
  rw [Bool.eq_iff_iff, decide_eq_true_iff, beq_iff_eq]
theorem aRu2_spec {r : Rp} (R : RpOk h r) {i : Nat} {o : Ot} (ho : r.outs[i]? = some o) : HCalls Tryz.prog 42 #[.agg (encRp r).toArray, .int .i64 i] h (fun v h' => v = .bool (refusedM r o) ∧ Ext h h') := by
  refine xcalls env_aRu2 Tryz.func42 rfl (by kernel_rfl) rfl (by kernel_rfl) ?_
  intro b h1 n1
  have hb : h1[b]? = some (.cells (encRp r).toArray 50 (0, 0)) := n1.this
  obtain ⟨a, hA, i0, i1, _, hrd⟩ := out_at (R.ext n1.ext) ho
  refine ⟨encRp r, rfl, reads_all hb, _, cell_blk hb rfl, a, hA, i0, i1, _, hrd.get 0 rfl, ?_⟩
  refine (aOf_spec (R.ext n1.ext) o.id).mono ?_
  unfold refusedM
  rintro v h2 ⟨⟨rfl, e⟩ | ⟨p, d, rfl, e, rd⟩, x2⟩
  · exact ⟨by rw [e]; rfl, n1.ext.trans x2⟩
  · refine ⟨_, rd.get 1 rfl, ?_, n1.ext.trans x2⟩
    rw [e]
    refine congrArg Value.bool ?_
    rw [Bool.eq_iff_iff]
    simp [bne]
theorem aRu3_spec {r : Rp} (R : RpOk h r) {i : Nat} {o : Ot} (ho : r.outs[i]? = some o) : HCalls Tryz.prog 44 #[.agg (encRp r).toArray, .int .i64 i] h (fun v h' => v = .bool (foundM r o) ∧ Ext h h') := by
  refine xcalls env_aRu3 Tryz.func44 rfl (by kernel_rfl) rfl (by kernel_rfl) ?_
  intro b h1 n1
  have hb : h1[b]? = some (.cells (encRp r).toArray 50 (0, 0)) := n1.this
  obtain ⟨a, hA, i0, i1, _, hrd⟩ := out_at (R.ext n1.ext) ho
  refine ⟨encRp r, rfl, reads_all hb, _, cell_blk hb rfl, a, hA, i0, i1, _, hrd.get 0 rfl, ?_⟩
  refine (aOf_spec (R.ext n1.ext) o.id).mono ?_
  rintro v h2 ⟨⟨rfl, e⟩ | ⟨p, d, rfl, e, rd⟩, x2⟩
  · exact ⟨by unfold foundM; rw [e]; rfl, n1.ext.trans x2⟩
  · have e3 : foundM r o = decide (0 ≤ d.found ∧ d.found ≠ o.to) := by unfold foundM; rw [e]
    refine ⟨_, rd.get 4 rfl, ?_⟩
    refine xif_of (fun q => ?_) (fun q => ?_)
    · have q : d.found ≥ 0 := of_decide_eq_true q
      have hb2 := x2.blk hb
      obtain ⟨a, hA, i0, i1, _, hrd⟩ := out_at (R.ext (n1.ext.trans x2)) ho
      refine ⟨_, rd.get 4 rfl, _, cell_blk hb2 rfl, a, hA, i0, i1, _, hrd.get 2 rfl, congrArg Value.bool (Eq.trans ?_ e3.symm), n1.ext.trans x2⟩
      rw [Bool.eq_iff_iff]
      simp [bne]; omega
    · have q : ¬ d.found ≥ 0 := of_decide_eq_false q
      exact ⟨congrArg Value.bool (e3.trans (decide_eq_false (by omega))).symm, n1.ext.trans x2⟩
theorem aStranger_spec {r : Rp} (R : RpOk h r) {i : Nat} {o : Ot} (ho : r.outs[i]? = some o) : HCalls Tryz.prog 40 #[.agg (encRp r).toArray, .int .i64 i] h (fun v h' => v = .bool (strangerM r o) ∧ Ext h h') := by
  refine xcalls env_aStranger Tryz.func40 rfl (by kernel_rfl) rfl (by kernel_rfl) ?_
  intro b h1 n1
  have hb : h1[b]? = some (.cells (encRp r).toArray 50 (0, 0)) := n1.this
  obtain ⟨a, hA, i0, i1, hl5, hrd⟩ := out_at (R.ext n1.ext) ho
  refine ⟨_, cell_blk hb rfl, a, hA, i0, i1, _, hl5, hrd, ?_⟩
  intro ob h2 n2
  refine ⟨rfl, rfl, canset_blk n2.this rfl, fun h3 s3 => ?_⟩
  have hob : h3[ob]? = some (.cells (encOt o).toArray 75 (0, 0)) := n2.fill rfl s3
  have x13 : Ext h1 h3 := n2.ext.stored s3 (n2.ge (Ext.refl _))
  have hb3 := x13.blk hb
  have x3 := n1.ext.trans x13
  refine ⟨encRp r, rfl, reads_all hb3, _, cell_blk hob rfl, ?_⟩
  refine (aCame_spec r o.id).mono ?_
  rintro v h4 ⟨hv, x4⟩
  have hb4 := x4.blk hb3
  have hob4 := x4.blk hob
  have x04 := x3.trans x4
  rcases came_iff R o.id with ⟨e, e2⟩ | ⟨e, c, e2⟩
  · rw [e] at hv
    subst hv
    have e3 : strangerM r o = true := by unfold strangerM; rw [e2]
    exact ⟨congrArg Value.bool e3.symm, x04⟩
  · rw [e] at hv
    subst hv
    have e3 : strangerM r o = decide (c.port ≠ o.frm ∨ o.to < 0 ∨ r.ports ≤ o.to) := by unfold strangerM; rw [e2]
    obtain ⟨a, hA, c0, c1, crd⟩ := came_at (R.ext x04) e2
    have p0 : cell h4 ((a.add (o.id.toNat * 3)).add 0) = some (.int .i64 c.port) := crd.get 0 rfl
    refine ⟨_, cell_blk hb4 rfl, _, cell_blk hob4 rfl, a, hA, c0, c1, _, p0, _, cell_blk hob4 rfl, ?_⟩
    refine xif_of (fun q => ?_) (fun q => ?_)
    · have q : ¬ c.port = o.frm := by simpa using q
      exact ⟨congrArg Value.bool (e3.trans (decide_eq_true (.inl q))).symm, x04⟩
    have q : c.port = o.frm := by simpa using q
    refine ⟨_, cell_blk hob4 rfl, ?_⟩
    refine xif_of (fun q2 => ?_) (fun q2 => ?_)
    · have q2 : o.to < 0 := of_decide_eq_true q2
      exact ⟨congrArg Value.bool (e3.trans (decide_eq_true (.inr (.inl q2)))).symm, x04⟩
    have q2 : ¬ o.to < 0 := of_decide_eq_false q2
    refine ⟨_, cell_blk hob4 rfl, _, cell_blk hb4 rfl, congrArg Value.bool (Eq.trans ?_ e3.symm), x04⟩
    rw [Bool.eq_iff_iff, decide_eq_true_iff, decide_eq_true_iff]; omega
theorem aRu41_spec {r : Rp} (R : RpOk h r) {i : Nat} {o x : Ot} {rb ib : Nat} {T : TypeId} (ho : r.outs[i]? = some o) (hrb : h[rb]? = some (.cells (encRp r).toArray 50 (0, 0))) (hib : h[ib]? = some (.cells [.int .i64 i].toArray T (0, 0))) :
    HCalls Tryz.prog 47 #[.agg (encOt x).toArray, .pointer (some ⟨rb, 0, none⟩), .pointer (some ⟨ib, 0, none⟩)] h (fun v h' => v = .bool (twiceM o x) ∧ Ext h h') := by
  have key : ∀ b : Bool, (b = true ↔ x.id = o.id ∧ x.to = o.to) → b = twiceM o x := fun b e => by unfold twiceM; rw [Bool.eq_iff_iff, decide_eq_true_iff]; exact e
  refine xcalls env_aRu41 Tryz.func47 rfl (by kernel_rfl) rfl (by kernel_rfl) ?_
  intro xb h1 n1
  have hx : h1[xb]? = some (.cells (encOt x).toArray 75 (0, 0)) := n1.this
  have hr1 := n1.ext.blk hrb
  have hi1 := n1.ext.blk hib
  obtain ⟨a, hA, i0, i1, _, hrd⟩ := out_at (R.ext n1.ext) ho
  have q0 : cell h1 ((a.add ((i : Int).toNat * 5)).add 0) = some (.int .i64 o.id) := hrd.get 0 rfl
  have q2 : cell h1 ((a.add ((i : Int).toNat * 5)).add 2) = some (.int .i64 o.to) := hrd.get 2 rfl
  refine ⟨_, cell_blk hx rfl, _, cell_blk hr1 rfl, _, cell_blk hi1 rfl, a, hA, i0, i1, _, q0, ?_⟩
  refine xif_of (fun q => ?_) (fun q => ?_)
  · have q : x.id = o.id := by simpa using q
    refine ⟨_, cell_blk hx rfl, _, cell_blk hr1 rfl, _, cell_blk hi1 rfl, a, hA, i0, i1, _, q2, congrArg Value.bool (key _ ?_), n1.ext⟩
    rw [beq_iff_eq]; exact ⟨fun e => ⟨q, e⟩, fun e => e.2⟩
  · have q : ¬ x.id = o.id := by simpa using q
    exact ⟨congrArg Value.bool (key _ ⟨(fun e => by cases e), (fun e => absurd e.1 q)⟩), n1.ext⟩
theorem aRu51_spec {o x : Ot} {ob : Nat} (hob : h[ob]? = some (.cells (encOt o).toArray 75 (0, 0))) :
    HCalls Tryz.prog 49 #[.agg (encOt x).toArray, .pointer (some ⟨ob, 0, none⟩)] h (fun v h' => v = .bool (orderQ o x) ∧ Ext h h') := by
  unfold orderQ
  refine xcalls env0 Tryz.func49 rfl (by kernel_rfl) rfl (by kernel_rfl) ?_
  intro xb h1 n1
  have hx : h1[xb]? = some (.cells (encOt x).toArray 75 (0, 0)) := n1.this
  have ho1 := n1.ext.blk hob
  refine ⟨_, cell_blk hx rfl, _, cell_blk ho1 rfl, ?_⟩
  refine xif_of (fun q => ?_) (fun q => ?_)
  rotate_left
  · have q : ¬ x.frm = o.frm := by simpa using q
    exact ⟨congrArg Value.bool (decide_eq_false fun e => q e.1).symm, n1.ext⟩
  have q : x.frm = o.frm := by simpa using q
  refine ⟨_, cell_blk hx rfl, _, cell_blk ho1 rfl, ?_⟩
  refine xif_of (fun q2 => ?_) (fun q2 => ?_)
  rotate_left
  · have q2 : ¬ x.to = o.to := by simpa using q2
    exact ⟨congrArg Value.bool (decide_eq_false fun e => q2 e.2.1).symm, n1.ext⟩
  have q2 : x.to = o.to := by simpa using q2
  refine ⟨_, cell_blk hx rfl, _, cell_blk ho1 rfl, congrArg Value.bool ?_, n1.ext⟩
  rw [Bool.eq_iff_iff, decide_eq_true_iff, decide_eq_true_iff]; exact ⟨fun e => ⟨q, q2, e⟩, fun e => e.2.2⟩
theorem aRu4_spec {r : Rp} (R : RpOk h r) {i : Nat} {o : Ot} (ho : r.outs[i]? = some o) : HCalls Tryz.prog 45 #[.agg (encRp r).toArray, .int .i64 i] h (fun v h' => v = .bool ((r.outs.take i).any (twiceM o)) ∧ Ext h h') := by
  refine xcalls env0 Tryz.func45 rfl (by kernel_rfl) rfl (by kernel_rfl) ?_
  intro b h1 n1 ib h2 n2
  have hb : h2[b]? = some (.cells (encRp r).toArray 50 (0, 0)) := n2.ext.blk n1.this
  have hi : h2[ib]? = some (.cells [.int .i64 i].toArray 3 (0, 0)) := n2.this
  have x2 := n1.ext.trans n2.ext
  have hl := (List.getElem?_eq_some_iff.1 ho).1
  have hol := R.outsl
  have hoc := R.outsc
  have hos := R.outss
  refine ⟨_, cell_blk hb rfl, _, cell_blk hi rfl, by decide, by decide, by omega, by omega, Int.le_refl _, ?_⟩
  have rt := row_first (x2.row R.outs) i (q := (r.oc : Int).toNat = Int.toNat 0) (inst := inferInstance) (f := fun x => x.add (Int.toNat 0 * 5)) (fun a => add_zero' a)
  refine (otContainsC_spec (P := twiceM o) (cap := [.pointer (some ⟨b, 0, none⟩), .pointer (some ⟨ib, 0, none⟩)]) rt (n := (i : Int).toNat - Int.toNat 0) (by rw [List.length_take]; have : Int.toNat 0 = 0 := rfl; omega) (by have : Int.toNat 0 = 0 := rfl; omega) (fun h' e x _ => aRu41_spec (R.ext (x2.trans x)) ho (x.blk hb) (x.blk hi))).mono ?_
  rintro v h3 ⟨rfl, x3⟩
  exact ⟨rfl, x2.trans x3⟩
theorem aRu5_spec {r : Rp} (R : RpOk h r) {i : Nat} {o : Ot} (ho : r.outs[i]? = some o) : HCalls Tryz.prog 48 #[.agg (encRp r).toArray, .int .i64 i] h (fun v h' => v = .bool ((r.outs.take i).any (orderQ o)) ∧ Ext h h') := by
  refine xcalls env0 Tryz.func48 rfl (by kernel_rfl) rfl (by kernel_rfl) ?_
  intro b h1 n1
  have hb : h1[b]? = some (.cells (encRp r).toArray 50 (0, 0)) := n1.this
  obtain ⟨a, hA, i0, i1, hl5, hrd⟩ := out_at (R.ext n1.ext) ho
  refine ⟨_, cell_blk hb rfl, a, hA, i0, i1, _, hl5, hrd, ?_⟩
  intro ob h2 n2
  refine ⟨rfl, rfl, canset_blk n2.this rfl, fun h3 s3 => ?_⟩
  have hob : h3[ob]? = some (.cells (encOt o).toArray 75 (0, 0)) := n2.fill rfl s3
  have x13 : Ext h1 h3 := n2.ext.stored s3 (n2.ge (Ext.refl _))
  have hb3 := x13.blk hb
  have x3 := n1.ext.trans x13
  have hl := (List.getElem?_eq_some_iff.1 ho).1
  have hol := R.outsl
  have hoc := R.outsc
  have hos := R.outss
  refine ⟨_, cell_blk hb3 rfl, by decide, by decide, by omega, by omega, Int.le_refl _, ?_⟩
  have rt := row_first (x3.row R.outs) i (q := (r.oc : Int).toNat = Int.toNat 0) (inst := inferInstance) (f := fun x => x.add (Int.toNat 0 * 5)) (fun a => add_zero' a)
  refine (otContainsC_spec (P := orderQ o) (cap := [.pointer (some ⟨ob, 0, none⟩)]) rt (n := (i : Int).toNat - Int.toNat 0) (by rw [List.length_take]; have : Int.toNat 0 = 0 := rfl; omega) (by have : Int.toNat 0 = 0 := rfl; omega) (fun h' e x _ => aRu51_spec (x.blk hob))).mono ?_
  rintro v h4 ⟨rfl, x4⟩
  exact ⟨rfl, x3.trans x4⟩
theorem byEqual_spec {A B : Option Addr} {n c m d : Nat} {k l : List Int} (hk : Row encU8 1 h A k) (hkl : k.length = n) (hkb : IsB k) (hl : Row encU8 1 h B l) (hll : l.length = m) (hlb : IsB l) :
    HCalls Tryz.prog 86 #[.slice A n c, .slice B m d] h (fun v h' => v = .bool (decide (k = l)) ∧ h' = h) := by
  refine xcalls env0 Tryz.func86 rfl (by kernel_rfl) rfl (by kernel_rfl) ?_
  refine xbytes_ok rfl rfl rfl hk hkl ?_
  refine xbytes_ok rfl rfl rfl hl hll ?_
  exact ⟨congrArg Value.bool (bstr_eq hkb hlb), rfl⟩
theorem aBytes1_spec {o : Ot} {e : He} {ob : Nat} (hob : h[ob]? = some (.cells (encOt o).toArray 75 (0, 0))) :
    HCalls Tryz.prog 84 #[.agg (encHe e).toArray, .pointer (some ⟨ob, 0, none⟩)] h (fun v h' => v = .bool (sendQ o e) ∧ Ext h h') := by
  unfold sendQ
  refine xcalls env0 Tryz.func84 rfl (by kernel_rfl) rfl (by kernel_rfl) ?_
  intro xb h1 n1
  have hx : h1[xb]? = some (.cells (encHe e).toArray 116 (0, 0)) := n1.this
  have ho1 := n1.ext.blk hob
  refine ⟨_, cell_blk hx rfl, ?_⟩
  refine xif_of (fun q => ?_) (fun q => ?_)
  rotate_left
  · have q : ¬ e.op.kind = 12 := by simpa using q
    exact ⟨congrArg Value.bool (decide_eq_false fun e => q e.1).symm, n1.ext⟩
  have q : e.op.kind = 12 := by simpa using q
  refine ⟨_, cell_blk hx rfl, _, cell_blk ho1 rfl, ?_⟩
  refine xif_of (fun q2 => ?_) (fun q2 => ?_)
  rotate_left
  · have q2 : ¬ e.op.to = o.to := by simpa using q2
    exact ⟨congrArg Value.bool (decide_eq_false fun e => q2 e.2.1).symm, n1.ext⟩
  have q2 : e.op.to = o.to := by simpa using q2
  refine ⟨_, cell_blk hx rfl, _, cell_blk ho1 rfl, congrArg Value.bool ?_, n1.ext⟩
  rw [Bool.eq_iff_iff, decide_eq_true_iff, beq_iff_eq]; exact ⟨fun e => ⟨q, q2, e⟩, fun e => e.2.2⟩
theorem outE_vid {bs : List Int} {t : Bool} {vid : Int} (e : outE bs t vid = 0) : t = true → 0 ≤ vid ∧ vid < 4096 := by
  intro ht
  unfold outE at e
  split at e
  · rename_i q; exact absurd e q
  · split at e
    · cases e
    · rename_i q
      by_cases h1 : vid < 1
      · exact absurd ⟨ht, .inl h1⟩ q
      · by_cases h2 : 4094 < vid
        · exact absurd ⟨ht, .inr h2⟩ q
        · omega
set_option maxHeartbeats 1000000 in
theorem aBytes_spec {r : Rp} (R : RpOk h r) {i : Nat} {o : Ot} (ho : r.outs[i]? = some o) (hs : strangerM r o = false) : HCalls Tryz.prog 50 #[.agg (encRp r).toArray, .int .i64 i] h (fun v h' => v = .bool (bytesM r o) ∧ Ext h h') := by
  refine xcalls env_aBytes Tryz.func50 rfl (by kernel_rfl) rfl (by kernel_rfl) ?_
  intro b h1 n1
  have hb : h1[b]? = some (.cells (encRp r).toArray 50 (0, 0)) := n1.this
  obtain ⟨a, hA, i0, i1, hl5, hrd⟩ := out_at (R.ext n1.ext) ho
  refine ⟨_, cell_blk hb rfl, a, hA, i0, i1, _, hl5, hrd, ?_⟩
  intro ob h2 n2
  refine ⟨rfl, rfl, canset_blk n2.this rfl, fun h3 s3 => ?_⟩
  have hob : h3[ob]? = some (.cells (encOt o).toArray 75 (0, 0)) := n2.fill rfl s3
  have x13 : Ext h1 h3 := n2.ext.stored s3 (n2.ge (Ext.refl _))
  have hb3 := x13.blk hb
  have x3 := n1.ext.trans x13
  refine ⟨_, cell_blk hb3 rfl, ?_⟩
  refine (heIndexC_spec (P := sendQ o) (cap := [.pointer (some ⟨ob, 0, none⟩)]) (x3.row R.log) R.logl (by have := R.logs; omega) (fun h' e x _ => aBytes1_spec (x.blk hob))).mono ?_
  rintro v h4 ⟨hv, x4⟩
  have hb4 := x4.blk hb3
  have hob4 := x4.blk hob
  have x04 := x3.trans x4
  rcases idxQ_find (P := sendQ o) (l := r.log) (i := 0) with ⟨e1, e2⟩ | ⟨k, e, e1, e2, e3⟩
  · rw [e1] at hv
    subst hv
    have e4 : bytesM r o = true := by unfold bytesM; rw [e2]
    exact ⟨congrArg Value.bool e4.symm, x04⟩
  rw [e1, Nat.zero_add] at hv
  subst hv
  obtain ⟨la, hLA, lrd⟩ := (x04.row R.log) k e e2
  have hkl := (List.getElem?_eq_some_iff.1 e2).1
  have hll := R.logl
  obtain ⟨cm, hcm⟩ : ∃ c, cameAt r o.id = some c := by
    unfold strangerM at hs
    cases hc : cameAt r o.id with
    | none => rw [hc] at hs; cases hs
    | some c => exact ⟨c, rfl⟩
  have e4 : bytesM r o = if e.ans ≠ 2 ∧ e.ans ≠ 3 then true else decide (outE cm.bs (decide (e.ans = 3)) e.op.vid ≠ 0 ∨ outB cm.bs (decide (e.ans = 3)) e.op.vid ≠ o.bs) := by unfold bytesM; rw [e3, hcm]
  have q18 : cell h4 ((la.add ((k : Int).toNat * 19)).add 18) = some (.int .i64 e.ans) := lrd.get 18 rfl
  refine ⟨_, cell_blk hb4 rfl, la, hLA, by omega, by omega, _, q18, ?_⟩
  refine ⟨Unit, fun _ => [(2, .pointer (some ⟨b, 0, none⟩)), (5, .pointer (some ⟨ob, 0, none⟩)), (6, .int .i64 k), (7, .int .i64 e.ans)], fun _ h' => (e.ans = 2 ∨ e.ans = 3) ∧ h' = h4, ?_, ?_⟩
  · refine xif_of (fun q => ?_) (fun q => ?_)
    · have q : ¬ e.ans = 2 := by simpa using q
      refine xif_of (fun q2 => ?_) (fun q2 => ?_)
      · have q2 : ¬ e.ans = 3 := by simpa using q2
        exact ⟨congrArg Value.bool (e4.trans (if_pos ⟨q, q2⟩)).symm, x04⟩
      · have q2 : e.ans = 3 := by simpa using q2
        exact ⟨(), ⟨rfl, rfl, rfl, rfl, trivial⟩, .inr q2, rfl⟩
    · have q : e.ans = 2 := by simpa using q
      exact ⟨(), ⟨rfl, rfl, rfl, rfl, trivial⟩, .inl q, rfl⟩
  rintro _ h5 ⟨h23, rfl⟩
  have e5 := e4.trans (if_neg (fun q => by omega))
  obtain ⟨ca, hCA, c0, c1, crd⟩ := came_at (R.ext x04) hcm
  have q2 : cell h5 ((ca.add (o.id.toNat * 3)).add 2) = some (.slice cm.A cm.n cm.c) := crd.get 2 rfl
  have q7 : cell h5 (((la.add ((k : Int).toNat * 19)).add 4).add 3) = some (.int .i64 e.op.vid) := (lrd.sub 4 (us := encO17 e.op) rfl).get 3 rfl
  have B := (R.ext x04).cameb cm (by unfold cameAt at hcm; rw [if_pos c0] at hcm; exact List.mem_of_getElem? hcm)
  refine ⟨_, cell_blk hb4 rfl, _, cell_blk hob4 rfl, ca, hCA, c0, c1, _, q2, _, cell_blk hb4 rfl, la, hLA, by omega, by omega, _, q7, ?_⟩
  refine (fOut_spec (t := e.ans == 3) B.row B.len B.few B.cap B.byte).mono ?_
  rintro v h6 ⟨A', n', c', rfl, hok, x6⟩
  have hob6 := x6.blk hob4
  have x06 := x04.trans x6
  have e6 : bytesM r o = decide (outE cm.bs (e.ans == 3) e.op.vid ≠ 0 ∨ outB cm.bs (e.ans == 3) e.op.vid ≠ o.bs) := e5
  refine xif_of (fun q => ?_) (fun q => ?_)
  · have q : ¬ outE cm.bs (e.ans == 3) e.op.vid = 0 := by simpa using q
    exact ⟨congrArg Value.bool (e6.trans (decide_eq_true (.inl q))).symm, x06⟩
  have q : outE cm.bs (e.ans == 3) e.op.vid = 0 := by simpa using q
  obtain ⟨hn', row'⟩ := hok q
  have BO := (R.ext x06).outsb o (List.mem_of_getElem? ho)
  refine ⟨_, cell_blk hob6 rfl, ?_⟩
  refine (byEqual_spec row' hn'.symm (isB_outB B.byte (outE_vid q)) BO.row BO.len BO.byte).mono ?_
  rintro v h7 ⟨rfl, rfl⟩
  refine ⟨congrArg Value.bool (Eq.trans ?_ e6.symm), x06⟩
  rw [Bool.eq_iff_iff]
  simp [q]
end
end Go.Proofs.YtcjoenkpibhmoaaGreatE
