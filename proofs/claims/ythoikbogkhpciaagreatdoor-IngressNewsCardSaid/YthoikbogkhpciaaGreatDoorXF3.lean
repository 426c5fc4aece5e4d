/- A fabric is made: what stands in its memory, its rings. Conditions: the plan may be. -/
import Derived.Test.YthoikbogkhpciaaGreatDoorXF2
import Derived.Test.YthoikbogkhpciaaGreatDoorXM21
set_option linter.unusedVariables false
set_option linter.unusedSimpArgs false
set_option maxRecDepth 100000
namespace Go.Proofs.YthoikbogkhpciaaGreatDoorE
open Go Go.Proofs
section
variable {h : Heap} {mb cb lb : Nat} {M : MemS}
theorem rNew_spec (H : MemAt h mb cb lb M) {base size : Nat} (s1 : 1 ≤ size) (s2 : size ≤ 64) (hf : base + (size + 2) ≤ M.cells.length) (h4 : M.cells.length < 100000000) (ht : M.t < 900000) : HCalls Tryz.prog 67 #[.pointer (some ⟨mb, 0, none⟩), .int .i64 base, .int .i64 size, .int .u64 0] h (fun v h' => ∃ rb, v = .tuple #[.pointer (some ⟨rb, 0, none⟩), .int .i64 0] ∧ h.size ≤ rb ∧ RingAt h' rb mb ⟨base, size, 0, 0, false, 0, 0, false⟩ ∧ MemAt h' mb cb lb { M with cells := (M.cells.set base 0).set (base + 1) 0, t := M.t + 1 + 1 } ∧ Chg (ML mb cb lb) h h') := by
  refine xcalls env0 Tryz.func67 rfl (by kernel_rfl) rfl (by kernel_rfl) ?_
  refine (rCells_spec s1 s2).mono ?_
  rintro v h1 ⟨rfl, rfl⟩
  refine (mCells_spec H).mono ?_
  rintro v h1 ⟨rfl, rfl⟩
  refine xif_false (decide_eq_false ?_) ?_
  · show ¬ (base : Int) > M.cells.length
    omega
  refine (mCells_spec H).mono ?_
  rintro v h1 ⟨rfl, rfl⟩
  refine xif_false (decide_eq_false ?_) ?_
  · show ¬ ((size + 2 : Nat) : Int) > IntKind.i64.wrap ((M.cells.length : Int) - base)
    rw [wrap_i64 (by omega) (by omega)]
    omega
  refine (mStore_at H (i := base) (x := 0) (wrap_add0 base (by omega)) rfl (by omega) (by omega)).mono ?_
  rintro v h2 ⟨rfl, M2, c2⟩
  refine (mStore_at M2 (i := base + 1) (x := 0) (wrap_add1 base (by omega)) rfl ?_ ?_).mono ?_
  · show base + 1 < (M.cells.set base 0).length
    rw [List.length_set]
    omega
  · show M.t + 1 < 1000000
    omega
  rintro v h3 ⟨rfl, M3, c3⟩
  intro rb h4 n4
  have g1 := c2.size
  have g2 := c3.size
  exact ⟨rb, rfl, by rw [n4.at_]; omega, n4.this, M3.ext n4.ext, (c2.trans c3).trans (n4.ext.chg _)⟩
theorem mul_bd {a b m n : Int} (h0 : 0 ≤ a) (h1 : a ≤ m) (h2 : 0 ≤ b) (h3 : b ≤ n) : 0 ≤ a * b ∧ a * b ≤ m * n := ⟨Int.mul_nonneg h0 h2, Int.mul_le_mul h1 h3 h2 (by omega)⟩
theorem Sz.Ok.right {s : Sz} (o : s.Ok) : rightM s = true := by
  obtain ⟨a, b, c, d, e, f⟩ := o
  unfold rightM
  simp
  omega
def szCells (s : Sz) : Int := s.sh * s.bk * (1 + 2 * s.sl)
theorem dCells_spec {s : Sz} (o : s.Ok) : HCalls Tryz.prog 41 #[.agg #[.int .i64 s.sh, .int .i64 s.bk, .int .i64 s.sl]] h (fun v h' => v = .int .i64 (szCells s) ∧ Ext h h') := by
  refine xcalls env0 Tryz.func41 rfl (by kernel_rfl) rfl (by kernel_rfl) ?_
  intro zb h1 n1
  refine ⟨_, rfl, reads_all n1.this, ?_⟩
  refine (kRight_spec s _).mono ?_
  rintro v h2 ⟨rfl, x2⟩
  refine xif_false (by rw [o.right]; rfl) ?_
  have hz := x2.blk n1.this
  repeat (first | refine ⟨_, cell_blk (hz) rfl, ?_⟩)
  obtain ⟨a, b, c, d, e, f⟩ := o
  obtain ⟨p1, p2⟩ := mul_bd (a := s.sh) (b := s.bk) (m := 8) (n := 16) (by omega) b (by omega) d
  obtain ⟨q1, q2⟩ := mul_bd (a := s.sh * s.bk) (b := 1 + 2 * s.sl) (m := 8 * 16) (n := 17) p1 p2 (by omega) (by omega)
  refine ⟨congrArg (Value.int .i64) ?_, n1.ext.trans x2⟩
  rw [wrap_i64 (x := s.sh * s.bk) (by omega) (by omega), wrap_i64 (x := 2 * s.sl) (by omega) (by omega), wrap_i64 (x := 1 + 2 * s.sl) (by omega) (by omega), wrap_i64 (by omega) (by omega)]
  rfl
theorem dLocks_spec {s : Sz} (o : s.Ok) : HCalls Tryz.prog 44 #[.agg #[.int .i64 s.sh, .int .i64 s.bk, .int .i64 s.sl]] h (fun v h' => v = .int .i64 s.sh ∧ Ext h h') := by
  refine xcalls env0 Tryz.func44 rfl (by kernel_rfl) rfl (by kernel_rfl) ?_
  intro zb h1 n1
  refine ⟨_, rfl, reads_all n1.this, ?_⟩
  refine (kRight_spec s _).mono ?_
  rintro v h2 ⟨rfl, x2⟩
  refine xif_false (by rw [o.right]; rfl) ?_
  have hz := x2.blk n1.this
  repeat (first | refine ⟨_, cell_blk (hz) rfl, ?_⟩)
  exact ⟨rfl, n1.ext.trans x2⟩
theorem dBound_spec {s : Sz} (o : s.Ok) {tries : Int} (t1 : 1 ≤ tries) (t2 : tries ≤ 8) : HCalls Tryz.prog 35 #[.agg #[.int .i64 s.sh, .int .i64 s.bk, .int .i64 s.sl], .int .i64 tries] h (fun v h' => ∃ n : Int, 1 ≤ n ∧ v = .int .i64 n ∧ Ext h h') := by
  refine xcalls env0 Tryz.func35 rfl (by kernel_rfl) rfl (by kernel_rfl) ?_
  intro zb h1 n1
  refine ⟨_, rfl, reads_all n1.this, ?_⟩
  refine (kRight_spec s _).mono ?_
  rintro v h2 ⟨rfl, x2⟩
  refine xif_false (by rw [o.right]; rfl) ?_
  refine xif_false (decide_eq_false ?_) ?_
  · show ¬ tries < 1
    omega
  refine xif_false (decide_eq_false ?_) ?_
  · show ¬ tries > 8
    omega
  have hz := x2.blk n1.this
  repeat (first | refine ⟨_, cell_blk (hz) rfl, ?_⟩)
  obtain ⟨a, b, c, d, e, f⟩ := o
  obtain ⟨p1, p2⟩ := mul_bd (a := tries) (b := 4 + 4 * s.sl) (m := 8) (n := 36) (by omega) t2 (by omega) (by omega)
  obtain ⟨q1, q2⟩ := mul_bd (a := s.bk) (b := 8 + 8 * s.sl) (m := 16) (n := 72) (by omega) (by omega) (by omega) (by omega)
  obtain ⟨r1, r2⟩ := mul_bd (a := s.sh) (b := 4 + s.bk * (8 + 8 * s.sl)) (m := 8) (n := 4 + 16 * 72) (by omega) (by omega) (by omega) (by omega)
  refine ⟨16 + tries * (4 + 4 * s.sl) + s.sh * (4 + s.bk * (8 + 8 * s.sl)), by omega, congrArg (Value.int .i64) ?_, n1.ext.trans x2⟩
  rw [wrap_i64 (x := 4 * s.sl) (by omega) (by omega), wrap_i64 (x := 4 + 4 * s.sl) (by omega) (by omega), wrap_i64 (x := tries * (4 + 4 * s.sl)) (by omega) (by omega), wrap_i64 (x := 16 + tries * (4 + 4 * s.sl)) (by omega) (by omega), wrap_i64 (x := 8 * s.sl) (by omega) (by omega), wrap_i64 (x := 8 + 8 * s.sl) (by omega) (by omega), wrap_i64 (x := s.bk * (8 + 8 * s.sl)) (by omega) (by omega), wrap_i64 (x := 4 + s.bk * (8 + 8 * s.sl)) (by omega) (by omega), wrap_i64 (x := s.sh * (4 + s.bk * (8 + 8 * s.sl))) (by omega) (by omega), wrap_i64 (by omega) (by omega)]
theorem dFits_spec {a b c : Int} (h1 : 0 ≤ a) (h2 : a + b ≤ c) (h3 : c < 100000000) (hb : 0 ≤ b) : HCalls Tryz.prog 63 #[.int .i64 a, .int .i64 b, .int .i64 c] h (fun v h' => v = .bool true ∧ h' = h) := by
  refine xcalls env0 Tryz.func63 rfl (by kernel_rfl) rfl (by kernel_rfl) ?_
  refine xif_true (decide_eq_true ?_) ?_
  · exact h1
  refine xif_true (decide_eq_true ?_) ?_
  · show a ≤ c
    omega
  refine ⟨congrArg Value.bool (decide_eq_true ?_), rfl⟩
  rw [wrap_i64 (by omega) (by omega)]
  omega
theorem dNew_spec (H : MemAt h mb cb lb M) {base lock : Nat} {s : Sz} (o : s.Ok) {tries : Int} (t1 : 1 ≤ tries) (t2 : tries ≤ 8) (hf : base + szCells s ≤ M.cells.length) (hl : lock + s.sh ≤ M.locks.length) (h4 : M.cells.length < 100000000) (h5 : M.locks.length < 1000) :
    HCalls Tryz.prog 45 #[.pointer (some ⟨mb, 0, none⟩), .int .i64 base, .int .i64 lock, .agg #[.int .i64 s.sh, .int .i64 s.bk, .int .i64 s.sl], .int .i64 tries] h (fun v h' => ∃ db, v = .tuple #[.pointer (some ⟨db, 0, none⟩), .int .i64 0] ∧ h.size ≤ db ∧ h'[db]? = some (.cells [.pointer (some ⟨mb, 0, none⟩), .int .i64 base, .int .i64 lock, .int .i64 s.sh, .int .i64 s.bk, .int .i64 s.sl, .int .i64 tries].toArray 138 (0, 0)) ∧ Ext h h') := by
  refine xcalls env0 Tryz.func45 rfl (by kernel_rfl) rfl (by kernel_rfl) ?_
  intro zb h1 n1
  have hz := n1.this
  have H1 := H.ext n1.ext
  refine ⟨_, rfl, reads_all hz, ?_⟩
  refine (dBound_spec o t1 t2).mono ?_
  rintro v h2 ⟨n, hn, rfl, x2⟩
  have hz2 := x2.blk hz
  refine xif_false ?_ ?_
  · show (n == 0) = false
    rw [beq_eq_false_iff_ne]
    omega
  refine ⟨_, rfl, reads_all hz2, ?_⟩
  refine (dCells_spec o).mono ?_
  rintro v h3 ⟨rfl, x3⟩
  have H3 := (H1.ext x2).ext x3
  refine (mCells_spec H3).mono ?_
  rintro v h4 ⟨rfl, rfl⟩
  obtain ⟨p1, p2⟩ := mul_bd (a := s.sh) (b := s.bk) (m := 8) (n := 16) (by have := o.sh1; omega) o.sh2 (by have := o.bk1; omega) o.bk2
  obtain ⟨q1, q2⟩ := mul_bd (a := s.sh * s.bk) (b := 1 + 2 * s.sl) (m := 8 * 16) (n := 17) p1 p2 (by have := o.sl1; omega) (by have := o.sl2; omega)
  refine (dFits_spec (by omega) hf (by omega) (by unfold szCells; omega)).mono ?_
  rintro v h5 ⟨rfl, rfl⟩
  have hz5 := x3.blk hz2
  refine ⟨_, rfl, reads_all hz5, ?_⟩
  refine (dLocks_spec o).mono ?_
  rintro v h6 ⟨rfl, x6⟩
  refine (mLocks_spec (H3.ext x6)).mono ?_
  rintro v h7 ⟨rfl, rfl⟩
  refine (dFits_spec (by omega) hl (by omega) (by have := o.sh1; omega)).mono ?_
  rintro v h8 ⟨rfl, rfl⟩
  have hz8 := x6.blk hz5
  refine ⟨_, rfl, reads_all hz8, ?_⟩
  intro db h9 n9
  have x8 := ((n1.ext.trans x2).trans x3).trans x6
  exact ⟨db, rfl, n9.ge x8, n9.this, x8.trans n9.ext⟩
end
end Go.Proofs.YthoikbogkhpciaaGreatDoorE
