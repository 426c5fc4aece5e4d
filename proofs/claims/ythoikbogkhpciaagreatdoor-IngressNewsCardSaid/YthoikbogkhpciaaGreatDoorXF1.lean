/- Numbers that wait in rings: how a ring and an act lie in memory; one step of a put, one of a taking. Conditions: the ring is as it is told, and has room, or a number. -/
import Derived.Test.YthoikbogkhpciaaGreatDoorXF0
set_option linter.unusedVariables false
set_option linter.unusedSimpArgs false
set_option maxRecDepth 100000
namespace Go.Proofs.YthoikbogkhpciaaGreatDoorE
open Go Go.Proofs
def env_rRoom : Nat → Ann
  | 1 => ⟨.op 0 [] <| .op 1 [] <| .op 2 [] <| .op 3 [] <| .op 4 [] <| .op 5 [] <| .op 6 [] <| .op 7 [] <| .op 8 [] <| .op 9 [] <| .op 10 [] <| .op 11 [] <| .op 12 [] <| .op 13 [] <| .op 14 [] <| .op 15 [] <| .op 16 [] <| .op 17 [] <| .op 18 [] <| .op 19 [] <| .op 20 [] <| .op 21 [] <| .op 24 [] <| .op 25 [] <| .op 26 [] <| .op 27 [] <| .op 28 [] <| .op 29 [] <| .op 30 [] <| .op 31 [] <| .op 22 [3, 6, 27, 30] <| .op 23 [] <| .op 32 [] <| .nil, [0, 1, 3, 7, 15, 31, 63, 0, 128, 384, 896, 1920, 3968, 8064, 0, 16384, 49152, 114688, 245760, 507904, 1032192, 2080768, 4194176, 8388607, 0, 16777216, 50331648, 117440512, 251658240, 520093696, 1056964608, 2130706432, 4294967295], false⟩
  | _ => ⟨.nil, [], false⟩
def env_rLay : Nat → Ann
  | 1 => ⟨.op 0 [] <| .op 1 [] <| .op 2 [] <| .op 3 [] <| .op 4 [] <| .op 5 [] <| .op 6 [] <| .op 7 [] <| .op 8 [] <| .op 9 [] <| .op 10 [] <| .op 11 [] <| .op 12 [] <| .op 13 [] <| .op 14 [] <| .op 15 [] <| .op 16 [] <| .op 17 [] <| .op 18 [] <| .op 19 [] <| .op 20 [] <| .op 21 [] <| .op 22 [] <| .op 23 [] <| .op 24 [] <| .op 25 [] <| .op 26 [] <| .op 27 [] <| .nil, [0, 1, 3, 7, 15, 31, 63, 0, 128, 384, 896, 1920, 3968, 8064, 16256, 0, 32768, 98304, 229376, 491520, 1015808, 2064384, 4194176, 0, 8388608, 25165824, 58720256, 134217727], false⟩
  | _ => ⟨.nil, [], false⟩
def env_rTell : Nat → Ann
  | 1 => ⟨.op 0 [] <| .op 1 [] <| .op 2 [] <| .op 3 [] <| .op 4 [] <| .op 5 [] <| .op 6 [] <| .op 7 [] <| .op 8 [] <| .op 9 [] <| .op 10 [] <| .op 11 [] <| .nil, [0, 1, 3, 7, 0, 16, 48, 112, 240, 496, 1008, 2047], false⟩
  | 2 => ⟨.op 0 [] <| .op 1 [] <| .op 2 [] <| .op 3 [] <| .op 4 [] <| .op 5 [] <| .op 6 [] <| .op 7 [] <| .op 8 [] <| .op 9 [] <| .op 10 [] <| .op 11 [] <| .op 12 [] <| .op 13 [] <| .op 14 [] <| .op 15 [] <| .op 16 [] <| .op 17 [] <| .op 18 [] <| .op 19 [] <| .op 20 [] <| .op 21 [] <| .op 22 [] <| .nil, [0, 1, 3, 7, 15, 31, 63, 0, 128, 384, 896, 1920, 3968, 8064, 16256, 0, 32768, 98304, 229376, 491520, 1015808, 2064384, 4194303], false⟩
  | _ => ⟨.nil, [], false⟩
/-- A ring: where its cells are, and of what size; what its two ends know. -/
structure RS where
  base : Nat
  size : Nat
  ic : Nat
  ia : Nat
  ib : Bool
  oc : Nat
  oa : Nat
  ob : Bool
def encRing (mb : Nat) (R : RS) : List Value := [.pointer (some ⟨mb, 0, none⟩), .int .i64 (R.base : Int), .int .i64 (R.size : Int), .int .u64 (R.ic : Int), .int .i64 (R.ia : Int), .bool R.ib, .int .u64 (R.oc : Int), .int .i64 (R.oa : Int), .bool R.ob]
def RingAt (h : Heap) (rb mb : Nat) (R : RS) : Prop := h[rb]? = some (.cells (encRing mb R).toArray 165 (0, 0))
/-- An act at one end (e) of a ring. -/
structure AS where
  rb : Nat
  e : Nat
  next : Nat
  value : Int
  ok : Bool
  mark : Int
  over : Bool
def encAct (A : AS) : List Value := [.pointer (some ⟨A.rb, 0, none⟩), .pointer (some ⟨A.rb, A.e, none⟩), .func (.func A.next) #[] #[], .int .u64 A.value, .bool A.ok, .int .i64 A.mark, .bool A.over]
def ActAt (h : Heap) (ab : Nat) (A : AS) : Prop := h[ab]? = some (.cells (encAct A).toArray 232 (0, 0))
section
variable {h : Heap} {mb cb lb rb ab : Nat} {M : MemS} {R : RS} {A : AS}
theorem rCells_spec {s : Nat} (s1 : 1 ≤ s) (s2 : s ≤ 64) : HCalls Tryz.prog 42 #[.int .i64 s] h (fun v h' => v = .int .i64 ((s + 2 : Nat) : Int) ∧ h' = h) := by
  refine xcalls env0 Tryz.func42 rfl (by kernel_rfl) rfl (by kernel_rfl) ?_
  refine xif_false (decide_eq_false ?_) ?_
  · show ¬ (s : Int) < 1
    omega
  refine xif_false (decide_eq_false ?_) ?_
  · show ¬ (s : Int) > 64
    omega
  refine ⟨?_, rfl⟩
  show Value.int .i64 (IntKind.i64.wrap ((s : Int) + 2)) = _
  rw [wrap_i64 (by omega) (by omega)]
  rfl
theorem rBegin_in (H : RingAt h rb mb R) (hb : R.ib = false) (x : Int) (f : Nat) : HCalls Tryz.prog 146 #[.pointer (some ⟨rb, 0, none⟩), .pointer (some ⟨rb, 3, none⟩), .int .u64 x, .func (.func f) #[] #[]] h (fun v h' => ∃ ab, v = .pointer (some ⟨ab, 0, none⟩) ∧ h.size ≤ ab ∧ ActAt h' ab ⟨rb, 3, f, x, false, 0, false⟩ ∧ RingAt h' rb mb { R with ib := true } ∧ Chg [(rb, 165)] h h') := by
  refine xcalls env0 Tryz.func146 rfl (by kernel_rfl) rfl (by kernel_rfl) ?_
  refine ⟨_, cell_blk H rfl, ?_⟩
  refine xif_false hb ?_
  refine ⟨rfl, rfl, canset_blk H rfl, fun h1 s1 => ?_⟩
  have c1 := s1.chg (l := [(rb, 165)]) H (.head _)
  have H1 : RingAt h1 rb mb { R with ib := true } := s1.put H
  intro ab h2 n2
  have := c1.size
  exact ⟨ab, rfl, by rw [n2.at_]; exact this, n2.this, n2.ext.blk H1, c1.trans (n2.ext.chg _)⟩
theorem rBegin_out (H : RingAt h rb mb R) (hb : R.ob = false) (x : Int) (f : Nat) : HCalls Tryz.prog 146 #[.pointer (some ⟨rb, 0, none⟩), .pointer (some ⟨rb, 6, none⟩), .int .u64 x, .func (.func f) #[] #[]] h (fun v h' => ∃ ab, v = .pointer (some ⟨ab, 0, none⟩) ∧ h.size ≤ ab ∧ ActAt h' ab ⟨rb, 6, f, x, false, 0, false⟩ ∧ RingAt h' rb mb { R with ob := true } ∧ Chg [(rb, 165)] h h') := by
  refine xcalls env0 Tryz.func146 rfl (by kernel_rfl) rfl (by kernel_rfl) ?_
  refine ⟨_, cell_blk H rfl, ?_⟩
  refine xif_false hb ?_
  refine ⟨rfl, rfl, canset_blk H rfl, fun h1 s1 => ?_⟩
  have c1 := s1.chg (l := [(rb, 165)]) H (.head _)
  have H1 : RingAt h1 rb mb { R with ob := true } := s1.put H
  intro ab h2 n2
  have := c1.size
  exact ⟨ab, rfl, by rw [n2.at_]; exact this, n2.this, n2.ext.blk H1, c1.trans (n2.ext.chg _)⟩
theorem rPush_spec (H : RingAt h rb mb R) (hb : R.ib = false) (x : Int) : HCalls Tryz.prog 130 #[.pointer (some ⟨rb, 0, none⟩), .int .u64 x] h (fun v h' => ∃ ab, v = .pointer (some ⟨ab, 0, none⟩) ∧ h.size ≤ ab ∧ ActAt h' ab ⟨rb, 3, 147, x, false, 0, false⟩ ∧ RingAt h' rb mb { R with ib := true } ∧ Chg [(rb, 165)] h h') := by
  refine xcalls env0 Tryz.func130 rfl (by kernel_rfl) rfl (by kernel_rfl) ?_
  refine (rBegin_in H hb x _).mono ?_
  exact fun v h' r => r
theorem rOver_spec (H : ActAt h ab A) : HCalls Tryz.prog 159 #[.pointer (some ⟨ab, 0, none⟩)] h (fun v h' => v = .bool A.over ∧ h' = h) := by
  refine xcalls env0 Tryz.func159 rfl (by kernel_rfl) rfl (by kernel_rfl) ?_
  exact ⟨_, cell_blk H rfl, rfl, rfl⟩
theorem rMark_spec (H : ActAt h ab A) : HCalls Tryz.prog 149 #[.pointer (some ⟨ab, 0, none⟩)] h (fun v h' => v = .int .i64 A.mark ∧ h' = h) := by
  refine xcalls env0 Tryz.func149 rfl (by kernel_rfl) rfl (by kernel_rfl) ?_
  exact ⟨_, cell_blk H rfl, rfl, rfl⟩
theorem rOk_spec (H : ActAt h ab A) : HCalls Tryz.prog 150 #[.pointer (some ⟨ab, 0, none⟩)] h (fun v h' => v = .bool A.ok ∧ h' = h) := by
  refine xcalls env0 Tryz.func150 rfl (by kernel_rfl) rfl (by kernel_rfl) ?_
  exact ⟨_, cell_blk H rfl, rfl, rfl⟩
theorem MemAt.base_lt (HM : MemAt h mb cb lb M) {i : Nat} {x : Int} (hx : M.cells[i]? = some x) : i < M.cells.length := (List.getElem?_eq_some_iff.1 hx).1
theorem wrap_add (a b : Nat) (h : a + b < 1000000000) : IntKind.i64.wrap ((a : Int) + (b : Int)) = ((a + b : Nat) : Int) := by rw [wrap_i64 (by omega) (by omega)]; omega
theorem wrap_add1 (a : Nat) (h : a < 1000000000) : IntKind.i64.wrap ((a : Int) + 1) = ((a + 1 : Nat) : Int) := by rw [wrap_i64 (by omega) (by omega)]; omega
theorem wrap_add0 (a : Nat) (h : a < 1000000000) : IntKind.i64.wrap ((a : Int) + 0) = (a : Int) := by rw [wrap_i64 (by omega) (by omega)]; omega
theorem rDone_spec (H : ActAt h ab A) (HR : RingAt h A.rb mb R) (HM : MemAt h mb cb lb M) (ok : Bool) : HCalls Tryz.prog 157 #[.pointer (some ⟨ab, 0, none⟩), .bool ok] h (fun v h' => v = .bool true ∧ ActAt h' ab { A with ok := ok, mark := M.t } ∧ Chg [(ab, 232)] h h') := by
  refine xcalls env0 Tryz.func157 rfl (by kernel_rfl) rfl (by kernel_rfl) ?_
  refine ⟨_, cell_blk H rfl, _, cell_blk HR rfl, ?_⟩
  refine (mTime_spec HM).mono ?_
  rintro v h1 ⟨rfl, rfl⟩
  refine ⟨rfl, rfl, canset_blk H rfl, fun h2 s2 => ?_⟩
  have c2 := s2.chg (l := [(ab, 232)]) H (.head _)
  have H2 : ActAt h2 ab { A with mark := M.t } := s2.put H
  refine ⟨rfl, rfl, canset_blk H2 rfl, fun h3 s3 => ?_⟩
  have c3 := s3.chg (l := [(ab, 232)]) H2 (.head _)
  have H3 : ActAt h3 ab { A with mark := M.t, ok := ok } := s3.put H2
  exact ⟨rfl, H3, c2.trans c3⟩
theorem rRoom_spec (H : ActAt h ab A) (HR : RingAt h A.rb mb R) (HM : MemAt h mb cb lb M) (he : A.e = 3) {b : Nat} (hb : M.cells[R.base + 1]? = some (b : Int)) (h1 : b ≤ R.ic) (h2 : R.ic < b + R.size) (h3 : R.ic < 1000000) (h7 : R.size < 1000000) (h4 : M.cells.length < 100000000) (ht : M.t < 1000000) :
    HCalls Tryz.prog 147 #[.pointer (some ⟨ab, 0, none⟩)] h (fun v h' => v = .bool false ∧ ActAt h' ab { A with next := 158 } ∧ MemAt h' mb cb lb { M with t := M.t + 1 } ∧ Chg [(ab, 232), (mb, 134)] h h') := by
  refine xcalls env_rRoom Tryz.func147 rfl (by kernel_rfl) rfl (by kernel_rfl) ?_
  obtain ⟨rb', e', nx, vl, ok', mk, ov⟩ := A
  simp only at he
  subst he
  have b1 := HM.base_lt hb
  repeat (first | refine ⟨_, cell_blk (H) rfl, ?_⟩ | refine ⟨_, cell_blk (HR) rfl, ?_⟩)
  refine (mLoad_at HM (wrap_add1 R.base (by omega)) hb ht).mono ?_
  rintro v h1 ⟨rfl, M1, c1⟩
  have H1 := c1.blk H (by simp)
  have R1 := c1.blk HR (by simp)
  try (refine ⟨by ((repeat (first | refine ⟨cell_blk (H1) rfl, ?_⟩ | refine ⟨cell_blk (R1) rfl, ?_⟩)); exact trivial), ?_⟩)
  repeat (first | refine ⟨_, cell_blk (H1) rfl, ?_⟩ | refine ⟨_, cell_blk (R1) rfl, ?_⟩)
  refine xif_false (decide_eq_false ?_) ?_
  · show ¬ (IntKind.u64.wrap ((R.ic : Int) - b) ≥ IntKind.u64.wrap (R.size : Int))
    rw [wrap_u64 (by omega) (by omega), wrap_u64 (by omega) (by omega)]
    omega
  refine ⟨rfl, rfl, canset_blk H1 rfl, fun h2 s2 => ?_⟩
  have H2 : ActAt h2 ab ⟨rb', 3, 158, vl, ok', mk, ov⟩ := s2.put H1
  have c2 := s2.chg (l := [(ab, 232), (mb, 134)]) H1 (.head _)
  exact ⟨rfl, H2, M1.chg (s2.chg (l := [(ab, 232)]) H1 (.head _)) (by simp) (by simp) (by simp), (c1.mono (by first | (simp; done) | (intro p hp; simp [hp]; done) | (simp [ML]; done) | (intro p hp; simp [ML] at hp ⊢; rcases hp with h | h | h <;> simp [h]; done))).trans c2⟩
theorem rLay_spec (H : ActAt h ab A) (HR : RingAt h A.rb mb R) (HM : MemAt h mb cb lb M) (he : A.e = 3) (hi : R.base + (2 + R.ia) < M.cells.length) (h4 : M.cells.length < 100000000) (ht : M.t < 1000000) :
    HCalls Tryz.prog 158 #[.pointer (some ⟨ab, 0, none⟩)] h (fun v h' => v = .bool false ∧ ActAt h' ab { A with next := 166 } ∧ MemAt h' mb cb lb { M with cells := M.cells.set (R.base + (2 + R.ia)) A.value, t := M.t + 1 } ∧ Chg ((ab, 232) :: ML mb cb lb) h h') := by
  refine xcalls env_rLay Tryz.func158 rfl (by kernel_rfl) rfl (by kernel_rfl) ?_
  obtain ⟨rb', e', nx, vl, ok', mk, ov⟩ := A
  simp only at he
  subst he
  repeat (first | refine ⟨_, cell_blk (H) rfl, ?_⟩ | refine ⟨_, cell_blk (HR) rfl, ?_⟩)
  refine (mStore_at HM (i := R.base + (2 + R.ia)) ?_ rfl hi ht).mono ?_
  · rw [wrap_i64 (x := (R.base : Int) + 2) (by omega) (by omega), wrap_i64 (by omega) (by omega)]
    omega
  rintro v h1 ⟨rfl, M1, c1⟩
  have H1 := c1.blk H (by simp [ML])
  have R1 := c1.blk HR (by simp [ML])
  try (refine ⟨by ((repeat (first | refine ⟨cell_blk (H1) rfl, ?_⟩ | refine ⟨cell_blk (R1) rfl, ?_⟩)); exact trivial), ?_⟩)
  refine ⟨rfl, rfl, canset_blk H1 rfl, fun h2 s2 => ?_⟩
  have H2 : ActAt h2 ab ⟨rb', 3, 166, vl, ok', mk, ov⟩ := s2.put H1
  have c2 := s2.chg (l := [(ab, 232)]) H1 (.head _)
  exact ⟨rfl, H2, M1.chg c2 (by simp) (by simp) (by simp), (c1.mono (by first | (simp; done) | (intro p hp; simp [hp]; done) | (simp [ML]; done) | (intro p hp; simp [ML] at hp ⊢; rcases hp with h | h | h <;> simp [h]; done))).trans (c2.mono (by first | (simp; done) | (intro p hp; simp [hp]; done) | (simp [ML]; done) | (intro p hp; simp [ML] at hp ⊢; rcases hp with h | h | h <;> simp [h]; done)))⟩
theorem rMove_in (H : RingAt h rb mb R) (h3 : R.ic < 1000000) (h5 : R.ia < 1000000) (h6 : 0 < R.size) (h7 : R.size < 1000000) : HCalls Tryz.prog 171 #[.pointer (some ⟨rb, 3, none⟩), .int .i64 R.size] h (fun v h' => v = .tuple #[] ∧ RingAt h' rb mb { R with ic := R.ic + 1, ia := (R.ia + 1) % R.size } ∧ Chg [(rb, 165)] h h') := by
  refine xcalls env0 Tryz.func171 rfl (by kernel_rfl) rfl (by kernel_rfl) ?_
  repeat (first | refine ⟨_, cell_blk (H) rfl, ?_⟩)
  refine ⟨rfl, rfl, canset_blk H rfl, fun h1 s1 => ?_⟩
  have H1 : RingAt h1 rb mb { R with ic := R.ic + 1 } := by
    have := s1.put H
    rw [show IntKind.u64.wrap ((R.ic : Int) + 1) = ((R.ic + 1 : Nat) : Int) by rw [wrap_u64 (by omega) (by omega)]; omega] at this
    exact this
  repeat (first | refine ⟨_, cell_blk (H1) rfl, ?_⟩)
  refine ⟨by show (R.size : Int) ≠ 0; omega, ?_⟩
  refine ⟨rfl, rfl, canset_blk H1 rfl, fun h2 s2 => ?_⟩
  have H2 : RingAt h2 rb mb { R with ic := R.ic + 1, ia := (R.ia + 1) % R.size } := by
    have := s2.put H1
    rw [wrap_add1 R.ia (by omega), Int.tmod_eq_emod_of_nonneg (by omega), ← Int.natCast_emod] at this
    exact this
  exact ⟨rfl, H2, (s1.chg H (.head _)).trans (s2.chg H1 (.head _))⟩
theorem rMove_out (H : RingAt h rb mb R) (h3 : R.oc < 1000000) (h5 : R.oa < 1000000) (h6 : 0 < R.size) (h7 : R.size < 1000000) : HCalls Tryz.prog 171 #[.pointer (some ⟨rb, 6, none⟩), .int .i64 R.size] h (fun v h' => v = .tuple #[] ∧ RingAt h' rb mb { R with oc := R.oc + 1, oa := (R.oa + 1) % R.size } ∧ Chg [(rb, 165)] h h') := by
  refine xcalls env0 Tryz.func171 rfl (by kernel_rfl) rfl (by kernel_rfl) ?_
  repeat (first | refine ⟨_, cell_blk (H) rfl, ?_⟩)
  refine ⟨rfl, rfl, canset_blk H rfl, fun h1 s1 => ?_⟩
  have H1 : RingAt h1 rb mb { R with oc := R.oc + 1 } := by
    have := s1.put H
    rw [show IntKind.u64.wrap ((R.oc : Int) + 1) = ((R.oc + 1 : Nat) : Int) by rw [wrap_u64 (by omega) (by omega)]; omega] at this
    exact this
  repeat (first | refine ⟨_, cell_blk (H1) rfl, ?_⟩)
  refine ⟨by show (R.size : Int) ≠ 0; omega, ?_⟩
  refine ⟨rfl, rfl, canset_blk H1 rfl, fun h2 s2 => ?_⟩
  have H2 : RingAt h2 rb mb { R with oc := R.oc + 1, oa := (R.oa + 1) % R.size } := by
    have := s2.put H1
    rw [wrap_add1 R.oa (by omega), Int.tmod_eq_emod_of_nonneg (by omega), ← Int.natCast_emod] at this
    exact this
  exact ⟨rfl, H2, (s1.chg H (.head _)).trans (s2.chg H1 (.head _))⟩
theorem rTell_spec (H : ActAt h ab A) (HR : RingAt h A.rb mb R) (HM : MemAt h mb cb lb M) (he : A.e = 3) (hi : R.base < M.cells.length) (h3 : R.ic < 1000000) (h5 : R.ia < 1000000) (h6 : 0 < R.size) (h7 : R.size < 1000000) (h4 : M.cells.length < 100000000) (ht : M.t < 1000000) :
    HCalls Tryz.prog 166 #[.pointer (some ⟨ab, 0, none⟩)] h (fun v h' => v = .bool true ∧ ActAt h' ab { A with ok := true, mark := (M.t + 1 : Nat) } ∧ RingAt h' A.rb mb { R with ic := R.ic + 1, ia := (R.ia + 1) % R.size } ∧ MemAt h' mb cb lb { M with cells := M.cells.set R.base ((R.ic + 1 : Nat) : Int), t := M.t + 1 } ∧ Chg ((ab, 232) :: (A.rb, 165) :: ML mb cb lb) h h') := by
  refine xcalls env_rTell Tryz.func166 rfl (by kernel_rfl) rfl (by kernel_rfl) ?_
  obtain ⟨rb', e', nx, vl, ok', mk, ov⟩ := A
  simp only at he
  subst he
  have nr : ab ≠ rb' := blk_ne H HR (by decide)
  repeat (first | refine ⟨_, cell_blk (H) rfl, ?_⟩ | refine ⟨_, cell_blk (HR) rfl, ?_⟩)
  refine (rMove_in HR h3 h5 h6 h7).mono ?_
  rintro v h1 ⟨rfl, R1, c1⟩
  have H1 := c1.blk H (by simp)
  have M1 := HM.chg c1 (by simp) (by simp) (by simp)
  try (refine ⟨by ((repeat (first | refine ⟨cell_blk (H1) rfl, ?_⟩ | refine ⟨cell_blk (R1) rfl, ?_⟩)); exact trivial), ?_⟩)
  repeat (first | refine ⟨_, cell_blk (H1) rfl, ?_⟩ | refine ⟨_, cell_blk (R1) rfl, ?_⟩)
  refine (mStore_at M1 (i := R.base) (wrap_add0 R.base (by omega)) rfl hi ht).mono ?_
  rintro v h2 ⟨rfl, M2, c2⟩
  have H2 := c2.blk H1 (by simp [ML])
  have R2 := c2.blk R1 (by simp [ML])
  try (refine ⟨by ((repeat (first | refine ⟨cell_blk (H2) rfl, ?_⟩ | refine ⟨cell_blk (R2) rfl, ?_⟩)); exact trivial), ?_⟩)
  refine (rDone_spec H2 R2 M2 true).mono ?_
  rintro v h3 ⟨rfl, H3, c3⟩
  exact ⟨rfl, H3, c3.blk R2 (by simp), M2.chg c3 (by simp) (by simp) (by simp), ((c1.mono (by first | (simp; done) | (intro p hp; simp [hp]; done) | (simp [ML]; done) | (intro p hp; simp [ML] at hp ⊢; rcases hp with h | h | h <;> simp [h]; done))).trans (c2.mono (by first | (simp; done) | (intro p hp; simp [hp]; done) | (simp [ML]; done) | (intro p hp; simp [ML] at hp ⊢; rcases hp with h | h | h <;> simp [h]; done)))).trans (c3.mono (by first | (simp; done) | (intro p hp; simp [hp]; done) | (simp [ML]; done) | (intro p hp; simp [ML] at hp ⊢; rcases hp with h | h | h <;> simp [h]; done)))⟩
theorem Stored.same {a : Addr} {vs ws : List Value} {T : TypeId} {h h' : Heap} (s : Stored h a vs h') (hb : h[a.block]? = some (.cells ws.toArray T (0, 0))) (e : lset ws a.off vs = ws) : h' = h := by
  refine Array.ext s.size fun i h1 h2 => ?_
  have hk : h'[i]? = h[i]? := by
    by_cases e' : i = a.block
    · subst e'
      rw [s.this _ _ _ hb, wr_list, e, hb]
    · exact s.other i e'
  rw [Array.getElem?_eq_getElem h1, Array.getElem?_eq_getElem h2] at hk
  exact Option.some.inj hk
/-- A step that isn't the last one. -/
theorem rStep_go {K : Heap → Prop} (H : ActAt h ab A) (ho : A.over = false) (hn : HCalls Tryz.prog A.next #[.pointer (some ⟨ab, 0, none⟩)] h (fun v h' => v = .bool false ∧ (∃ A' : AS, A'.over = false ∧ ActAt h' ab A') ∧ K h')) :
    HCalls Tryz.prog 148 #[.pointer (some ⟨ab, 0, none⟩)] h (fun v h' => v = .bool false ∧ K h') := by
  refine xcalls env0 Tryz.func148 rfl (by kernel_rfl) rfl (by kernel_rfl) ?_
  refine (rOver_spec H).mono ?_
  rintro v h1 ⟨rfl, rfl⟩
  refine xif_false ho ?_
  repeat (first | refine ⟨_, cell_blk (H) rfl, ?_⟩)
  refine hn.mono ?_
  rintro v h2 ⟨rfl, ⟨A', ho', H2⟩, k⟩
  obtain ⟨rb', e', nx, vl, ok', mk, ov⟩ := A'
  simp only at ho'
  subst ho'
  refine ⟨rfl, rfl, canset_blk H2 rfl, fun h3 s3 => ?_⟩
  have e : h3 = h2 := s3.same H2 rfl
  subst e
  repeat (first | refine ⟨_, cell_blk (H2) rfl, ?_⟩)
  exact ⟨rfl, k⟩
/-- The last step of a put. -/
theorem rStep_put {K : AS → RS → Heap → Prop} (H : ActAt h ab A) (ho : A.over = false) (hn : HCalls Tryz.prog A.next #[.pointer (some ⟨ab, 0, none⟩)] h (fun v h' => v = .bool true ∧ ∃ A' R', A'.over = false ∧ A'.e = 3 ∧ ActAt h' ab A' ∧ RingAt h' A'.rb mb R' ∧ K A' R' h')) :
    HCalls Tryz.prog 148 #[.pointer (some ⟨ab, 0, none⟩)] h (fun v h' => v = .bool true ∧ ∃ A' R' h1, K A' R' h1 ∧ ActAt h' ab { A' with over := true } ∧ RingAt h' A'.rb mb { R' with ib := false } ∧ Chg [(ab, 232), (A'.rb, 165)] h1 h') := by
  refine xcalls env0 Tryz.func148 rfl (by kernel_rfl) rfl (by kernel_rfl) ?_
  refine (rOver_spec H).mono ?_
  rintro v h1 ⟨rfl, rfl⟩
  refine xif_false ho ?_
  repeat (first | refine ⟨_, cell_blk (H) rfl, ?_⟩)
  refine hn.mono ?_
  rintro v h2 ⟨rfl, A', R', ho', he', H2, R2, k⟩
  obtain ⟨rb', e', nx, vl, ok', mk, ov⟩ := A'
  simp only at ho' he'
  subst ho'
  subst he'
  refine ⟨rfl, rfl, canset_blk H2 rfl, fun h3 s3 => ?_⟩
  have H3 : ActAt h3 ab ⟨rb', 3, nx, vl, ok', mk, true⟩ := s3.put H2
  have c3 := s3.chg (l := [(ab, 232)]) H2 (.head _)
  have R3 := c3.blk R2 (by simp)
  repeat (first | refine ⟨_, cell_blk (H3) rfl, ?_⟩)
  refine ⟨rfl, rfl, canset_blk R3 rfl, fun h4 s4 => ?_⟩
  have R4 : RingAt h4 rb' mb { R' with ib := false } := s4.put R3
  have c4 := s4.chg (l := [(rb', 165)]) R3 (.head _)
  have H4 := c4.blk H3 (by simp)
  repeat (first | refine ⟨_, cell_blk (H4) rfl, ?_⟩)
  exact ⟨rfl, _, R', h2, k, H4, R4, (c3.mono (by first | (simp; done) | (intro p hp; simp [hp]; done) | (simp [ML]; done) | (intro p hp; simp [ML] at hp ⊢; rcases hp with h | h | h <;> simp [h]; done))).trans (c4.mono (by first | (simp; done) | (intro p hp; simp [hp]; done) | (simp [ML]; done) | (intro p hp; simp [ML] at hp ⊢; rcases hp with h | h | h <;> simp [h]; done)))⟩
/-- The last step of a taking. -/
theorem rStep_got {K : AS → RS → Heap → Prop} (H : ActAt h ab A) (ho : A.over = false) (hn : HCalls Tryz.prog A.next #[.pointer (some ⟨ab, 0, none⟩)] h (fun v h' => v = .bool true ∧ ∃ A' R', A'.over = false ∧ A'.e = 6 ∧ ActAt h' ab A' ∧ RingAt h' A'.rb mb R' ∧ K A' R' h')) :
    HCalls Tryz.prog 148 #[.pointer (some ⟨ab, 0, none⟩)] h (fun v h' => v = .bool true ∧ ∃ A' R' h1, K A' R' h1 ∧ ActAt h' ab { A' with over := true } ∧ RingAt h' A'.rb mb { R' with ob := false } ∧ Chg [(ab, 232), (A'.rb, 165)] h1 h') := by
  refine xcalls env0 Tryz.func148 rfl (by kernel_rfl) rfl (by kernel_rfl) ?_
  refine (rOver_spec H).mono ?_
  rintro v h1 ⟨rfl, rfl⟩
  refine xif_false ho ?_
  repeat (first | refine ⟨_, cell_blk (H) rfl, ?_⟩)
  refine hn.mono ?_
  rintro v h2 ⟨rfl, A', R', ho', he', H2, R2, k⟩
  obtain ⟨rb', e', nx, vl, ok', mk, ov⟩ := A'
  simp only at ho' he'
  subst ho'
  subst he'
  refine ⟨rfl, rfl, canset_blk H2 rfl, fun h3 s3 => ?_⟩
  have H3 : ActAt h3 ab ⟨rb', 6, nx, vl, ok', mk, true⟩ := s3.put H2
  have c3 := s3.chg (l := [(ab, 232)]) H2 (.head _)
  have R3 := c3.blk R2 (by simp)
  repeat (first | refine ⟨_, cell_blk (H3) rfl, ?_⟩)
  refine ⟨rfl, rfl, canset_blk R3 rfl, fun h4 s4 => ?_⟩
  have R4 : RingAt h4 rb' mb { R' with ob := false } := s4.put R3
  have c4 := s4.chg (l := [(rb', 165)]) R3 (.head _)
  have H4 := c4.blk H3 (by simp)
  repeat (first | refine ⟨_, cell_blk (H4) rfl, ?_⟩)
  exact ⟨rfl, _, R', h2, k, H4, R4, (c3.mono (by first | (simp; done) | (intro p hp; simp [hp]; done) | (simp [ML]; done) | (intro p hp; simp [ML] at hp ⊢; rcases hp with h | h | h <;> simp [h]; done))).trans (c4.mono (by first | (simp; done) | (intro p hp; simp [hp]; done) | (simp [ML]; done) | (intro p hp; simp [ML] at hp ⊢; rcases hp with h | h | h <;> simp [h]; done)))⟩
end
end Go.Proofs.YthoikbogkhpciaaGreatDoorE
