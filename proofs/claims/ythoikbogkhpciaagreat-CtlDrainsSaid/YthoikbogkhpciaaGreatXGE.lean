/- A number is put where it waits, if there is room; how many wait. Conditions: none. -/
import Derived.Test.YthoikbogkhpciaaGreatXGD
set_option linter.unusedVariables false
set_option linter.unusedSimpArgs false
set_option maxRecDepth 100000
namespace Go.Proofs.YthoikbogkhpciaaGreatE
open Go Go.Proofs
def env_rRoom2 : Nat → Ann
  | 1 => ⟨.op 0 [] <| .op 1 [] <| .op 2 [] <| .op 3 [] <| .op 4 [] <| .op 5 [] <| .op 6 [] <| .op 7 [] <| .op 8 [] <| .op 9 [] <| .op 10 [] <| .op 11 [] <| .op 12 [] <| .op 13 [] <| .op 14 [] <| .op 15 [] <| .op 16 [] <| .op 17 [] <| .op 18 [] <| .op 19 [] <| .op 20 [] <| .op 21 [] <| .op 24 [] <| .op 25 [] <| .op 26 [] <| .op 27 [] <| .op 28 [] <| .op 29 [] <| .op 30 [] <| .op 31 [] <| .op 22 [3, 6, 27, 30] <| .op 23 [] <| .op 32 [] <| .nil, [0, 1, 3, 7, 15, 31, 63, 0, 128, 384, 896, 1920, 3968, 8064, 0, 16384, 49152, 114688, 245760, 507904, 1032192, 2080768, 4194176, 8388607, 0, 16777216, 50331648, 117440512, 251658240, 520093696, 1056964608, 2130706432, 4294967295], false⟩
  | _ => ⟨.nil, [], false⟩
section
variable {h h' : Heap} {ab mb cb lb : Nat} {M : MemS} {R : RS} {A : AS}
theorem rRoom_no (H : ActAt h ab A) (HR : RingAt h A.rb mb R) (HM : MemAt h mb cb lb M) (he : A.e = 3) {b : Nat} (hb : M.cells[R.base + 1]? = some (b : Int)) (h1 : b ≤ R.ic) (h2 : b + R.size ≤ R.ic) (h3 : R.ic < 1000000) (h7 : R.size < 1000000) (h4 : M.cells.length < 100000000) (ht : M.t < 1000000) :
    HCalls Tryz.prog 103 #[.pointer (some ⟨ab, 0, none⟩)] h (fun v h' => v = .bool true ∧ ActAt h' ab { A with ok := false, mark := ((M.t + 1 : Nat) : Int) } ∧ RingAt h' A.rb mb R ∧ MemAt h' mb cb lb { M with t := M.t + 1 } ∧ Chg [(ab, 182), (mb, 176)] h h') := by
  refine xcalls env_rRoom2 Tryz.func103 rfl (by kernel_rfl) rfl (by kernel_rfl) ?_
  obtain ⟨rb', e', nx, vl, ok', mk, ov⟩ := A
  simp only at he
  subst he
  have b1 := HM.base_lt hb
  repeat (first | refine ⟨_, cell_blk (H) rfl, ?_⟩ | refine ⟨_, cell_blk (HR) rfl, ?_⟩)
  refine (mLoad_at HM (wrap_add1 R.base (by omega)) hb ht).mono ?_
  rintro v h1 ⟨rfl, M1, c1⟩
  have H1 := c1.blk H (by simp)
  have R1 := c1.blk HR (by simp)
  try (refine ⟨by ((repeat (first | refine ⟨cell_blk (H1) rfl, ?_⟩ | refine ⟨cell_blk (R1) rfl, ?_⟩)); exact trivial), ?_⟩)
  repeat (first | refine ⟨_, cell_blk (H1) rfl, ?_⟩ | refine ⟨_, cell_blk (R1) rfl, ?_⟩)
  refine xif_true (decide_eq_true ?_) ?_
  · show IntKind.u64.wrap ((R.ic : Int) - b) ≥ IntKind.u64.wrap (R.size : Int)
    rw [wrap_u64 (by omega) (by omega), wrap_u64 (by omega) (by omega)]
    omega
  refine (rDone_spec H1 R1 M1 false).mono ?_
  rintro v h2 ⟨rfl, H2, c2⟩
  exact ⟨rfl, H2, c2.blk R1 (by simp), M1.chg c2 (by simp) (by simp) (by simp), (c1.mono (by simp)).trans (c2.mono (by simp))⟩
end
/-- A put that is under way: behind k steps. -/
def PutK (F : Fb) (h0 : Heap) (M : MemS) (a b pb : Nat) (R : RS) (y : Int) (k : Nat) (h : Heap) : Prop :=
  RingAt h (F.rb a b) F.mb { R with ib := true } ∧ Chg ((pb, 182) :: (F.rb a b, 151) :: ML F.mb F.cb F.lb) h0 h ∧ match k with
    | 0 => ActAt h pb ⟨F.rb a b, 3, 103, y, false, 0, false⟩ ∧ MemAt h F.mb F.cb F.lb M
    | 1 => ActAt h pb ⟨F.rb a b, 3, 145, y, false, 0, false⟩ ∧ MemAt h F.mb F.cb F.lb { M with t := M.t + 1 }
    | 2 => ActAt h pb ⟨F.rb a b, 3, 179, y, false, 0, false⟩ ∧ MemAt h F.mb F.cb F.lb { M with cells := M.cells.set (R.base + (2 + R.ia)) y, t := M.t + 1 + 1 }
    | _ => False
/-- What a step of the memory's leaves, some times. -/
structure Near3 (F : Fb) (M M' : MemS) : Prop where
  t1 : M.t ≤ M'.t
  t3 : M'.t ≤ M.t + 3
  locks : M'.locks = M.locks
  len : M'.cells.length = M.cells.length
  low : ∀ k, k < F.b0 → M'.cells[k]? = M.cells[k]?
section
variable {h h' : Heap} {B : Nat} {F : Fb} {M : MemS} {L : Nat → Nat → List Int}
theorem lPut_spec (W : Rings h B F M L no2 no2) (H : FabAt h F) (HM : MemAt h F.mb F.cb F.lb M) (b1 : B ≤ F.mb) (b2 : B ≤ F.cb) (b3 : B ≤ F.lb) (hB : B ≤ h.size) {a b : Nat} (ha : a < F.P) (hb : b < F.P) {y : Int} (y0 : 0 ≤ y) (y1 : y < 1000000) (ht : M.t < 900000) :
    HCalls Tryz.prog 38 #[.pointer (some ⟨F.fb, 0, none⟩), .int .i64 a, .int .i64 b, .int .i64 y] h (fun v h' => ∃ M' pb, Near3 F M M' ∧ FabAt h' F ∧ MemAt h' F.mb F.cb F.lb M' ∧ h.size ≤ pb ∧ Chg ((pb, 182) :: (F.rb a b, 151) :: ML F.mb F.cb F.lb) h h' ∧
      ((v = .bool true ∧ Rings h' B F M' (up2 L a b (L a b ++ [y])) no2 no2) ∨ (v = .bool false ∧ Rings h' B F M' L no2 no2))) := by
  obtain ⟨R, r0, Q, small, hi, hob⟩ := W.ring a b ha hb
  have big := W.big
  have hbase := Q.base
  have hsz := Q.size
  have oa := Q.oa
  have hic := Q.ic
  have hlen := Q.len
  have hS64 := H.s2
  have hS : 0 < F.S := by omega
  have hia : R.ia < F.S := by rw [Q.ia]; exact Nat.mod_lt _ hS
  have hge : F.b0 ≤ bs F.b0 F.P F.S b a := by unfold bs; omega
  have gr := W.ge a b ha hb
  have hin : ∀ o, o < F.S + 2 → R.base + o < M.cells.length := fun o ho => by
    have := bs_in (b0 := F.b0) ha hb ho
    have := W.len
    rw [hbase]
    omega
  refine xcalls env0 Tryz.func38 rfl (by kernel_rfl) rfl (by kernel_rfl) ?_
  refine (cRing_spec H ha hb).mono ?_
  rintro v h0 ⟨rfl, rfl⟩
  refine (rPush_spec r0 hi (IntKind.u64.wrap y)).mono ?_
  rintro v h1 ⟨pb, rfl, gpb, A1, R1, c1⟩
  rw [wrap_u64 y0 (by omega)] at A1
  have K0 : PutK F h0 M a b pb R y 0 h1 := ⟨R1, c1.mono (by first | (simp; done) | (intro p hp; simp [hp]; done) | (simp [ML]; done) | (intro p hp; simp [ML] at hp ⊢; rcases hp with h | h | h <;> simp [h]; done)), A1, HM.chg c1 (by simp) (by simp) (by simp)⟩
  have fr : ∀ g, Chg ((pb, 182) :: (F.rb a b, 151) :: ML F.mb F.cb F.lb) h0 g → ChgT B TyD h0 g := fun g c => c.chgT hB fun p hp => by
    simp [ML] at hp
    rcases hp with rfl | rfl | rfl | rfl | rfl
    · exact ⟨Nat.le_trans hB gpb, by simp [TyD]⟩
    · exact ⟨gr, by simp [TyD]⟩
    · exact ⟨b1, by simp [TyD, TyC]⟩
    · exact ⟨b2, by simp [TyD, TyC]⟩
    · exact ⟨b3, by simp [TyD, TyC]⟩
  have nl : ∀ k, (k, 151) ∈ ((pb, 182) :: (F.rb a b, 151) :: ML F.mb F.cb F.lb) → k = F.rb a b := by
    intro k hk; simp [ML] at hk; exact hk
  refine ⟨Nat, fun i => [(9, .pointer (some ⟨pb, 0, none⟩)), (10, .int .i64 i)], fun i h' => i < 3 ∧ (0 < i → (L a b).length < F.S) ∧ PutK F h0 M a b pb R y i h', fun i => 3 - i, 0, ⟨rfl, rfl, trivial⟩, ⟨by omega, fun g => absurd g (by decide), K0⟩, ?_⟩
  rintro i h2 ⟨hi3, hrm, R2, c2, K2⟩
  have big2 : ∀ (x : Int) (p : Nat), (M.cells.set p x).length = M.cells.length := fun _ _ => List.length_set ..
  match i, hi3, hrm, K2 with
  | 0, _, _, ⟨A2, M2⟩ =>
    have hct := Q.ct
    rw [← hbase] at hct
    rcases Nat.lt_or_ge (L a b).length F.S with g | g
    · refine (rStep_go (K := fun g => PutK F h0 M a b pb R y 1 g) A2 rfl ((rRoom_spec A2 R2 M2 rfl hct (by show R.oc ≤ R.ic; omega) (by show R.ic < R.oc + R.size; omega) (by show R.ic < 1000000; omega) (by show R.size < 1000000; omega) (by omega) (by omega)).mono ?_)).mono ?_
      · rintro v h3 ⟨rfl, A3, M3, c3⟩
        exact ⟨rfl, ⟨_, rfl, A3⟩, c3.blk R2 (by simp), c2.trans (c3.mono (by first | (simp; done) | (intro p hp; simp [hp]; done) | (simp [ML]; done) | (intro p hp; simp [ML] at hp ⊢; rcases hp with h | h | h <;> simp [h]; done))), A3, M3⟩
      · rintro v h3 ⟨rfl, K3⟩
        exact ⟨1, ⟨rfl, rfl, trivial⟩, ⟨by omega, fun _ => g, K3⟩, by decide⟩
    · refine (rStep_put (mb := F.mb) (K := fun A' R' g => A' = ⟨F.rb a b, 3, 103, y, false, ((M.t + 1 : Nat) : Int), false⟩ ∧ R' = { R with ib := true } ∧ MemAt g F.mb F.cb F.lb { M with t := M.t + 1 } ∧ Chg [(pb, 182), (F.mb, 176)] h2 g) A2 rfl ((rRoom_no A2 R2 M2 rfl hct (by show R.oc ≤ R.ic; omega) (by show R.oc + R.size ≤ R.ic; omega) (by show R.ic < 1000000; omega) (by show R.size < 1000000; omega) (by omega) (by omega)).mono ?_)).mono ?_
      · rintro v h3 ⟨rfl, A3, R3, M3, c3⟩
        exact ⟨rfl, _, _, rfl, rfl, A3, R3, rfl, rfl, M3, c3⟩
      · rintro v h4 ⟨rfl, A', R', h3, ⟨rfl, rfl, M3, c3⟩, A4, R4, c4⟩
        have c : Chg ((pb, 182) :: (F.rb a b, 151) :: ML F.mb F.cb F.lb) h0 h4 := c2.trans ((c3.mono (by first | (simp; done) | (intro p hp; simp [hp]; done) | (simp [ML]; done) | (intro p hp; simp [ML] at hp ⊢; rcases hp with h | h | h <;> simp [h]; done))).trans (c4.mono (by first | (simp; done) | (intro p hp; simp [hp]; done) | (simp [ML]; done) | (intro p hp; simp [ML] at hp ⊢; rcases hp with h | h | h <;> simp [h]; done))))
        refine (rOk_spec A4).mono ?_
        rintro v h5 ⟨rfl, rfl⟩
        refine ⟨{ M with t := M.t + 1 }, pb, ⟨Nat.le_succ _, by show M.t + 1 ≤ M.t + 3; omega, rfl, rfl, fun _ _ => rfl⟩, H.chgT (fr _ c) (by decide) (by decide) (by decide) (by decide) (by decide), M3.chg c4 (by simp) (by simp) (by simp), gpb, c, .inr ⟨rfl, ?_⟩⟩
        have := W.one (M' := { M with t := M.t + 1 }) (q' := L a b) (i' := false) (o' := false) c ha hb nl R4 rfl (fun _ _ => rfl) ⟨Q.base, Q.size, Q.len, Q.ic, Q.oa, Q.ia, Q.cp, Q.ct, Q.cx⟩ (Nat.le_succ_of_le small) rfl hob
        rwa [up2_id rfl, up2_id (show no2 a b = false from rfl)] at this
  | 1, _, hrm, ⟨A2, M2⟩ =>
    refine (rStep_go (K := fun g => PutK F h0 M a b pb R y 2 g) A2 rfl ((rLay_spec A2 R2 M2 rfl (by show R.base + (2 + R.ia) < M.cells.length; exact hin _ (by omega)) (by show M.cells.length < 100000000; omega) (by show M.t + 1 < 1000000; omega)).mono ?_)).mono ?_
    · rintro v h3 ⟨rfl, A3, M3, c3⟩
      exact ⟨rfl, ⟨_, rfl, A3⟩, c3.blk R2 (by simp [ML]), c2.trans (c3.mono (by first | (simp; done) | (intro p hp; simp [hp]; done) | (simp [ML]; done) | (intro p hp; simp [ML] at hp ⊢; rcases hp with h | h | h <;> simp [h]; done))), A3, M3⟩
    · rintro v h3 ⟨rfl, K3⟩
      exact ⟨2, ⟨rfl, rfl, trivial⟩, ⟨by omega, fun _ => hrm (by decide), K3⟩, by decide⟩
  | 2, _, hrm, ⟨A2, M2⟩ =>
    have hroom : (L a b).length < F.S := hrm (by decide)
    refine (rStep_put (mb := F.mb) (K := fun A' R' g => A' = ⟨F.rb a b, 3, 179, y, true, ((M.t + 1 + 1 + 1 : Nat) : Int), false⟩ ∧ R' = { R with ib := true, ic := R.ic + 1, ia := (R.ia + 1) % R.size } ∧ MemAt g F.mb F.cb F.lb { M with cells := (M.cells.set (R.base + (2 + R.ia)) y).set R.base ((R.ic + 1 : Nat) : Int), t := M.t + 1 + 1 + 1 } ∧ Chg ((pb, 182) :: (F.rb a b, 151) :: ML F.mb F.cb F.lb) h2 g) A2 rfl ((rTell_spec A2 R2 M2 rfl (by show R.base < (M.cells.set _ _).length; rw [big2]; exact hin 0 (by omega)) (by show R.ic < 1000000; omega) (by show R.ia < 1000000; omega) (by show 0 < R.size; omega) (by show R.size < 1000000; omega) (by show (M.cells.set _ _).length < 100000000; rw [big2]; omega) (by show M.t + 1 + 1 < 1000000; omega)).mono ?_)).mono ?_
    · rintro v h3 ⟨rfl, A3, R3, M3, c3⟩
      exact ⟨rfl, _, _, rfl, rfl, A3, R3, rfl, rfl, M3, c3⟩
    · rintro v h4 ⟨rfl, A', R', h3, ⟨rfl, rfl, M3, c3⟩, A4, R4, c4⟩
      have c : Chg ((pb, 182) :: (F.rb a b, 151) :: ML F.mb F.cb F.lb) h0 h4 := c2.trans (c3.trans (c4.mono (by first | (simp; done) | (intro p hp; simp [hp]; done) | (simp [ML]; done) | (intro p hp; simp [ML] at hp ⊢; rcases hp with h | h | h <;> simp [h]; done))))
      refine (rOk_spec A4).mono ?_
      rintro v h5 ⟨rfl, rfl⟩
      have M4 := M3.chg c4 (by simp) (by simp) (by simp)
      rw [hbase] at M4
      have hll : bs F.b0 F.P F.S b a + (2 + R.ia) < M.cells.length := by rw [← hbase]; exact hin _ (by omega)
      obtain ⟨Q1, hx⟩ := Q.lay (y := y) hroom hll
      have Q2 := Q1.tell (ib := false) (m := (R.ia + 1) % R.size) hroom hx (by rw [hsz])
      refine ⟨{ M with cells := (M.cells.set (bs F.b0 F.P F.S b a + (2 + R.ia)) y).set (bs F.b0 F.P F.S b a) ((R.ic + 1 : Nat) : Int), t := M.t + 1 + 1 + 1 }, pb, ⟨by show M.t ≤ M.t + 1 + 1 + 1; omega, by show M.t + 1 + 1 + 1 ≤ M.t + 3; omega, rfl, by rw [List.length_set, List.length_set], fun k hk => by rw [List.getElem?_set_ne (by omega), List.getElem?_set_ne (by omega)]⟩, H.chgT (fr _ c) (by decide) (by decide) (by decide) (by decide) (by decide), M4, gpb, c, .inl ⟨rfl, ?_⟩⟩
      have := W.one (M' := { M with cells := (M.cells.set (bs F.b0 F.P F.S b a + (2 + R.ia)) y).set (bs F.b0 F.P F.S b a) ((R.ic + 1 : Nat) : Int), t := M.t + 1 + 1 + 1 }) (q' := L a b ++ [y]) (i' := false) (o' := false) c ha hb nl R4 (by rw [List.length_set, List.length_set]) (fun k hk => by rw [List.getElem?_set_ne (by have := hk 0 (by omega); omega), List.getElem?_set_ne (by have := hk (2 + R.ia) (by omega); omega)]) Q2 (by show R.ic + 1 ≤ M.t + 1 + 1 + 1; omega) rfl hob (by show M.t ≤ M.t + 1 + 1 + 1; omega)
      rwa [up2_id (show no2 a b = false from rfl)] at this
/-- How many wait. -/
theorem ring_len (W : Rings h B F M L no2 no2) (HM : MemAt h F.mb F.cb F.lb M) {a b : Nat} (ha : a < F.P) (hb : b < F.P) (ht : M.t < 900000) : HCalls Tryz.prog 40 #[.pointer (some ⟨F.rb a b, 0, none⟩)] h (fun v h' => v = .int .i64 ((L a b).length : Int) ∧ h' = h) := by
  obtain ⟨R, r0, Q, small, hi, hob⟩ := W.ring a b ha hb
  have big := W.big
  have hic := Q.ic
  refine (rLen_spec r0 HM (a := R.ic) (b := R.oc) (by rw [Q.base]; exact Q.cp) (by rw [Q.base]; exact Q.ct) (by omega) (by omega) (by omega)).mono ?_
  rintro v h1 ⟨rfl, rfl⟩
  exact ⟨by rw [hic, Nat.add_sub_cancel_left], rfl⟩
end
theorem rings_fresh {h0 h : Heap} {F : Fb} {M : MemS} (Fr : Fresh h0 h F M) : Rings h h0.size F M (fun _ _ => []) no2 no2 := by
  refine ⟨fun a b ha hb => ⟨R0 F.b0 F.P F.S a b, (Fr.ring a b ha hb).1, ?_, Nat.zero_le _, rfl, rfl⟩, Fr.inj, fun a b ha hb => (Fr.ring a b ha hb).2, Fr.len, Fr.big⟩
  have hc : ∀ o, o < F.S + 2 → M.cells[bs F.b0 F.P F.S b a + o]? = some 0 := by
    intro o ho
    refine Fr.high _ (by unfold bs; omega) ?_
    have := bs_in (b0 := F.b0) ha hb ho
    have := Fr.len
    omega
  have hs := Fr.fab.s1
  exact ⟨rfl, rfl, Nat.zero_le _, rfl, by show 0 < F.S; omega, (Nat.zero_mod _).symm, hc 0 (by omega), hc 1 (by omega), fun i x hx => by simp at hx⟩
end Go.Proofs.YthoikbogkhpciaaGreatE
