/- An egress: a number is taken, and told; the lock is left. Conditions: something waits at the ring that is next. -/
import Derived.Test.YthoikbogkhpciaaGreatXF8
set_option linter.unusedVariables false
set_option linter.unusedSimpArgs false
set_option maxRecDepth 100000
namespace Go.Proofs.YthoikbogkhpciaaGreatE
open Go Go.Proofs
def env_eTake2 : Nat → Ann
  | 5 => ⟨.op 0 [] <| .op 1 [] <| .op 2 [] <| .op 3 [] <| .op 6 [] <| .op 7 [] <| .op 8 [] <| .op 9 [] <| .op 4 [9] <| .op 5 [] <| .op 10 [] <| .op 11 [] <| .op 12 [] <| .nil, [0, 1, 3, 7, 15, 31, 0, 64, 192, 448, 991, 2047, 4095], false⟩
  | 7 => ⟨.op 0 [] <| .op 1 [] <| .op 2 [] <| .op 3 [] <| .op 4 [] <| .alt (.op 5 [3] <| .op 6 [] <| .op 7 [3] <| .op 8 [] <| .nil) (.op 7 [3] <| .op 5 [3] <| .op 6 [] <| .op 8 [] <| .nil), [0, 1, 3, 7, 0, 16, 63, 0, 255], false⟩
  | 8 => ⟨.op 0 [] <| .op 1 [] <| .op 2 [] <| .op 3 [] <| .op 4 [] <| .op 5 [] <| .op 6 [] <| .op 7 [] <| .op 8 [] <| .op 9 [] <| .op 10 [] <| .op 11 [] <| .op 12 [] <| .op 13 [] <| .op 14 [] <| .op 15 [] <| .op 16 [] <| .op 18 [] <| .op 20 [] <| .op 21 [] <| .op 23 [] <| .op 24 [] <| .op 25 [] <| .op 26 [] <| .op 27 [] <| .op 29 [] <| .op 17 [4, 8, 12, 20, 26, 29] <| .op 19 [4, 8, 12, 20, 26, 29] <| .op 22 [] <| .op 28 [4, 8, 12, 20, 26, 29] <| .op 30 [] <| .op 31 [4] <| .op 32 [] <| .op 33 [] <| .op 34 [] <| .op 35 [] <| .nil, [0, 0, 2, 6, 14, 0, 32, 96, 224, 0, 512, 1536, 3584, 0, 8192, 24576, 57344, 122880, 0, 516096, 0, 0, 4194272, 0, 8388608, 25165824, 58720256, 0, 135258112, 0, 1066393600, 2147483616, 4294967294, 8589934591, 17179869183, 34359738367], true⟩
  | _ => ⟨.nil, [], false⟩
def env_eDone : Nat → Ann
  | 1 => ⟨.op 0 [] <| .op 1 [] <| .op 2 [] <| .op 3 [] <| .op 4 [] <| .op 5 [] <| .op 6 [] <| .op 7 [] <| .op 8 [] <| .op 9 [] <| .op 10 [] <| .op 11 [] <| .nil, [0, 1, 3, 7, 0, 16, 48, 112, 240, 496, 1023, 2047], false⟩
  | 2 => ⟨.nil, [], true⟩
  | 3 => ⟨.op 0 [] <| .op 1 [] <| .op 2 [] <| .op 3 [] <| .op 4 [] <| .op 5 [] <| .op 6 [] <| .op 7 [] <| .op 8 [] <| .op 11 [] <| .op 12 [] <| .op 13 [] <| .op 14 [] <| .op 16 [] <| .op 17 [] <| .op 18 [] <| .op 19 [] <| .op 20 [] <| .op 21 [] <| .op 9 [4, 14, 19] <| .op 10 [] <| .op 15 [4, 19] <| .op 22 [4, 19] <| .op 23 [] <| .op 24 [4] <| .op 25 [] <| .op 26 [] <| .op 27 [] <| .op 28 [] <| .nil, [0, 0, 2, 6, 14, 0, 32, 96, 224, 480, 992, 0, 2048, 6144, 14336, 31712, 0, 65536, 196608, 458752, 0, 0, 2161632, 8388576, 16777184, 33554430, 67108863, 134217727, 268435455], false⟩
  | _ => ⟨.nil, [], false⟩
def env_eStand : Nat → Ann
  | 1 => ⟨.op 0 [] <| .op 1 [] <| .op 2 [] <| .op 3 [] <| .op 4 [] <| .op 5 [] <| .op 6 [] <| .op 7 [] <| .op 8 [] <| .op 9 [] <| .op 10 [] <| .op 11 [] <| .op 12 [] <| .nil, [0, 1, 3, 7, 0, 16, 48, 112, 255, 511, 1023, 2047, 4095], false⟩
  | _ => ⟨.nil, [], false⟩
def env_eUnlock : Nat → Ann
  | 1 => ⟨.op 0 [] <| .op 1 [] <| .op 2 [] <| .op 3 [] <| .op 4 [] <| .op 5 [] <| .op 6 [] <| .op 7 [] <| .op 8 [] <| .op 9 [] <| .op 10 [] <| .op 11 [] <| .op 12 [] <| .nil, [0, 1, 3, 7, 0, 16, 48, 112, 0, 256, 768, 1792, 4095], false⟩
  | _ => ⟨.nil, [], false⟩
section
variable {h h' : Heap} {B : Nat} {F : Fb} {e : Eg} {v n t T : Nat} {sents : List Sn} {x : EgV}
theorem hsInfo : (Tryz.prog.info? 75).map (fun i => (i.size, i.bytes)) = some (19, 144) := by kernel_rfl
theorem snInfo : (Tryz.prog.info? 51).map (fun i => (i.size, i.bytes)) = some (5, 40) := by kernel_rfl
theorem snZero : xzero Tryz.prog 51 = some (encSent ⟨0, 0, 0, 0, 0⟩) := by kernel_rfl
theorem hsZero : xzero Tryz.prog 75 = some (encHe he0) := by kernel_rfl
theorem KeepA.toChg {h h' : Heap} {A : Option Addr} {α : Type} {enc : α → List Value} {sz : Nat} {T : TypeId} {base c : Nat} {xs : List α} (k : KeepA A h h') (o : OwnA enc sz T base h A c xs) : ∃ l, Chg l h h' ∧ ∀ p ∈ l, p.2 = T ∧ base ≤ p.1 := by
  cases hA : A with
  | none =>
    subst hA
    have e : ∀ j, j < h.size → h'[j]? = h[j]? := fun j hj => k.old j hj (by simp)
    exact ⟨[], ⟨k.size, fun j hj _ => e j hj, fun j cs T f hj _ => (e j (blk_lt hj)).trans hj⟩, by simp⟩
  | some a =>
    rcases o with ⟨h1, _⟩ | ⟨b, rest, h1, hg, hb, _⟩
    · rw [hA] at h1; cases h1
    · rw [hA] at h1
      cases h1
      subst hA
      refine ⟨[(b, T)], ⟨k.size, fun j hj hn => k.old j hj fun e => hn _ (.head _) (by injection e with e; injection e), fun j cs T' f hj hn => ?_⟩, fun p hp => by simp at hp; subst hp; exact ⟨rfl, hg⟩⟩
      by_cases e : j = b
      · subst e
        rw [hb] at hj
        injection hj with e1
        injection e1 with _ e2
        subst e2
        exact absurd (.head _) hn
      · exact (k.old j (blk_lt hj) fun q => e (by injection q with q; injection q with q; exact q.symm)).trans hj
/-- The number is out of its ring. -/
theorem eTake_inner (Z : TP h B F e v n t sents T 211 (tik v t) x) (hlt : t < n) (hT : T < 900000) : ∃ (M : MemS) (tb pb : Nat), x.act = some tb ∧ M.t = T ∧ M.locks[e.q]? = some e.who ∧ B ≤ tb ∧ B ≤ pb ∧
    HCalls Tryz.prog 150 #[.pointer (some ⟨tb, 0, none⟩)] h (fun r h' => r = .bool true ∧ ∃ mk rb nx, EgS h' B F e v x { M with cells := M.cells.set (bs F.b0 F.P F.S e.q (t % F.P) + 1) ((cN F.P (t % F.P) t + 1 : Nat) : Int), t := M.t + 1 } n (t + 1) noB ((t + 1) % F.P) sents (2 * t) ∧
      LActAt h' tb ⟨e.nb, pb, 0, t % F.P, true⟩ ∧ ActAt h' pb ⟨rb, 6, nx, tik v t, true, mk, true⟩ ∧ ChgT B TyE h h') := by
  obtain ⟨M, tb, pb, S, ha, hL, hA, hl, ht, gt, gp⟩ := Z
  have Q := S.mq
  have hP := Q.P0
  have hm := Nat.mod_lt t hP
  refine ⟨M, tb, pb, ha, ht, hl, gt, gp, ?_⟩
  have hring := Q.rings _ hm
  have leave := rLeave_spec hA hring Q.mem rfl (Q.cells.place hP Q.hq (k := 0) (by have := Q.fab.s1; omega) hm |> fun g => by show bs F.b0 F.P F.S e.q (t % F.P) + 1 < _; omega) (by have := Q.big; omega) (by show cN F.P (t % F.P) t < 1000000; have := cN_bound (j := t % F.P) (n := t) hP; have := S.small; omega) (by show cN F.P (t % F.P) t % F.S < 1000000; have := Nat.mod_lt (cN F.P (t % F.P) t) (show 0 < F.S by have := Q.fab.s1; omega); have := Q.fab.s2; omega) (by have := Q.fab.s1; show 0 < F.S; omega) (by have := Q.fab.s2; show F.S < 1000000; omega) (by omega)
  refine (nStep_end (R := e.R) (n := F.P) (c := e.rc) (at_ := t % F.P) (act := x.act) (K := fun h2 => ActAt h2 pb ⟨F.rb (t % F.P) e.q, 6, 211, tik v t, true, ((M.t + 1 : Nat) : Int), true⟩ ∧ RingAt h2 (F.rb (t % F.P) e.q) F.mb ⟨bs F.b0 F.P F.S e.q (t % F.P), F.S, cN F.P (t % F.P) n, cN F.P (t % F.P) n % F.S, false, cN F.P (t % F.P) t + 1, (cN F.P (t % F.P) t % F.S + 1) % F.S, false⟩ ∧
      MemAt h2 F.mb F.cb F.lb { M with cells := M.cells.set (bs F.b0 F.P F.S e.q (t % F.P) + 1) ((cN F.P (t % F.P) t + 1 : Nat) : Int), t := M.t + 1 } ∧ Chg ((pb, 182) :: (F.rb (t % F.P) e.q, 151) :: ML F.mb F.cb F.lb) h h2) hL rfl rfl hm Q.fab.p2 ?_).mono ?_
  · refine (rStep_got (K := fun A' R' h1 => A' = ⟨F.rb (t % F.P) e.q, 6, 211, tik v t, true, ((M.t + 1 : Nat) : Int), false⟩ ∧ R' = ⟨bs F.b0 F.P F.S e.q (t % F.P), F.S, cN F.P (t % F.P) n, cN F.P (t % F.P) n % F.S, false, cN F.P (t % F.P) t + 1, (cN F.P (t % F.P) t % F.S + 1) % F.S, (t % F.P == t % F.P)⟩ ∧
      MemAt h1 F.mb F.cb F.lb { M with cells := M.cells.set (bs F.b0 F.P F.S e.q (t % F.P) + 1) ((cN F.P (t % F.P) t + 1 : Nat) : Int), t := M.t + 1 } ∧ Chg ((pb, 182) :: (F.rb (t % F.P) e.q, 151) :: ML F.mb F.cb F.lb) h h1) (mb := F.mb) hA rfl (leave.mono ?_)).mono ?_
    · rintro r h1 ⟨rfl, a1, r1, m1, c1⟩
      exact ⟨rfl, _, _, rfl, rfl, a1, r1, rfl, rfl, m1, c1⟩
    · rintro r h2 ⟨rfl, A', R', h1, ⟨rfl, rfl, m1, c1⟩, a2, r2, c2⟩
      have c := c1.trans (c2.mono (l' := (pb, 182) :: (F.rb (t % F.P) e.q, 151) :: ML F.mb F.cb F.lb) (by intro p hp; simp at hp; rcases hp with rfl | rfl <;> simp))
      exact ⟨rfl, c.blk hL (by simp [ML]), c.blk S.lane (by simp [ML]), ⟨_, a2, rfl⟩, a2, r2, m1.chg c2 (by simp) (by simp) (by simp), c⟩
  · rintro r h3 ⟨rfl, h2, ⟨a2, r2, m2, c2⟩, L3, N3, c3⟩
    have c23 : Chg ((pb, 182) :: (F.rb (t % F.P) e.q, 151) :: (tb, 220) :: (e.nb, 186) :: ML F.mb F.cb F.lb) h h3 :=
      (c2.mono (by intro p hp; simp only [List.mem_cons] at hp ⊢; rcases hp with hp | hp | hp <;> simp [hp])).trans (c3.mono (by intro p hp; simp at hp; rcases hp with rfl | rfl <;> simp))
    have m3 := m2.chg c3 (by simp) (by simp) (by simp)
    have r3 := c3.blk r2 (by simp)
    have Q3 : MemQ h3 B F e.q v { M with cells := M.cells.set (bs F.b0 F.P F.S e.q (t % F.P) + 1) ((cN F.P (t % F.P) t + 1 : Nat) : Int), t := M.t + 1 } n (t + 1) (fun _ => false) noB := by
      refine Q.upd c23 (by simp [ML, TyE]) m3 (Q.cells.leave hP Q.hq) (fun j hj => ?_) hlt (List.length_set ..)
      by_cases e' : j = t % F.P
      · subst e'
        rw [cN_succ hm, if_pos rfl]
        have e2 : (cN F.P (t % F.P) t + 1) % F.S = (cN F.P (t % F.P) t % F.S + 1) % F.S := by rw [Nat.mod_add_mod]
        rw [e2]
        exact r3
      · have hne : F.rb j e.q ≠ F.rb (t % F.P) e.q := fun q => e' (Q.inj j _ hj hm q)
        have := c23.blk (Q.rings j hj) (by simp [hne, ML])
        rw [cN_succ hj, if_neg e', Nat.add_zero]
        have e3 : (j == t % F.P) = false := beq_eq_false_iff_ne.2 e'
        rw [e3] at this
        exact this
    have N3' : LaneAt h3 e.nb e.R F.P e.rc ((t + 1) % F.P) x.act := by
      rw [← Nat.mod_add_mod t F.P 1]
      exact N3
    refine ⟨rfl, _, _, _, S.upd c23 (by simp [ML]) (by simp [ML]) (by simp [ML]) (by simp [ML]) Q3 N3' S.small, L3, c3.blk a2 (by simp), c23.chgT S.hB ?_⟩
    intro p hp
    simp [ML] at hp
    rcases hp with rfl | rfl | rfl | rfl | rfl | rfl | rfl
    · exact ⟨gp, by simp [TyE]⟩
    · exact ⟨Q.b4 _ hm, by simp [TyE]⟩
    · exact ⟨gt, by simp [TyE]⟩
    · exact ⟨S.b2, by simp [TyE]⟩
    · exact ⟨Q.b1, by simp [TyE]⟩
    · exact ⟨Q.b2, by simp [TyE]⟩
    · exact ⟨Q.b3, by simp [TyE]⟩
theorem wrap_tik {v i : Nat} (hv : v < 4096) (hi : i < 1000000) : IntKind.i64.wrap (tik v i) = tik v i := by unfold tik; rw [wrap_i64 (by omega) (by omega)]
theorem iVid_at {h : Heap} {i v : Nat} {j : Int} (hj : j = tik v i) (hv : v < 4096) (hi : i < 1000000) : HCalls Tryz.prog 20 #[.int .i64 j] h (fun r h' => r = .int .i64 (v : Int) ∧ h' = h) := by subst hj; exact iVid_spec hv hi
set_option maxHeartbeats 4000000 in
theorem eTake_end (Z : TP h B F e v n t sents T 211 (tik v t) x) (hlt : t < n) (hT : T < 900000) : HCalls Tryz.prog 109 #[.pointer (some ⟨e.eb, 0, none⟩)] h (fun r h' => r = .func (.func 156) #[] #[] ∧ ∃ x', EgRaw h' e.eb x' ∧ FP h' B F e v n t sents (T + 1) (2 * t + 2) x' ∧ ChgT B TyE h h') := by
  have raw : EgRaw h e.eb x := by obtain ⟨M, tb, pb, S, _⟩ := Z; exact S.raw
  obtain ⟨M, tb, pb, ha, ht, hl, gt, gp, inner⟩ := eTake_inner Z hlt hT
  obtain ⟨f', p, who, nb, next, act, mem, sA, sn, sc, lA, ln, lc, since⟩ := x
  simp only at ha
  subst ha
  refine xcalls env_eTake2 Tryz.func109 rfl (by kernel_rfl) rfl (by kernel_rfl) ?_
  repeat (first | refine ⟨_, cell_blk (raw) rfl, ?_⟩)
  refine inner.mono ?_
  rintro r h1 ⟨rfl, mk, rb, nx, S1, L1, A1, c1⟩
  have raw1 := S1.raw
  repeat (first | refine ⟨_, cell_blk (raw1) rfl, ?_⟩)
  refine (nOk_spec L1 rfl A1).mono ?_
  rintro r h2 ⟨rfl, rfl⟩
  repeat (first | refine ⟨_, cell_blk (raw1) rfl, ?_⟩)
  refine (nValue_spec L1 rfl A1 rfl).mono ?_
  rintro r h2 ⟨rfl, rfl⟩
  try (refine ⟨by ((repeat (first | refine ⟨cell_blk (raw1) rfl, ?_⟩)); exact trivial), ?_⟩)
  repeat (first | refine ⟨_, cell_blk (raw1) rfl, ?_⟩)
  refine (nFrom_spec L1 rfl A1 rfl).mono ?_
  rintro r h3 ⟨rfl, rfl⟩
  repeat (first | refine ⟨_, cell_blk (raw1) rfl, ?_⟩)
  intro gb h4 n4
  refine ⟨rfl, rfl, canset_blk n4.this rfl, fun h5 s5 => ?_⟩
  have G5 : h5[gb]? = some (.cells (encO17 ⟨11, ((t % F.P : Nat) : Int), (p : Int), 0, 0, 0, 0, 0, 0, 0, 0, 0, 0, 0⟩).toArray 68 (0, 0)) :=
    n4.fill (vs := encO17 ⟨11, ((t % F.P : Nat) : Int), (p : Int), 0, 0, 0, 0, 0, 0, 0, 0, 0, 0, 0⟩) rfl s5
  have x5 : Ext h3 h5 := n4.ext.stored s5 (n4.ge (Ext.refl _))
  have raw5 := x5.blk raw1
  have wt := wrap_tik (i := t) S1.vs (by have := S1.small; omega)
  have vid := fun (h : Heap) => iVid_at (h := h) (i := t) wt S1.vs (by have := S1.small; omega)
  refine ⟨Nat × Nat, fun z => [(0, .pointer (some ⟨e.eb, 0, none⟩)), (3, .int .i64 (tik v t)), (5, .pointer (some ⟨z.1, 0, none⟩)), (6, .pointer (some ⟨z.2, 0, none⟩))], fun z h' => h'[z.1]? = some (.cells (encO17 ⟨11, ((t % F.P : Nat) : Int), (p : Int), 0, 0, 0, 0, 0, 0, 0, 0, 0, 0, 0⟩).toArray 68 (0, 0)) ∧
    h'[z.2]? = some (.cells (encO17 ⟨12, 0, (p : Int), (v : Int), 0, 0, 0, 0, 0, 0, 0, 0, 0, 0⟩).toArray 68 (0, 0)) ∧ Ext h3 h', ?_, ?_⟩
  · repeat (first | refine ⟨_, cell_blk (raw5) rfl, ?_⟩)
    refine ⟨?_, ?_⟩
    · refine (vid _).mono ?_
      rintro r h6 ⟨rfl, rfl⟩
      try (refine ⟨by ((repeat (first | refine ⟨cell_blk (raw5) rfl, ?_⟩)); exact trivial), ?_⟩)
      intro sb h7 n7
      try (refine ⟨by ((repeat (first | refine ⟨cell_blk (n7.ext.blk raw5) rfl, ?_⟩)); exact trivial), ?_⟩)
      refine ⟨rfl, rfl, canset_blk n7.this rfl, fun h8 s8 => ?_⟩
      have x8 := n7.ext.stored s8 (n7.ge (Ext.refl _))
      exact ⟨(gb, sb), ⟨rfl, congrArg (fun z => some (Value.int .i64 z)) wt, rfl, rfl, trivial⟩, x8.blk G5, n7.fill (vs := encO17 ⟨12, 0, (p : Int), (v : Int), 0, 0, 0, 0, 0, 0, 0, 0, 0, 0⟩) rfl s8, x5.trans x8⟩
    · intro sb h7 n7
      try (refine ⟨by ((repeat (first | refine ⟨cell_blk (n7.ext.blk raw5) rfl, ?_⟩)); exact trivial), ?_⟩)
      refine (vid _).mono ?_
      rintro r h6 ⟨rfl, rfl⟩
      try (refine ⟨by ((repeat (first | refine ⟨cell_blk (n7.ext.blk raw5) rfl, ?_⟩)); exact trivial), ?_⟩)
      refine ⟨rfl, rfl, canset_blk n7.this rfl, fun h8 s8 => ?_⟩
      have x8 := n7.ext.stored s8 (n7.ge (Ext.refl _))
      exact ⟨(gb, sb), ⟨rfl, congrArg (fun z => some (Value.int .i64 z)) wt, rfl, rfl, trivial⟩, x8.blk G5, n7.fill (vs := encO17 ⟨12, 0, (p : Int), (v : Int), 0, 0, 0, 0, 0, 0, 0, 0, 0, 0⟩) rfl s8, x5.trans x8⟩
  rintro ⟨gb, sb⟩ h6 ⟨G6, S6, x6⟩
  simp only at G6 S6
  have raw6 := x6.blk raw1
  have Q6 := S1.mq.ext x6
  repeat (first | refine ⟨_, cell_blk (raw6) rfl, ?_⟩)
  refine ⟨encO17 ⟨11, ((t % F.P : Nat) : Int), (p : Int), 0, 0, 0, 0, 0, 0, 0, 0, 0, 0, 0⟩, rfl, reads_all G6, ?_⟩
  repeat (first | refine ⟨_, cell_blk (raw6) rfl, ?_⟩)
  refine ⟨encO17 ⟨12, 0, (p : Int), (v : Int), 0, 0, 0, 0, 0, 0, 0, 0, 0, 0⟩, rfl, reads_all S6, ?_⟩
  refine (nMark_spec (x6.blk L1) rfl (x6.blk A1)).mono ?_
  rintro r h7 ⟨rfl, rfl⟩
  have time := eTime_spec raw6 S1.xf Q6.fab Q6.mem
  have hh : ∀ {J : Prop}, J → (Reads _ ⟨sb, 0, none⟩ _ ∧ cell _ _ = _ ∧ Reads _ ⟨gb, 0, none⟩ _ ∧ cell _ _ = _ ∧ cell _ _ = _ ∧ cell _ _ = _ ∧ True) ∧ J := fun j => ⟨⟨reads_all S6, cell_blk raw6 (j := 2) rfl, reads_all G6, cell_blk raw6 (j := 9) rfl, cell_blk raw6 (j := 2) rfl, cell_blk raw6 (j := 8) rfl, trivial⟩, j⟩
  refine hh ?_
  refine time.mono ?_
  rintro r h8 ⟨rfl, rfl⟩
  refine hh ?_
  refine time.mono ?_
  rintro r h9 ⟨rfl, rfl⟩
  refine hh ?_
  intro ab h10 n10
  have raw10 := n10.ext.blk raw6
  refine ⟨⟨cell_blk raw10 rfl, trivial⟩, ?_⟩
  obtain ⟨l, ol, hll⟩ := S1.logs
  have e1 := S1.xl
  have ol10 := (ol.ext x6).ext n10.ext
  have N10 : h10[ab]? = some (.cells (([⟨who, since, mk, ((M.t + 1 : Nat) : Int), ⟨11, ((t % F.P : Nat) : Int), (p : Int), 0, 0, 0, 0, 0, 0, 0, 0, 0, 0, 0⟩, tik v t⟩, ⟨who, ((M.t + 1 : Nat) : Int), 0, 0, ⟨12, 0, (p : Int), (v : Int), 0, 0, 0, 0, 0, 0, 0, 0, 0, 0⟩, 0⟩] : List He).flatMap encHe).toArray 75 (0, 0)) := n10.this
  refine xappend_own (ys := [⟨who, since, mk, ((M.t + 1 : Nat) : Int), ⟨11, ((t % F.P : Nat) : Int), (p : Int), 0, 0, 0, 0, 0, 0, 0, 0, 0, 0, 0⟩, tik v t⟩, ⟨who, ((M.t + 1 : Nat) : Int), 0, 0, ⟨12, 0, (p : Int), (v : Int), 0, 0, 0, 0, 0, 0, 0, 0, 0, 0⟩, 0⟩]) hsInfo hsZero rfl (by decide) encHe_len encHe_one ol10 (by rw [hll]; exact e1.symm) rfl (by decide) (reads_all N10) (by have := S1.small; have e1 : ln = 2 * t := e1; omega) (Nat.le_trans S1.hB (x6.trans n10.ext).size) fun A' c' h11 o11 K11 hA11 => ?_
  obtain ⟨L, c11, hL⟩ := K11.toChg ol10
  have nin : ∀ k T', T' ≠ 75 → (k, T') ∉ L := fun k T' ne hm => ne (hL _ hm).1
  have raw11 := c11.blk raw10 (nin _ _ (by decide))
  refine ⟨rfl, rfl, canset_blk raw11 rfl, fun h12 s12 => ?_⟩
  have raw12 : EgRaw h12 e.eb ⟨f', p, who, nb, next, some tb, mem, sA, sn, sc, A', ln + 2, c', since⟩ := s12.put raw11
  have c12 : Chg [(e.eb, 131)] h11 h12 := s12.chg raw11 (.head _)
  have x10 := x6.trans n10.ext
  have cc : Chg ((e.eb, 131) :: L) _ h12 := (x10.chg _).trans ((c11.mono (by intro p hp; exact .tail _ hp)).trans (c12.mono (by intro p hp; simp at hp; subst hp; simp)))
  have nin' : ∀ k T', T' ≠ 75 → T' ≠ 131 → (k, T') ∉ (e.eb, 131) :: L := fun k T' n1 n2 hm => by
    rcases List.mem_cons.1 hm with h | h
    · cases h; exact n2 rfl
    · exact nin k T' n1 h
  have inE : ∀ p ∈ (e.eb, 131) :: L, B ≤ p.1 ∧ p.2 ∈ TyE := fun p hp => by
    rcases List.mem_cons.1 hp with h | h
    · subst h; exact ⟨S1.b1, by simp [TyE]⟩
    · obtain ⟨g1, g2⟩ := hL p h
      exact ⟨g2, by rw [g1]; simp [TyE]⟩
  refine ⟨rfl, _, raw12, ⟨_, tb, pb, mk, rb, nx, ⟨raw12, S1.xf, S1.xp, S1.xw, S1.xn, S1.xs, by show ln + 2 = 2 * t + 2; rw [show ln = 2 * t from e1], S1.own.chg cc (fun b _ => nin' _ _ (by decide) (by decide)), ⟨_, o11.chg c12 (fun b _ => by simp), by rw [List.length_append, hll]; rfl⟩, cc.blk S1.lane (nin' _ _ (by decide) (by decide)), S1.rows.chg cc (fun b _ => nin' _ _ (by decide) (by decide)),
    S1.mq.chg cc (fun p hp => (inE p hp).2) (fun k => nin' _ _ (by decide) (by decide)) (fun k => nin' _ _ (by decide) (by decide)) (fun k => nin' _ _ (by decide) (by decide)) (fun k => nin' _ _ (by decide) (by decide)), S1.b1, S1.b2, Nat.le_trans S1.hB cc.size, S1.who, S1.small, S1.vs⟩, rfl, cc.blk L1 (nin' _ _ (by decide) (by decide)), cc.blk A1 (nin' _ _ (by decide) (by decide)), hl, by show M.t + 1 = T + 1; omega⟩, c1.trans (cc.chgT S1.hB inE)⟩
/-- How the number fares is told. -/
theorem eDone_spec (Z : FP h B F e v n t sents T (2 * t + 2) x) (hst : sents.length = t) (hT : T < 950000) : HCalls Tryz.prog 183 #[.pointer (some ⟨e.eb, 0, none⟩), .int .i64 0] h (fun r h' => r = .func (.func 152) #[] #[] ∧ ∃ x', EgRaw h' e.eb x' ∧ FP h' B F e v n t (sents ++ [⟨tik v t, ((t % F.P : Nat) : Int), (e.q : Int), 0, (T : Int)⟩]) T (2 * t + 2) x' ∧ ChgT B TyE h h') := by
  obtain ⟨M, tb, pb, mk, rb, nx, S, ha, hL, hA, hl, ht⟩ := Z
  have raw := S.raw
  obtain ⟨l, ol, hll⟩ := S.logs
  obtain ⟨E, hE⟩ : ∃ E, l[2 * t + 1]? = some E := ⟨l[2 * t + 1]'(by omega), List.getElem?_eq_getElem (by omega)⟩
  obtain ⟨lb, hlA, glb, cs0⟩ := ol.canset encHe_len (i := 2 * t + 1) (j := 2) (n := 1) (by omega) (by omega)
  have hlen := S.xl
  obtain ⟨f', p, who, nb, next, act, mem, sA, sn, sc, lA, ln, lc, since⟩ := x
  simp only at ha hlA hlen
  subst ha hlA hlen
  refine xcalls env_eDone Tryz.func183 rfl (by kernel_rfl) rfl (by kernel_rfl) ?_
  have hw : IntKind.i64.wrap (((2 * t + 2 : Nat) : Int) - 1) = ((2 * t + 1 : Nat) : Int) := by have := S.small; have := S.mq.tn; rw [wrap_i64 (by omega) (by omega)]; omega
  refine ⟨Unit, fun _ => [(0, .pointer (some ⟨e.eb, 0, none⟩)), (1, .int .i64 0), (5, .pointer (some ⟨lb, (2 * t + 1) * 19, none⟩))], fun _ h' => h' = h, ?_, ?_⟩
  · repeat (first | refine ⟨_, cell_blk (raw) rfl, ?_⟩)
    refine ⟨⟨lb, 0, none⟩, rfl, ?_, ?_, ?_⟩
    · rw [hw]; omega
    · rw [hw]; show ((2 * t + 1 : Nat) : Int) < ((2 * t + 2 : Nat) : Int); omega
    refine ⟨(), ⟨rfl, rfl, ?_, trivial⟩, rfl⟩
    show some (Value.pointer (some ((⟨lb, 0, none⟩ : Addr).add ((IntKind.i64.wrap (((2 * t + 2 : Nat) : Int) - 1)).toNat * 19)))) = _
    rw [hw, add_lit, Int.toNat_natCast, Nat.zero_add]
  rintro _ h1 rfl
  have time := eTime_spec raw S.xf S.mq.fab S.mq.mem
  refine time.mono ?_
  rintro r h2 ⟨rfl, rfl⟩
  refine time.mono ?_
  rintro r h3 ⟨rfl, rfl⟩
  have ad : ∀ j, (⟨lb, (2 * t + 1) * 19, none⟩ : Addr).add j = ⟨lb, (2 * t + 1) * 19 + j, none⟩ := fun j => add_lit _ _ _
  refine ⟨rfl, rfl, ?_, fun h4 s4 => ?_⟩
  · show CanSet _ ((⟨lb, (2 * t + 1) * 19, none⟩ : Addr).add 2) 1
    rw [ad]; exact cs0
  have s4' : Stored _ ((⟨lb, (2 * t + 1) * 19, none⟩ : Addr).add 2) [.int .i64 (M.t : Int)] h4 := s4
  rw [ad] at s4'
  have o4 := ol.put (x' := { E with mark := (M.t : Int) }) encHe_len rfl s4' hE (by show 2 + 1 ≤ 19; decide) rfl
  obtain ⟨q1, hb1⟩ := ol.block
  have c4 : Chg [(lb, 75)] _ h4 := s4'.chg hb1 (.head _)
  have hl4 : 2 * t + 1 < (l.set (2 * t + 1) { E with mark := (M.t : Int) }).length := by rw [List.length_set]; omega
  have hE4 : (l.set (2 * t + 1) { E with mark := (M.t : Int) })[2 * t + 1]? = some { E with mark := (M.t : Int) } := List.getElem?_set_self (by omega)
  obtain ⟨lb4, hlb4, _, cs4⟩ := o4.canset encHe_len (i := 2 * t + 1) (j := 3) (n := 1) hl4 (by omega)
  cases hlb4
  refine ⟨rfl, rfl, ?_, fun h5 s5 => ?_⟩
  · show CanSet _ ((⟨lb, (2 * t + 1) * 19, none⟩ : Addr).add 3) 1
    rw [ad]; exact cs4
  have s5' : Stored _ ((⟨lb, (2 * t + 1) * 19, none⟩ : Addr).add 3) [.int .i64 (M.t : Int)] h5 := s5
  rw [ad] at s5'
  have o5 := o4.put (x' := { E with mark := (M.t : Int), fin := (M.t : Int) }) encHe_len rfl s5' hE4 (by show 3 + 1 ≤ 19; decide) rfl
  obtain ⟨q4, hb4⟩ := o4.block
  have c5 : Chg [(lb, 75)] _ h5 := s5'.chg hb4 (.head _)
  rw [List.set_set] at o5
  have hl5 : 2 * t + 1 < (l.set (2 * t + 1) { E with mark := (M.t : Int), fin := (M.t : Int) }).length := by rw [List.length_set]; omega
  have hE5 : (l.set (2 * t + 1) { E with mark := (M.t : Int), fin := (M.t : Int) })[2 * t + 1]? = some { E with mark := (M.t : Int), fin := (M.t : Int) } := List.getElem?_set_self (by omega)
  obtain ⟨lb5, hlb5, _, cs5⟩ := o5.canset encHe_len (i := 2 * t + 1) (j := 18) (n := 1) hl5 (by omega)
  cases hlb5
  refine ⟨rfl, rfl, ?_, fun h6 s6 => ?_⟩
  · show CanSet _ ((⟨lb, (2 * t + 1) * 19, none⟩ : Addr).add 18) 1
    rw [ad]; exact cs5
  have s6' : Stored _ ((⟨lb, (2 * t + 1) * 19, none⟩ : Addr).add 18) [.int .i64 0] h6 := s6
  rw [ad] at s6'
  have o6 := o5.put (x' := { E with mark := (M.t : Int), fin := (M.t : Int), ans := 0 }) encHe_len rfl s6' hE5 (by show 18 + 1 ≤ 19; decide) rfl
  obtain ⟨q5, hb5⟩ := o5.block
  have c6 : Chg [(lb, 75)] _ h6 := s6'.chg hb5 (.head _)
  have c46 := (c4.trans c5).trans c6
  have raw6 := c46.blk raw (by simp)
  have L6 := c46.blk hL (by simp)
  have A6 := c46.blk hA (by simp)
  have Q6 := S.mq.chg c46 (by simp [TyE]) (by simp) (by simp) (by simp) (by simp)
  have time6 := eTime_spec raw6 S.xf Q6.fab Q6.mem
  repeat (first | refine ⟨_, cell_blk (raw6) rfl, ?_⟩)
  refine (nValue_spec L6 rfl A6 rfl).mono ?_
  rintro r h7 ⟨rfl, rfl⟩
  try (refine ⟨by ((repeat (first | refine ⟨cell_blk (raw6) rfl, ?_⟩)); exact trivial), ?_⟩)
  repeat (first | refine ⟨_, cell_blk (raw6) rfl, ?_⟩)
  refine (nFrom_spec L6 rfl A6 rfl).mono ?_
  rintro r h8 ⟨rfl, rfl⟩
  try (refine ⟨by ((repeat (first | refine ⟨cell_blk (raw6) rfl, ?_⟩)); exact trivial), ?_⟩)
  refine time6.mono ?_
  rintro r h9 ⟨rfl, rfl⟩
  try (refine ⟨by ((repeat (first | refine ⟨cell_blk (raw6) rfl, ?_⟩)); exact trivial), ?_⟩)
  intro ab h10 n10
  have raw10 := n10.ext.blk raw6
  try (refine ⟨by ((repeat (first | refine ⟨cell_blk (raw10) rfl, ?_⟩)); exact trivial), ?_⟩)
  have wt := wrap_tik (i := t) S.vs (by have := S.small; have := S.mq.tn; omega)
  have hsn := S.xs
  have hxp := S.xp
  simp only at hsn hxp
  subst hsn hxp
  have own10 := (S.own.chg c46 (fun b _ => by simp)).ext n10.ext
  have N10 : h10[ab]? = some (.cells (([⟨tik v t, ((t % F.P : Nat) : Int), (e.q : Int), 0, (T : Int)⟩] : List Sn).flatMap encSent).toArray 51 (0, 0)) := by
    have := n10.this
    rw [wt, ht] at this
    exact this
  refine xappend_own (ys := [⟨tik v t, ((t % F.P : Nat) : Int), (e.q : Int), 0, (T : Int)⟩]) snInfo snZero rfl (by decide) encSent_len encSent_one own10 rfl rfl (by decide) (reads_all N10) (by show (sents.length + 1) * 40 ≤ 140737488355328; have := S.small; have := S.mq.tn; omega) (Nat.le_trans S.hB (Nat.le_trans c46.size n10.ext.size)) fun A' c' h11 o11 K11 hA11 => ?_
  obtain ⟨L, c11, hLn⟩ := K11.toChg own10
  have nin : ∀ k T', T' ≠ 51 → (k, T') ∉ L := fun k T' ne hm => ne (hLn _ hm).1
  have raw11 := c11.blk raw10 (nin _ _ (by decide))
  refine ⟨rfl, rfl, canset_blk raw11 rfl, fun h12 s12 => ?_⟩
  have raw12 : EgRaw h12 e.eb ⟨f', e.q, who, nb, next, some tb, mem, A', sents.length + 1, c', some ⟨lb, 0, none⟩, 2 * t + 2, lc, since⟩ := s12.put raw11
  have c12 : Chg [(e.eb, 131)] h11 h12 := s12.chg raw11 (.head _)
  have cc : Chg ((e.eb, 131) :: L) _ h12 := (n10.ext.chg _).trans ((c11.mono (by intro p hp; exact .tail _ hp)).trans (c12.mono (by intro p hp; simp at hp; subst hp; simp)))
  have nin' : ∀ k T', T' ≠ 51 → T' ≠ 131 → (k, T') ∉ (e.eb, 131) :: L := fun k T' n1 n2 hm => by
    rcases List.mem_cons.1 hm with h | h
    · cases h; exact n2 rfl
    · exact nin k T' n1 h
  have inE : ∀ p ∈ (e.eb, 131) :: L, B ≤ p.1 ∧ p.2 ∈ TyE := fun p hp => by
    rcases List.mem_cons.1 hp with h | h
    · subst h; exact ⟨S.b1, by simp [TyE]⟩
    · obtain ⟨g1, g2⟩ := hLn p h
      exact ⟨g2, by rw [g1]; simp [TyE]⟩
  have g46 := c46.size
  refine ⟨rfl, _, raw12, ⟨_, tb, pb, mk, rb, nx, ⟨raw12, S.xf, rfl, S.xw, S.xn, (by show sents.length + 1 = (sents ++ [_]).length; rw [List.length_append]; rfl), rfl, o11.chg c12 (fun b _ => by simp), ⟨_, o6.chg cc (fun b _ => nin' _ _ (by decide) (by decide)), by rw [List.set_set, List.length_set]; exact hll⟩, cc.blk (c46.blk S.lane (by simp)) (nin' _ _ (by decide) (by decide)), (S.rows.chg c46 (fun b _ => by simp)).chg cc (fun b _ => nin' _ _ (by decide) (by decide)),
    Q6.chg cc (fun p hp => (inE p hp).2) (fun k => nin' _ _ (by decide) (by decide)) (fun k => nin' _ _ (by decide) (by decide)) (fun k => nin' _ _ (by decide) (by decide)) (fun k => nin' _ _ (by decide) (by decide)), S.b1, S.b2, Nat.le_trans S.hB (Nat.le_trans g46 cc.size), S.who, S.small, S.vs⟩, rfl, cc.blk L6 (nin' _ _ (by decide) (by decide)), cc.blk A6 (nin' _ _ (by decide) (by decide)), hl, ht⟩, (c46.chgT S.hB fun p hp => by simp at hp; subst hp; exact ⟨glb, by simp [TyE]⟩).trans (cc.chgT (Nat.le_trans S.hB g46) inE)⟩
theorem eStand_spec (Z : FP h B F e v n t sents T (2 * t + 2) x) (hst : sents.length = t) (hT : T < 900000) : HCalls Tryz.prog 156 #[.pointer (some ⟨e.eb, 0, none⟩)] h (fun r h' => r = .func (.func 152) #[] #[] ∧ ∃ x', EgRaw h' e.eb x' ∧ FP h' B F e v n t (sents ++ [⟨tik v t, ((t % F.P : Nat) : Int), (e.q : Int), 0, ((T + 1 : Nat) : Int)⟩]) (T + 1) (2 * t + 2) x' ∧ ChgT B TyE h h') := by
  obtain ⟨M, tb, pb, mk, rb, nx, S, ha, hL, hA, hl, ht⟩ := Z
  have raw := S.raw
  obtain ⟨f', p, who, nb, next, act, mem, sA, sn, sc, lA, ln, lc, since⟩ := x
  have hf := S.xf
  have hp := S.xp
  simp only at hf hp
  subst hf hp
  refine xcalls env_eStand Tryz.func156 rfl (by kernel_rfl) rfl (by kernel_rfl) ?_
  repeat (first | refine ⟨_, cell_blk (raw) rfl, ?_⟩)
  refine (cStand_spec S.mq.fab S.mq.mem S.mq.hq (S.mq.cells.st _ S.mq.hq) (by omega)).mono ?_
  rintro r h1 ⟨rfl, m1, c1⟩
  refine (pForwards_spec 0).mono ?_
  rintro r h2 ⟨rfl, rfl⟩
  have Q1 := S.mq.time c1 (by simp [TyE]) (by simp) m1 rfl
  have S1 := S.upd c1 (by simp) (by simp) (by simp) (by simp) Q1 (c1.blk S.lane (by simp)) S.small
  refine (eDone_spec (T := T + 1) ⟨_, tb, pb, mk, rb, nx, S1, ha, c1.blk hL (by simp), c1.blk hA (by simp), hl, by show M.t + 1 = T + 1; omega⟩ hst (by omega)).mono ?_
  rintro r h3 ⟨rfl, x', r3, Z3, c3⟩
  exact ⟨rfl, x', r3, Z3, (c1.chgT S.hB fun p hp => by simp at hp; subst hp; exact ⟨S.mq.b1, by simp [TyE]⟩).trans c3⟩
theorem eUnlock_spec (Z : FP h B F e v n t sents T (2 * t + 2) x) (hT : T < 900000) (hlt : t < n) : HCalls Tryz.prog 152 #[.pointer (some ⟨e.eb, 0, none⟩)] h (fun r h' => r = .nilFunc ∧ ∃ x', EgRaw h' e.eb x' ∧ ZP h' B F e v n (t + 1) sents (T + 1) x' ∧ ChgT B TyE h h') := by
  obtain ⟨M, tb, pb, mk, rb, nx, S, ha, hL, hA, hl, ht⟩ := Z
  have raw := S.raw
  obtain ⟨f', p, who, nb, next, act, mem, sA, sn, sc, lA, ln, lc, since⟩ := x
  have hf := S.xf
  have hp := S.xp
  have hw := S.xw
  simp only at hf hp hw
  subst hf hp hw
  refine xcalls env_eUnlock Tryz.func152 rfl (by kernel_rfl) rfl (by kernel_rfl) ?_
  repeat (first | refine ⟨_, cell_blk (raw) rfl, ?_⟩)
  refine (cFree_spec S.mq.fab S.mq.mem S.mq.hq hl S.who (by omega)).mono ?_
  rintro r h1 ⟨rfl, m1, c1⟩
  have Q1 : MemQ h1 B F e.q v { M with locks := M.locks.set e.q (-1), t := M.t + 1 } n (t + 1) (fun _ => false) noB := S.mq.time c1 (by simp [ML, TyE]) (by simp [ML]) m1 rfl
  have S1 := S.upd c1 (by simp [ML]) (by simp [ML]) (by simp [ML]) (by simp [ML]) Q1 (c1.blk S.lane (by first | (simp; done) | (intro p hp; simp [hp]; done) | (simp [ML]; done) | (intro p hp; simp [ML] at hp ⊢; rcases hp with h | h | h <;> simp [h]; done))) S.small
  refine ⟨rfl, _, S1.raw, ⟨_, S1, .inr ⟨tb, _, ha, c1.blk hL (by first | (simp; done) | (intro p hp; simp [hp]; done) | (simp [ML]; done) | (intro p hp; simp [ML] at hp ⊢; rcases hp with h | h | h <;> simp [h]; done)), rfl⟩, ?_, by show M.t + 1 = T + 1; omega⟩, c1.chgT S.hB fun p hp => ?_⟩
  · show (M.locks.set e.q (-1))[e.q]? = some (-1)
    rw [List.getElem?_set_self (List.getElem?_eq_some_iff.1 hl).1]
  · simp [ML] at hp
    rcases hp with rfl | rfl | rfl
    · exact ⟨S.mq.b1, by simp [TyE]⟩
    · exact ⟨S.mq.b2, by simp [TyE]⟩
    · exact ⟨S.mq.b3, by simp [TyE]⟩
end
end Go.Proofs.YthoikbogkhpciaaGreatE
