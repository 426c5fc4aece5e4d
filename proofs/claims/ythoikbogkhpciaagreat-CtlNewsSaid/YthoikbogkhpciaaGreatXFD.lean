/- A number goes out: what the law's own look answers. Conditions: none. -/
import Derived.Test.YthoikbogkhpciaaGreatXFC
import Derived.Test.YthoikbogkhpciaaGreatXP1
set_option linter.unusedVariables false
set_option linter.unusedSimpArgs false
set_option maxRecDepth 100000
namespace Go.Proofs.YthoikbogkhpciaaGreatE
open Go Go.Proofs
section
variable {h h' : Heap} {B : Nat} {F : Fb} {xb q v N n ph T : Nat} {lk : List Int}
theorem Fresh.of_ext {h0 : Heap} {M : MemS} (H : Fresh h0 h F M) (x : Ext h h') : Fresh h0 h' F M :=
  ⟨H.fab.ext x, H.mem.ext x, H.t, H.low, H.high, H.len, H.b0, H.bv, H.big, H.locks, fun a b ha hb => ⟨x.blk (H.ring a b ha hb).1, (H.ring a b ha hb).2⟩, H.inj, H.g1, H.g2, H.g3, H.g4, H.ext.trans x, H.pr, x.blk H.dbk, H.sok⟩
theorem Fresh.memq {h0 : Heap} {M : MemS} (H : Fresh h0 h F M) (hq : q < F.P) (v : Nat) : MemQ h h0.size F q v M 0 0 noB noB := by
  have hP : 0 < F.P := by have := H.fab.p1; omega
  have hc : ∀ j o, j < F.P → o < F.S + 2 → M.cells[bs F.b0 F.P F.S q j + o]? = some 0 := by
    intro j o hj ho
    refine H.high _ (by unfold bs; omega) ?_
    have := bs_in (b0 := F.b0) hj hq ho
    have := H.len
    omega
  refine ⟨H.fab, H.mem, ⟨Nat.le_of_eq H.len, H.b0, Nat.zero_le _, H.low, fun j hj => ?_, fun j hj => ?_, fun i hi => by omega⟩, fun j hj => ?_, fun j k hj hk e => (H.inj j q k q hj hq hk hq e).1, hq, Nat.le_refl _, H.big, H.g1, H.g2, H.g3, fun j hj => (H.ring j q hj hq).2⟩
  · rw [cN_zero]; exact hc j 0 hj (by omega)
  · rw [cN_zero]; exact hc j 1 hj (by have := H.fab.s1; omega)
  · have := (H.ring j q hj hq).1
    rw [cN_zero, Nat.zero_mod]
    exact this
theorem lMake_fix2 {A B : Option Addr} {ca cb : Nat} {rules : List Ru} {vls : List Vl} {s : Sz} {P tries ring normal short : Int} (hra : Row encRu 2 h A (fixRules P rules)) (hrb : Row encVl 3 h B (fixVlans P vls)) (wf : ∀ v ∈ vls, SetWf v.mem ∧ SetWf v.unt) :
    HCalls Tryz.prog 10 #[.agg (planV (fixPorts P) (.slice A (fixPorts P).toNat ca) (.slice B (fixVlans P vls).length cb) (fixSz s) (fixTries tries) (fixRing ring) normal short).toArray] h (fun v h' => ∃ F M, v = .pointer (some ⟨F.fb, 0, none⟩) ∧ fixPorts P = (F.P : Int) ∧ fixRing ring = (F.S : Int) ∧ F.P ≤ 8 ∧ Fresh h h' F M ∧ F.vls = fixVlans P vls) := by
  have pr := fixPorts_range P
  have tr := fixTries_range tries
  have rr := fixRing_range ring
  have hck := fix_check P rules vls s tries ring
  have hrl : (fixRules P rules).length = (fixPorts P).toNat := by unfold fixRules; simp
  have vl8 := fixVlans_len P vls
  have wfv : ∀ v ∈ fixVlans P vls, SetWf v.mem ∧ SetWf v.unt := fun v hv => fixVl_wf _ _ (fun v hv => wf v (List.mem_of_mem_take hv)) v hv
  obtain ⟨p, hp⟩ : ∃ p : Nat, fixPorts P = p := ⟨_, (Int.toNat_of_nonneg (by omega)).symm⟩
  obtain ⟨r, hr⟩ : ∃ r : Nat, fixRing ring = r := ⟨_, (Int.toNat_of_nonneg (by omega)).symm⟩
  rw [hp] at pr hck hrl ⊢
  rw [hr] at rr hck ⊢
  refine (lMake_spec hra hrl hrb rfl (by omega) (by omega) wfv hck (fixSz_ok s) (by omega) (by omega) (by omega) (by omega) (by omega) (by omega)).mono ?_
  rintro v h1 ⟨F, M, rfl, e1, e2, e3, H⟩
  exact ⟨F, M, rfl, by rw [e1], by rw [e2], by omega, H, e3⟩
theorem lMake_fix {A B : Option Addr} {ca cb : Nat} {rules : List Ru} {vls : List Vl} {s : Sz} {P tries ring normal short : Int} (hra : Row encRu 2 h A (fixRules P rules)) (hrb : Row encVl 3 h B (fixVlans P vls)) (wf : ∀ v ∈ vls, SetWf v.mem ∧ SetWf v.unt) :
    HCalls Tryz.prog 10 #[.agg (planV (fixPorts P) (.slice A (fixPorts P).toNat ca) (.slice B (fixVlans P vls).length cb) (fixSz s) (fixTries tries) (fixRing ring) normal short).toArray] h (fun v h' => ∃ F M, v = .pointer (some ⟨F.fb, 0, none⟩) ∧ fixPorts P = (F.P : Int) ∧ fixRing ring = (F.S : Int) ∧ F.P ≤ 8 ∧ Fresh h h' F M) := by
  refine (lMake_fix2 hra hrb wf).mono ?_
  rintro v h1 ⟨F, M, rfl, e1, e2, e3, H, _⟩
  exact ⟨F, M, rfl, e1, e2, e3, H⟩
theorem PP.le (H : PP h B F xb q v N n ph T lk) : 3 * n + ph ≤ 3 * N := by
  obtain ⟨x, M, _, _, h1, H⟩ := H
  match ph, H with
  | 0, _ => omega
  | 1, ⟨h2, _⟩ => omega
  | 2, ⟨h2, _⟩ => omega
theorem pStep_all (H : PP h B F xb q v N n ph T lk) (hT : T < 900000) : HCalls Tryz.prog 12 #[.pointer (some ⟨xb, 0, none⟩), .int .i64 F.P] h (fun r h' => (n = N ∧ ph = 0 ∧ r = .bool false ∧ h' = h) ∨ (r = .bool true ∧ ∃ n' ph', 3 * n' + ph' = 3 * n + ph + 1 ∧ PP h' B F xb q v N n' ph' (T + 1) lk ∧ ChgT B TyP h h')) := by
  have H0 := H
  obtain ⟨x, M, hlk, ht, h1, H⟩ := H
  match ph, H, H0 with
  | 0, _, H0 =>
    rcases Nat.lt_or_ge n N with h2 | h2
    · refine (pStep_begin H0 h2 hT).mono ?_
      rintro r h3 ⟨rfl, p3, c3⟩
      exact .inr ⟨rfl, n, 1, rfl, p3, c3⟩
    · have e : n = N := by omega
      subst e
      refine (pStep_none H0).mono ?_
      rintro r h3 ⟨rfl, rfl⟩
      exact .inl ⟨rfl, rfl, rfl, rfl⟩
  | 1, _, H0 =>
    refine (pStep_lay H0 hT).mono ?_
    rintro r h3 ⟨rfl, p3, c3⟩
    exact .inr ⟨rfl, n, 2, rfl, p3, c3⟩
  | 2, _, H0 =>
    refine (pStep_tell H0 hT).mono ?_
    rintro r h3 ⟨rfl, p3, c3⟩
    exact .inr ⟨rfl, n + 1, 0, by omega, p3, c3⟩
end
theorem EPs.ext0 {h h' : Heap} {B : Nat} {F : Fb} {e : Eg} {v n t T : Nat} (H : EPs h B F e v n t 0 T) (x : Ext h h') : EPs h' B F e v n t 0 T := by
  obtain ⟨sents, y, ok, ⟨M, S, ha, hl, ht⟩, hn, hs⟩ := H
  refine ⟨sents, y, ok, ⟨M, S.upd (x.chg []) (by simp) (by simp) (by simp) (by simp) (S.mq.ext x) (x.blk S.lane) S.small, ?_, hl, ht⟩, hn, hs⟩
  rcases ha with ha | ⟨tb, a, h1, h2, h3⟩
  · exact .inl ha
  · exact .inr ⟨tb, a, h1, x.blk h2, h3⟩
theorem told21_spec {h : Heap} : HCalls Tryz.prog 11 #[] h (fun v h' => v = .bool true ∧ Ext h h') := by
  refine xcalls env0 Tryz.func11 rfl (by kernel_rfl) rfl (by kernel_rfl) ?_
  refine (rPFix_spec (A := none) (B := none) (ca := 0) (cb := 0) (P := 0) (tries := 0) (ring := 0) (normal := 0) (short := 0) (s := ⟨0, 0, 0⟩) (rules := []) (vls := []) Row.nil rfl Row.nil rfl (by simp)).mono ?_
  rintro v h1 ⟨A1, c1, B1, d1, rfl, oR, oV, x1⟩
  have oR : OwnA encRu 2 _ h.size h1 A1 c1 (fixRules 0 []) := oR
  have oV : OwnA encVl 3 _ h.size h1 B1 d1 (fixVlans 0 []) := oV
  intro ib h2 n2
  refine ⟨rfl, rfl, canset_blk n2.this rfl, fun h3 s3 => ?_⟩
  have hib : h3[ib]? = some (.cells (planV (fixPorts 0) (.slice A1 (fixPorts 0).toNat c1) (.slice B1 (fixVlans 0 []).length d1) (fixSz ⟨0, 0, 0⟩) (fixTries 0) (fixRing 0) 0 0).toArray 28 (0, 0)) := n2.fill rfl s3
  have x13 : Ext h1 h3 := n2.ext.stored s3 (n2.ge (Ext.refl _))
  refine ⟨_, rfl, reads_all hib, ?_⟩
  refine (lMake_fix ((oR.ext x13).row encRu_len) ((oV.ext x13).row encVl_len) (by simp)).mono ?_
  rintro v h4 ⟨F, M, rfl, eP, eS, p8, Fr0⟩
  have Fr := Fr0.mono (x1.trans x13)
  have x34 := Fr0.ext
  have p1 := Fr.fab.p1
  refine (eNew_spec Fr.fab (q := 1) (who := 9) (by omega) (by decide)).mono ?_
  rintro v h5 ⟨e, rfl, hq, hw, I, x5⟩
  intro lb h6 n6
  intro xb h7 n7
  have x47 : Ext h4 h7 := (x5.trans n6.ext).trans n7.ext
  have I7 : EgI h7 h.size F e := by
    have I7 := I.chgT (((n6.ext.trans n7.ext).chgT (Nat.zero_le _)) : ChgT 0 [] h5 h7) (by simp) (by simp) (by simp)
    have g := Fr.ext.size
    exact ⟨I7.raw, I7.lane, I7.rows.mono g, Nat.le_trans g I7.b1, Nat.le_trans g I7.b2, I7.who⟩
  have Fr7 := Fr.of_ext x47
  have Q7 : MemQ h7 h.size F e.q 0 M 0 0 noB noB := Fr7.memq (by omega) 0
  have g7 : h.size ≤ h7.size := (Fr.ext.trans x47).size
  have P7 : PP h7 h.size F xb e.q 0 1 0 0 M.t M.locks := by
    refine ⟨⟨F.fb, some ⟨lb, 0, none⟩, 1, 1, 0, none, none, 0, 0, 0⟩, M, rfl, rfl, by omega, ⟨n7.this, rfl, rfl, rfl, rfl, rfl, ⟨[⟨0, 1, 0⟩], .inr ⟨lb, [], rfl, Nat.zero_le _, n7.ext.blk n6.this, rfl, Nat.le_refl 1⟩, rfl, ?_⟩, ⟨[], .inl ⟨rfl, rfl, rfl⟩, rfl⟩, Q7, n7.ge (Fr.ext.trans (x5.trans n6.ext)), g7, by omega, ?_, by omega⟩⟩
    · intro i y hy
      cases i with
      | zero =>
        cases hy
        refine ⟨?_, ?_, rfl⟩
        · show (0 : Int) % 18446744073709551616 % F.P = ((0 % F.P : Nat) : Int)
          rw [Nat.zero_mod]; simp
        · show (1 : Int) % 18446744073709551616 % F.P = (e.q : Int)
          rw [hq]
          exact Int.emod_eq_of_lt (by omega) (by omega)
      | succ i => simp at hy
    · exact Nat.mul_pos (by have := Fr.fab.s1; omega) (by omega)
  have hib7 : h7[ib]? = _ := x47.blk (x34.blk hib)
  have E7 := I7.eps Q7 (Fr.locks _ (by omega)) g7 (by omega) (by omega)
  obtain ⟨b7, hb7, w7⟩ := E7.waits
  have hb7 : b7 = false := by rw [hb7 rfl]; rfl
  subst hb7
  refine w7.mono ?_
  rintro v h8 ⟨rfl, rfl⟩
  obtain ⟨sn7, x7, ok7, Z7, nx7, _⟩ := id E7
  refine (eStep_none Z7 nx7).mono ?_
  rintro v h9 ⟨rfl, rfl⟩
  have Mt := Fr.t
  refine ⟨Nat, fun i => [(1, .pointer (some ⟨ib, 0, none⟩)), (3, .pointer (some ⟨e.eb, 0, none⟩)), (5, .pointer (some ⟨xb, 0, none⟩)), (6, .int .i64 i)], fun i h' => ∃ n ph, i = 3 * n + ph ∧ PP h' h.size F xb e.q 0 1 n ph (M.t + i) M.locks ∧ ChgT h.size TyP _ h', fun i => 10 - i, 0, ⟨rfl, rfl, rfl, rfl, trivial⟩, ⟨0, 0, rfl, P7, ChgT.refl _⟩, ?_⟩
  rintro i h10 ⟨n, ph, hi, P10, c10⟩
  have hle := P10.le
  have hib10 := c10.typ _ _ _ _ hib7 (by decide)
  refine xif_true (decide_eq_true ?_) ?_
  · show (i : Int) < 10
    omega
  repeat (first | refine ⟨_, cell_blk (hib10) rfl, ?_⟩)
  rw [eP]
  refine (pStep_all P10 (by omega)).mono ?_
  rintro v h11 (⟨rfl, rfl, rfl, rfl⟩ | ⟨rfl, n', ph', hn', P11, c11⟩)
  · obtain ⟨y, M', hlk, ht, _, S⟩ := P10
    have E11 := (I7.chgT c10 (by decide) (by decide) (by decide)).eps S.mq (by rw [hlk]; exact Fr.locks _ (by omega)) S.hB (by omega) (by omega)
    obtain ⟨b, hb, wt⟩ := E11.waits
    have hb : b = true := by rw [hb rfl]; rfl
    subst hb
    refine wt.mono ?_
    rintro v h12 ⟨rfl, rfl⟩
    refine E11.idle.mono ?_
    rintro v h13 ⟨rfl, rfl⟩
    refine ⟨Nat, fun i => [(1, .pointer (some ⟨ib, 0, none⟩)), (3, .pointer (some ⟨e.eb, 0, none⟩)), (7, .int .i64 i)], fun i h' => i ≤ 5 ∧ EPs h' h.size F e 0 1 0 i (M'.t + i) ∧ ChgT h.size TyE _ h', fun i => 10 - i, 0, ⟨rfl, rfl, rfl, trivial⟩, ⟨by omega, E11, ChgT.refl _⟩, ?_⟩
    rintro k h14 ⟨hk, E14, c14⟩
    have hib14 := c14.typ _ _ _ _ hib10 (by decide)
    repeat (first | refine ⟨_, cell_blk (hib14) rfl, ?_⟩)
    rw [eP]
    refine (rfBound_spec (p := F.P) (by omega)).mono ?_
    rintro v h15 ⟨rfl, rfl⟩
    refine xif_true (decide_eq_true ?_) ?_
    · show (k : Int) < ((32 + 8 * F.P : Nat) : Int)
      omega
    refine (eStep_all E14 (by omega) (by omega)).mono ?_
    rintro v h16 ⟨rfl, E16, c16⟩
    rcases Nat.lt_or_ge k 5 with hk5 | hk5
    · rw [show (k == 5) = false from beq_eq_false_iff_ne.2 (by omega)]
      rw [if_neg (by omega), if_neg (by omega)] at E16
      exact ⟨k + 1, ⟨rfl, rfl, slot_inc (by omega), trivial⟩, ⟨by omega, E16, c14.trans c16⟩, by show 10 - (k + 1) < 10 - k; omega⟩
    · have e5 : k = 5 := by omega
      subst e5
      rw [if_pos rfl, if_pos rfl] at E16
      refine (eSent_spec E16).mono ?_
      rintro v h17 ⟨A17, c17, l17, rfl, row17, hl17, ok17, x17⟩
      have E17 := E16.ext0 x17
      refine E17.idle.mono ?_
      rintro v h18 ⟨rfl, rfl⟩
      obtain ⟨b, hb, wt⟩ := E17.waits
      have hb : b = false := by rw [hb rfl]; rfl
      subst hb
      refine wt.mono ?_
      rintro v h19 ⟨rfl, rfl⟩
      obtain ⟨y, hy⟩ : ∃ y, l17[0]? = some y := ⟨l17[0]'(by omega), List.getElem?_eq_getElem (by omega)⟩
      obtain ⟨a, ha, hrd⟩ := row17 0 y hy
      obtain ⟨z1, z2, z3, z4, z5⟩ := ok17 0 y hy
      subst ha
      have r1 : cell _ ((a.add (0 * 5)).add 1) = some (.int .i64 y.from_) := hrd.get 1 rfl
      have r2 : cell _ ((a.add (0 * 5)).add 2) = some (.int .i64 y.to) := hrd.get 2 rfl
      have r3 : cell _ ((a.add (0 * 5)).add 3) = some (.int .i64 y.how) := hrd.get 3 rfl
      have r4 : cell _ ((a.add (0 * 5)).add 4) = some (.int .i64 y.mark) := hrd.get 4 rfl
      rw [Nat.zero_mod] at z2
      refine ⟨a, rfl, by decide, by decide, _, r1, ?_⟩
      refine xif_true (by rw [z2]; rfl) ?_
      refine ⟨a, rfl, by decide, by decide, _, r2, ?_⟩
      refine xif_true (by rw [z3, hq]; rfl) ?_
      refine ⟨a, rfl, by decide, by decide, _, r3, ?_⟩
      refine xif_true (by rw [z4]; rfl) ?_
      refine ⟨a, rfl, by decide, by decide, _, r4, ?_⟩
      refine xif_true (decide_eq_true z5) ?_
      refine (eLog_spec E17).mono ?_
      rintro v h20 ⟨A20, c20, rfl, x20⟩
      exact ⟨rfl, (((c16.ext (c14.ext (c10.ext (Fr.ext.trans x47)))).trans x17)).trans x20⟩
  · exact ⟨i + 1, ⟨rfl, rfl, rfl, slot_inc (by omega), trivial⟩, ⟨n', ph', by omega, P11, c10.trans c11⟩, by show 10 - (i + 1) < 10 - i; omega⟩
end Go.Proofs.YthoikbogkhpciaaGreatE
