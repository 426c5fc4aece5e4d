/- EgressFair: as long as all ports have something that waits for one, each is taken from once in as many takings as there are ports. Conditions: the arguments are of their types. -/
import Derived.Test.YthoikbogkhpciaaGreatXFD
set_option linter.unusedVariables false
set_option linter.unusedSimpArgs false
set_option maxRecDepth 100000
namespace Go.Proofs.YthoikbogkhpciaaGreatE
open Go Go.Proofs
def env_eFair : Nat → Ann
  | 7 => ⟨.nil, [], true⟩
  | 12 => ⟨.nil, [], true⟩
  | 29 => ⟨.op 0 [] <| .op 1 [] <| .op 2 [] <| .op 3 [] <| .op 4 [] <| .op 5 [] <| .op 6 [] <| .op 7 [] <| .op 8 [] <| .op 9 [] <| .op 10 [] <| .op 11 [] <| .op 12 [] <| .op 13 [] <| .op 14 [] <| .op 15 [] <| .op 17 [] <| .op 16 [] <| .op 18 [] <| .op 19 [] <| .op 20 [] <| .op 21 [] <| .op 22 [] <| .op 23 [] <| .op 24 [] <| .op 25 [] <| .op 26 [] <| .op 27 [] <| .op 28 [] <| .nil, [0, 0, 3, 7, 15, 0, 0, 64, 224, 511, 1023, 2047, 2047, 8191, 16383, 32767, 65535, 2047, 262143, 524287, 1048575, 2097151, 2097151, 8388607, 16777215, 33554431, 67108863, 134217727, 268435455], false⟩
  | _ => ⟨.nil, [], false⟩
def putsN (P q N : Nat) : List Pt := (List.range N).map fun j => ⟨((j % P : Nat) : Int), (q : Int), 1⟩
theorem putsN_ok {P q N : Nat} (hP : 0 < P) (p8 : P ≤ 8) (hq : q < P) : PutsOk P q 1 (putsN P q N) := by
  intro i y hy
  unfold putsN at hy
  have hi : i < N := by have := (List.getElem?_eq_some_iff.1 hy).1; simpa using this
  rw [List.getElem?_map, List.getElem?_range hi] at hy
  cases hy
  have hm := Nat.mod_lt i hP
  refine ⟨?_, ?_, rfl⟩
  · show ((i % P : Nat) : Int) % 18446744073709551616 % P = ((i % P : Nat) : Int)
    rw [Int.emod_eq_of_lt (by omega) (by omega), Int.emod_eq_of_lt (by omega) (by omega)]
  · show (q : Int) % 18446744073709551616 % P = (q : Int)
    rw [Int.emod_eq_of_lt (by omega) (by omega), Int.emod_eq_of_lt (by omega) (by omega)]
theorem putsN_succ (P q N : Nat) : putsN P q (N + 1) = putsN P q N ++ [⟨((N % P : Nat) : Int), (q : Int), 1⟩] := by unfold putsN; rw [List.range_succ, List.map_append]; rfl
theorem putsN_len (P q N : Nat) : (putsN P q N).length = N := by unfold putsN; simp
theorem ptInfo : (Tryz.prog.info? 36).map (fun i => (i.size, i.bytes)) = some (3, 24) := by kernel_rfl
theorem ptZero : xzero Tryz.prog 36 = some (encPut ⟨0, 0, 0⟩) := by kernel_rfl
theorem eFair_spec {h : Heap} {A B : Option Addr} {na ca nb cb : Nat} {rules : List Ru} {vls : List Vl} {P tries ring normal short to n : Int} {s : Sz}
    (hra : Row encRu 2 h A rules) (hla : rules.length = na) (hrb : Row encVl 3 h B vls) (hlb : vls.length = nb) (wf : ∀ v ∈ vls, SetWf v.mem ∧ SetWf v.unt) :
    HCalls Tryz.prog 3 #[.agg (planV P (.slice A na ca) (.slice B nb cb) s tries ring normal short).toArray, .int .i64 to, .int .i64 n] h (fun v h' => v = .bool true ∧ Ext h h') := by
  refine xcalls env_eFair Tryz.func3 rfl (by kernel_rfl) rfl (by kernel_rfl) ?_
  intro ib h1 n1
  refine ⟨_, rfl, reads_all n1.this, ?_⟩
  refine (rPFix_spec (n1.ext.row hra) hla (n1.ext.row hrb) hlb wf).mono ?_
  rintro v h2 ⟨A1, c1, B1, d1, rfl, oR, oV, x2⟩
  have oR : OwnA encRu 2 _ h1.size h2 A1 c1 (fixRules P rules) := oR
  have oV : OwnA encVl 3 _ h1.size h2 B1 d1 (fixVlans P vls) := oV
  have hib2 := x2.blk n1.this
  refine ⟨rfl, rfl, canset_blk hib2 rfl, fun h3 s3 => ?_⟩
  have hib : h3[ib]? = some (.cells (planV (fixPorts P) (.slice A1 (fixPorts P).toNat c1) (.slice B1 (fixVlans P vls).length d1) (fixSz s) (fixTries tries) (fixRing ring) normal short).toArray 28 (0, 0)) := s3.put hib2
  have x3 : Ext h h3 := (n1.ext.trans x2).stored s3 (n1.ge (Ext.refl _))
  have c3 : Chg [(ib, 28)] h2 h3 := s3.chg hib2 (.head _)
  refine ⟨_, rfl, reads_all hib, ?_⟩
  refine (lMake_fix ((oR.chg c3 (fun b _ => by simp)).row encRu_len) ((oV.chg c3 (fun b _ => by simp)).row encVl_len) wf).mono ?_
  rintro v h4 ⟨F, M, rfl, eP, eS, p8, Fr0⟩
  have Fr := Fr0.mono x3
  have x34 := Fr0.ext
  have p1 := Fr.fab.p1
  have s1 := Fr.fab.s1
  have s2 := Fr.fab.s2
  refine told21_spec.mono ?_
  rintro v h5 ⟨rfl, x5⟩
  have hib5 := (x34.trans x5).blk hib
  have Fr5 := Fr.of_ext x5
  have pp : (0 : Int) < F.P := by omega
  have ss : (0 : Int) < F.S := by omega
  obtain ⟨q, hq⟩ : ∃ q : Nat, to % 18446744073709551616 % F.P = q := ⟨_, (Int.toNat_of_nonneg (Int.emod_nonneg _ (by omega))).symm⟩
  have hqP : q < F.P := by have := Int.emod_lt_of_pos (to % 18446744073709551616) pp; omega
  obtain ⟨r, hr⟩ : ∃ r : Nat, n % 18446744073709551616 % F.S = r := ⟨_, (Int.toNat_of_nonneg (Int.emod_nonneg _ (by omega))).symm⟩
  have hrS : r < F.S := by have := Int.emod_lt_of_pos (n % 18446744073709551616) ss; omega
  repeat (first | refine ⟨_, cell_blk (hib5) rfl, ?_⟩)
  rw [eP]
  refine ⟨?_, ?_⟩
  · rw [wrap_u64 (by omega) (by omega)]; omega
  refine ⟨Unit, fun _ => [(3, .pointer (some ⟨ib, 0, none⟩)), (7, .pointer (some ⟨F.fb, 0, none⟩)), (8, .int .i64 (q : Int)), (9, .int .i64 ((1 + r : Nat) : Int))], fun _ h' => h' = h5, ?_, ?_⟩
  · repeat (first | refine ⟨_, cell_blk (hib5) rfl, ?_⟩)
    rw [eS]
    refine ⟨?_, ?_⟩
    · rw [wrap_u64 (by omega) (by omega)]; omega
    refine ⟨(), ⟨rfl, rfl, congrArg (fun z => some (Value.int .i64 z)) (mod_put (by omega) (by omega) hq), ?_, trivial⟩, rfl⟩
    show some (Value.int .i64 (IntKind.i64.wrap (1 + IntKind.i64.wrap ((IntKind.u64.wrap n).tmod (IntKind.u64.wrap (F.S : Int)))))) = _
    rw [mod_put (by omega) (by omega) hr, wrap_i64 (by omega) (by omega)]
    congr 2
  rintro _ h6 rfl
  have hkP : (1 + r) * F.P ≤ 64 * 8 := Nat.mul_le_mul (by omega) p8
  have hkS : (1 + r) * F.P ≤ F.S * F.P := Nat.mul_le_mul_right _ (by omega)
  have wkP : IntKind.i64.wrap (((1 + r : Nat) : Int) * (F.P : Int)) = (((1 + r) * F.P : Nat) : Int) := by
    rw [wrap_i64 (by have : (((1 + r : Nat) : Int) * (F.P : Int)) = (((1 + r) * F.P : Nat) : Int) := by push_cast; rfl
                     omega) (by have : (((1 + r : Nat) : Int) * (F.P : Int)) = (((1 + r) * F.P : Nat) : Int) := by push_cast; rfl
                                omega)]
    push_cast; rfl
  refine ⟨Nat × Option Addr × Nat, fun z => [(3, .pointer (some ⟨ib, 0, none⟩)), (7, .pointer (some ⟨F.fb, 0, none⟩)), (8, .int .i64 (q : Int)), (10, .slice z.2.1 z.1 z.2.2)],
    fun z h' => z.1 ≤ 30 ∧ z.1 ≤ (1 + r) * F.P ∧ OwnA encPut 3 36 h6.size h' z.2.1 z.2.2 (putsN F.P q z.1) ∧ Ext h6 h', ?_, ?_⟩
  · refine ⟨Nat × Option Addr × Nat, fun z => [(3, .pointer (some ⟨ib, 0, none⟩)), (7, .pointer (some ⟨F.fb, 0, none⟩)), (8, .int .i64 (q : Int)), (9, .int .i64 ((1 + r : Nat) : Int)), (10, .slice z.2.1 z.1 z.2.2), (11, .int .i64 z.1)],
      fun z h' => z.1 ≤ 30 ∧ z.1 ≤ (1 + r) * F.P ∧ OwnA encPut 3 36 h6.size h' z.2.1 z.2.2 (putsN F.P q z.1) ∧ Ext h6 h', fun z => 30 - z.1, (0, none, 0), ⟨rfl, rfl, rfl, rfl, rfl, rfl, trivial⟩, ⟨by omega, by omega, .inl ⟨rfl, rfl, rfl⟩, Ext.refl _⟩, ?_⟩
    rintro ⟨i, LA, lc⟩ h7 ⟨hi1, hi2, ol, x7⟩
    simp only at hi1 hi2 ol
    have hib7 := x7.blk hib5
    repeat (first | refine ⟨_, cell_blk (hib7) rfl, ?_⟩)
    rw [eP]
    refine xif_of (fun g => ?_) (fun g => ?_)
    · have g : (i : Int) < IntKind.i64.wrap (((1 + r : Nat) : Int) * (F.P : Int)) := of_decide_eq_true g
      rw [wkP] at g
      refine xif_of (fun g2 => ?_) (fun g2 => ?_)
      · have g2 : (i : Int) < 30 := of_decide_eq_true g2
        repeat (first | refine ⟨_, cell_blk (hib7) rfl, ?_⟩)
        rw [eP]
        refine ⟨by omega, ?_⟩
        intro nb h8 n8
        have e1 : ((i : Int)).tmod F.P = ((i % F.P : Nat) : Int) := by rw [Int.tmod_eq_emod_of_nonneg (by omega), ← Int.natCast_emod]
        have n8' : New h7 h8 nb (.cells (encPut ⟨((i % F.P : Nat) : Int), (q : Int), 1⟩).toArray 36) := by
          have := n8
          rw [← e1]
          exact this
        refine xappend_one' ptInfo ptZero rfl (by decide) encPut_len encPut_one ol n8' (putsN_len ..) (by show (i + 1) * 24 ≤ 140737488355328; omega) x7.size fun A2 c2 h9 o9 K9 _ => ?_
        refine ⟨(i + 1, A2, c2), ⟨rfl, rfl, rfl, rfl, rfl, slot_inc (by omega), trivial⟩, ⟨by show i + 1 ≤ 30; omega, by show i + 1 ≤ (1 + r) * F.P; omega, ?_, ?_⟩, by show 30 - (i + 1) < 30 - i; omega⟩
        · show OwnA encPut 3 36 h6.size h9 A2 c2 (putsN F.P q (i + 1))
          rw [putsN_succ]
          exact o9
        · exact K9.ext x7 ol.ge
      · exact ⟨(i, LA, lc), ⟨rfl, rfl, rfl, rfl, trivial⟩, hi1, hi2, ol, x7⟩
    · exact ⟨(i, LA, lc), ⟨rfl, rfl, rfl, rfl, trivial⟩, hi1, hi2, ol, x7⟩
  rintro ⟨N, LA, lc⟩ h7 ⟨hN1, hN2, ol, x7⟩
  simp only at hN1 hN2 ol
  intro xb h8 n8
  have x8 : Ext h6 h8 := x7.trans n8.ext
  have xh8 : Ext h h8 := (Fr.ext.trans x5).trans x8
  have Fr8 := Fr5.of_ext x8
  have Mt := Fr.t
  have Q8 : MemQ h8 h.size F q 1 M 0 0 noB noB := Fr8.memq hqP 1
  have P8 : PP h8 h.size F xb q 1 N 0 0 M.t M.locks :=
    ⟨⟨F.fb, LA, N, lc, 0, none, none, 0, 0, 0⟩, M, rfl, rfl, Nat.zero_le _, ⟨n8.this, rfl, rfl, rfl, rfl, rfl, ⟨_, (ol.ext n8.ext).base0, putsN_len .., putsN_ok (by omega) p8 hqP⟩, ⟨[], .inl ⟨rfl, rfl, rfl⟩, rfl⟩, Q8, n8.ge ((Fr.ext.trans x5).trans x7), xh8.size, hN1, by omega, by omega⟩⟩
  have hib8 := x8.blk hib5
  refine ⟨Nat, fun i => [(3, .pointer (some ⟨ib, 0, none⟩)), (7, .pointer (some ⟨F.fb, 0, none⟩)), (8, .int .i64 (q : Int)), (10, .slice LA N lc), (12, .pointer (some ⟨xb, 0, none⟩)), (13, .int .i64 i)],
    fun i h' => ∃ m ph, i = 3 * m + ph ∧ PP h' h.size F xb q 1 N m ph (M.t + i) M.locks ∧ ChgT h.size TyP h8 h', fun i => 400 - i, 0, ⟨rfl, rfl, rfl, rfl, rfl, rfl, trivial⟩, ⟨0, 0, rfl, P8, ChgT.refl _⟩, ?_⟩
  rintro i h9 ⟨m, ph, hi, P9, c9⟩
  have hle := P9.le
  have hib9 := c9.typ _ _ _ _ hib8 (by decide)
  refine xif_true (decide_eq_true ?_) ?_
  · show (i : Int) < 400
    omega
  repeat (first | refine ⟨_, cell_blk (hib9) rfl, ?_⟩)
  rw [eP]
  refine (pStep_all P9 (by omega)).mono ?_
  rintro v h10 (⟨rfl, rfl, rfl, rfl⟩ | ⟨rfl, m', ph', hm', P10, c10⟩)
  · obtain ⟨y, M', hlk, ht, _, S⟩ := P9
    refine (eNew_spec S.mq.fab (q := q) (who := 9) hqP (by decide)).mono ?_
    rintro v h11 ⟨e, rfl, heq, hew, I, x11⟩
    have I11 : EgI h11 h.size F e := ⟨I.raw, I.lane, I.rows.mono S.hB, Nat.le_trans S.hB I.b1, Nat.le_trans S.hB I.b2, I.who⟩
    have Q11 : MemQ h11 h.size F e.q 1 M' m 0 (fun _ => false) noB := by rw [heq]; exact S.mq.ext x11
    have E11 := I11.eps Q11 (by rw [hlk, heq]; exact Fr.locks _ hqP) (Nat.le_trans S.hB x11.size) (by omega) (by omega)
    have hib11 := x11.blk hib9
    refine ⟨Nat, fun i => [(3, .pointer (some ⟨ib, 0, none⟩)), (10, .slice LA m lc), (14, .pointer (some ⟨e.eb, 0, none⟩)), (16, .int .i64 i)],
      fun i h' => ∃ t ph, i = 6 * t + ph ∧ t ≤ m ∧ (ph ≠ 0 → t < m) ∧ ph ≤ 5 ∧ EPs h' h.size F e 1 m t ph (M'.t + i) ∧ ChgT h.size TyE h11 h', fun i => 1000 - i, 0, ⟨rfl, rfl, rfl, rfl, trivial⟩, ⟨0, 0, rfl, Nat.zero_le _, fun g => absurd rfl g, by omega, E11, ChgT.refl _⟩, ?_⟩
    rintro k h12 ⟨t, ph, hk, htm, hph, hp5, E12, c12⟩
    have hib12 := c12.typ _ _ _ _ hib11 (by decide)
    repeat (first | refine ⟨_, cell_blk (hib12) rfl, ?_⟩)
    rw [eP]
    refine (rfBound_spec (p := F.P) (by omega)).mono ?_
    rintro v h13 ⟨rfl, rfl⟩
    refine xif_true (decide_eq_true ?_) ?_
    · show (k : Int) < IntKind.i64.wrap (30 * ((32 + 8 * F.P : Nat) : Int))
      rw [wrap_i64 (by omega) (by omega)]
      omega
    obtain ⟨b, hb, wt⟩ := E12.waits
    refine wt.mono ?_
    rintro v h14 ⟨rfl, rfl⟩
    cases b with
    | true =>
      have hlt : t < m := by
        by_cases h0 : ph = 0
        · have := hb h0
          exact of_decide_eq_true this.symm
        · exact hph h0
      refine (eStep_all E12 hlt (by omega)).mono ?_
      rintro v h15 ⟨rfl, E15, c15⟩
      exact ⟨k + 1, ⟨rfl, rfl, rfl, slot_inc (by omega), trivial⟩, ⟨if ph = 5 then t + 1 else t, if ph = 5 then 0 else ph + 1, by split <;> omega, by split <;> omega, by intro g; split at g <;> (try split) <;> omega, by split <;> omega, E15, c12.trans c15⟩, by show 1000 - (k + 1) < 1000 - k; omega⟩
    | false =>
      refine E12.idle.mono ?_
      rintro v h14 ⟨rfl, rfl⟩
      by_cases h0 : ph = 0
      · subst h0
        have e : t = m := by have := of_decide_eq_false (hb rfl).symm; omega
        subst e
        refine (eSent_spec E12).mono ?_
        rintro v h15 ⟨A15, c15, l15, rfl, row15, hl15, ok15, x15⟩
        refine xif_false (by simp) ?_
        have hib15 := x15.blk hib12
        have xall : Ext h _ := (c12.ext ((c9.ext xh8).trans x11)).trans x15
        refine ⟨Nat, fun i => [(3, .pointer (some ⟨ib, 0, none⟩)), (17, .slice A15 t c15), (18, .int .i64 i)], fun i h' => i ≤ t ∧ h' = h15, fun i => t - i, 0, ⟨rfl, rfl, rfl, trivial⟩, ⟨Nat.zero_le _, rfl⟩, ?_⟩
        rintro z h16 ⟨hz, rfl⟩
        refine xif_of (fun g => ?_) (fun g => ?_)
        · have g : (z : Int) < (t : Int) := of_decide_eq_true g
          obtain ⟨w, hw⟩ : ∃ w, l15[z]? = some w := ⟨l15[z]'(by omega), List.getElem?_eq_getElem (by omega)⟩
          obtain ⟨a, ha, hrd⟩ := row15 z w hw
          obtain ⟨z1, z2, z3, z4, z5⟩ := ok15 z w hw
          subst ha
          have r0 : cell _ ((a.add (z * 5)).add 0) = some (.int .i64 w.tick) := hrd.get 0 rfl
          have r1 : cell _ ((a.add (z * 5)).add 1) = some (.int .i64 w.from_) := hrd.get 1 rfl
          refine ⟨a, rfl, Int.natCast_nonneg z, g, _, r1, ?_⟩
          repeat (first | refine ⟨_, cell_blk (hib15) rfl, ?_⟩)
          rw [eP]
          refine ⟨by omega, ?_⟩
          rw [z1] at r0
          refine xif_false ?_ ?_
          · show (w.from_ != (z : Int).tmod (F.P : Int)) = false
            rw [z2, Int.tmod_eq_emod_of_nonneg (by omega), ← Int.natCast_emod]
            simp
          refine ⟨a, rfl, Int.natCast_nonneg z, g, _, r0, ?_⟩
          refine (iId_spec (i := z) (v := 1) (by omega) (by omega)).mono ?_
          rintro v h17 ⟨rfl, rfl⟩
          refine xif_false (by simp) ?_
          refine ⟨a, rfl, Int.natCast_nonneg z, g, _, r0, ?_⟩
          refine (iVid_spec (i := z) (v := 1) (by omega) (by omega)).mono ?_
          rintro v h18 ⟨rfl, rfl⟩
          exact ⟨z + 1, ⟨rfl, rfl, slot_inc (by omega), trivial⟩, ⟨by omega, rfl⟩, by show t - (z + 1) < t - z; omega⟩
        · exact ⟨rfl, xall⟩
      · have hlt := hph h0
        rw [show (ph == 0) = false from beq_eq_false_iff_ne.2 h0]
        refine (eStep_all E12 hlt (by omega)).mono ?_
        rintro v h15 ⟨rfl, E15, c15⟩
        exact ⟨k + 1, ⟨rfl, rfl, rfl, slot_inc (by omega), trivial⟩, ⟨if ph = 5 then t + 1 else t, if ph = 5 then 0 else ph + 1, by split <;> omega, by split <;> omega, by intro g; split at g <;> (try split) <;> omega, by split <;> omega, E15, c12.trans c15⟩, by show 1000 - (k + 1) < 1000 - k; omega⟩
  · exact ⟨i + 1, ⟨rfl, rfl, rfl, rfl, rfl, slot_inc (by omega), trivial⟩, ⟨m', ph', by omega, P10, c9.trans c10⟩, by show 400 - (i + 1) < 400 - i; omega⟩
end Go.Proofs.YthoikbogkhpciaaGreatE
