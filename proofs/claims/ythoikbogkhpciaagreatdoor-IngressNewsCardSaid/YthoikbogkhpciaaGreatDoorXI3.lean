/- IngressNews: of ports and whos that there aren't there is none, and of one that isn't there nothing is told. Conditions: the arguments are of their types. -/
import Derived.Test.YthoikbogkhpciaaGreatDoorXI2
set_option linter.unusedVariables false
set_option linter.unusedSimpArgs false
set_option maxRecDepth 100000
namespace Go.Proofs.YthoikbogkhpciaaGreatDoorE
open Go Go.Proofs
def env_iStep2 : Nat → Ann
  | 4 => ⟨.op 0 [] <| .op 1 [] <| .op 2 [] <| .op 3 [] <| .op 4 [] <| .op 5 [] <| .op 6 [] <| .op 7 [] <| .op 8 [] <| .op 9 [4] <| .op 10 [] <| .op 11 [] <| .op 12 [] <| .op 13 [] <| .nil, [0, 0, 2, 6, 14, 0, 32, 96, 224, 480, 1022, 2047, 4095, 8191], false⟩
  | _ => ⟨.nil, [], false⟩
def env_iDone2 : Nat → Ann
  | 7 => ⟨.op 0 [] <| .op 1 [] <| .op 2 [] <| .op 3 [] <| .op 4 [] <| .op 5 [] <| .op 6 [] <| .op 7 [] <| .op 8 [] <| .op 10 [] <| .op 11 [] <| .op 12 [] <| .op 13 [] <| .op 14 [] <| .op 9 [14] <| .op 15 [] <| .op 16 [] <| .op 17 [] <| .op 18 [] <| .op 19 [] <| .op 20 [] <| .op 21 [] <| .nil, [0, 0, 0, 0, 0, 0, 48, 112, 240, 496, 0, 0, 3072, 7168, 15360, 32752, 65523, 131059, 262131, 524287, 1048575, 2097151], false⟩
  | _ => ⟨.nil, [], false⟩
def env_iBound2 : Nat → Ann
  | 4 => ⟨.op 0 [] <| .op 1 [] <| .op 2 [] <| .op 3 [] <| .op 7 [] <| .op 8 [] <| .op 9 [] <| .op 4 [8] <| .op 5 [] <| .op 6 [] <| .op 10 [] <| .op 11 [] <| .nil, [0, 1, 0, 4, 15, 31, 63, 0, 128, 384, 1023, 2047], false⟩
  | _ => ⟨.nil, [], false⟩
def env_lINews : Nat → Ann
  | 8 => ⟨.op 0 [] <| .op 1 [] <| .op 2 [] <| .op 3 [] <| .op 4 [] <| .op 5 [] <| .op 6 [] <| .op 7 [] <| .op 8 [] <| .op 9 [] <| .op 10 [] <| .op 11 [] <| .op 12 [] <| .op 13 [] <| .op 14 [] <| .op 15 [] <| .op 16 [] <| .op 17 [] <| .op 18 [] <| .op 19 [] <| .op 20 [] <| .op 21 [] <| .op 22 [] <| .op 23 [] <| .op 24 [] <| .op 25 [] <| .op 26 [] <| .op 27 [] <| .op 28 [] <| .op 29 [] <| .op 30 [] <| .op 31 [] <| .op 32 [] <| .op 33 [] <| .op 34 [] <| .op 35 [] <| .op 36 [] <| .op 37 [] <| .op 39 [] <| .op 38 [39] <| .op 40 [] <| .op 41 [] <| .op 42 [] <| .nil, [0, 1, 3, 7, 15, 31, 63, 127, 255, 511, 1023, 2047, 4095, 8191, 16383, 32767, 65535, 131071, 262143, 524287, 1048575, 2097151, 4194303, 8388607, 16777215, 33554431, 67108863, 134217727, 268435455, 536870911, 1073741823, 2147483647, 4294967295, 8589934591, 17179869183, 34359738367, 68719476735, 137438953471, 274877906943, 137438953471, 1099511627775, 2199023255551, 4398046511103], false⟩
  | _ => ⟨.nil, [], false⟩
section
variable {h h' : Heap} {F : Fb} {M : MemS} {x : IgV} {xb : Nat}
theorem cPlan2_none : HCalls Tryz.prog 29 #[.pointer none] h (fun v h' => v = .agg (planV 0 (.slice none 0 0) (.slice none 0 0) ⟨0, 0, 0⟩ 0 0 0 0).toArray ∧ Ext h h') := by
  refine xcalls env0 Tryz.func29 rfl (by kernel_rfl) rfl (by kernel_rfl) ?_
  intro b0 h1 n1
  refine ⟨rfl, rfl, canset_blk n1.this rfl, fun h2 s2 => ?_⟩
  have hb2 : h2[b0]? = some (.cells (planV 0 (.slice none 0 0) (.slice none 0 0) ⟨0, 0, 0⟩ 0 0 0 0).toArray _ (0, 0)) := s2.put n1.this
  exact ⟨planV 0 (.slice none 0 0) (.slice none 0 0) ⟨0, 0, 0⟩ 0 0 0 0, rfl, reads_all hb2, rfl, n1.ext.stored s2 (n1.ge (Ext.refl _))⟩
theorem iIdle_none : HCalls Tryz.prog 15 #[.pointer none] h (fun v h' => v = .bool true ∧ h' = h) := by
  refine xcalls env0 Tryz.func15 rfl (by kernel_rfl) rfl (by kernel_rfl) ?_
  exact ⟨rfl, rfl⟩
theorem iStep_none : HCalls Tryz.prog 14 #[.pointer none] h (fun v h' => v = .bool true ∧ h' = h) := by
  refine xcalls env_iStep2 Tryz.func14 rfl (by kernel_rfl) rfl (by kernel_rfl) ?_
  refine iIdle_none.mono ?_
  rintro v h1 ⟨rfl, rfl⟩
  refine iIdle_none.mono ?_
  rintro v h1 ⟨rfl, rfl⟩
  exact ⟨rfl, rfl⟩
theorem iStep_idle (H : IgAt h xb x) (hn : x.next = .nilFunc) : HCalls Tryz.prog 14 #[.pointer (some ⟨xb, 0, none⟩)] h (fun v h' => v = .bool true ∧ h' = h) := by
  refine xcalls env_iStep2 Tryz.func14 rfl (by kernel_rfl) rfl (by kernel_rfl) ?_
  refine (iIdle_nil H hn).mono ?_
  rintro v h1 ⟨rfl, rfl⟩
  refine (iIdle_nil H hn).mono ?_
  rintro v h1 ⟨rfl, rfl⟩
  exact ⟨rfl, rfl⟩
theorem iBegin_none {a b c : Value} : HCalls Tryz.prog 13 #[.pointer none, .int .i64 1, .slice none 0 0, .int .u32 0] h (fun v h' => v = .bool false ∧ h' = h) := by
  refine xcalls env0 Tryz.func13 rfl (by kernel_rfl) rfl (by kernel_rfl) ?_
  exact ⟨rfl, rfl⟩
theorem iBegin_neg (H : IgAt h xb x) (hn : x.next = .nilFunc) : HCalls Tryz.prog 13 #[.pointer (some ⟨xb, 0, none⟩), .int .i64 (-1), .slice none 0 0, .int .u32 0] h (fun v h' => v = .bool false ∧ h' = h) := by
  obtain ⟨f, P, rA, rn, rc, vA, vn, vc, s, tries, ring, normal, short, p, who, g1, g2, g3, g4, next, dA, dn, dc, lA, ln, lc, id', why, vid, learned, found, bA, bn, bc⟩ := x
  simp only at hn
  subst hn
  refine xcalls env0 Tryz.func13 rfl (by kernel_rfl) rfl (by kernel_rfl) ?_
  repeat (first | refine ⟨_, cell_blk (H) rfl, ?_⟩)
  exact ⟨rfl, rfl⟩
theorem iDone_none : HCalls Tryz.prog 16 #[.pointer none] h (fun v h' => v = .slice none 0 0 ∧ h' = h) := by
  refine xcalls env_iDone2 Tryz.func16 rfl (by kernel_rfl) rfl (by kernel_rfl) ?_
  exact ⟨rfl, rfl⟩
theorem iLog_none : HCalls Tryz.prog 17 #[.pointer none] h (fun v h' => v = .slice none 0 0 ∧ h' = h) := by
  refine xcalls env0 Tryz.func17 rfl (by kernel_rfl) rfl (by kernel_rfl) ?_
  exact ⟨rfl, rfl⟩
theorem iBound_none : HCalls Tryz.prog 18 #[.pointer none] h (fun v h' => v = .int .i64 0 ∧ h' = h) := by
  refine xcalls env_iBound2 Tryz.func18 rfl (by kernel_rfl) rfl (by kernel_rfl) ?_
  exact ⟨rfl, rfl⟩
theorem iBound_fab (H : FabAt h F) (ok : F.s.Ok) (t1 : 1 ≤ F.tries) (t2 : F.tries ≤ 8) : HCalls Tryz.prog 18 #[.pointer (some ⟨F.fb, 0, none⟩)] h (fun v h' => v = .int .i64 (16 + 2 * bndM F.s F.tries + 8 * F.P) ∧ Ext h h') := by
  have p2 := H.p2
  refine xcalls env_iBound2 Tryz.func18 rfl (by kernel_rfl) rfl (by kernel_rfl) ?_
  refine (cPlan_spec H).mono ?_
  rintro v h1 ⟨A', c', B', d', rfl, oR, oV, x1⟩
  intro pb h2 n2
  refine ⟨rfl, rfl, canset_blk n2.this rfl, fun h3 s3 => ?_⟩
  have hpb : h3[pb]? = some (.cells (planV F.P (.slice A' F.rules.length c') (.slice B' F.vls.length d') F.s F.tries F.S F.normal F.short).toArray 72 (0, 0)) := s3.put n2.this
  have x3 := (x1.trans n2.ext).stored s3 (n2.ge x1)
  refine ⟨[.int .i64 F.s.sh, .int .i64 F.s.bk, .int .i64 F.s.sl], rfl, reads_at hpb rfl, ?_⟩
  repeat (first | refine ⟨_, cell_blk (hpb) rfl, ?_⟩)
  refine (dBound_exact ok t1 t2).mono ?_
  rintro v h4 ⟨rfl, x4⟩
  have hpb4 := x4.blk hpb
  try (refine ⟨by ((repeat (first | refine ⟨cell_blk (hpb4) rfl, ?_⟩)); exact trivial), ?_⟩)
  repeat (first | refine ⟨_, cell_blk (hpb4) rfl, ?_⟩)
  have hb := bndM_range ok t1 t2
  refine ⟨congrArg (Value.int .i64) ?_, x3.trans x4⟩
  rw [wrap_i64 (x := 2 * bndM F.s F.tries) (by omega) (by omega), wrap_i64 (x := 16 + 2 * bndM F.s F.tries) (by omega) (by omega), wrap_i64 (x := 8 * (F.P : Int)) (by omega) (by omega), wrap_i64 (by omega) (by omega)]
theorem iNew_none {g1 g2 g3 : Value} {g4 : Int} : HCalls Tryz.prog 12 #[.pointer none, .int .i64 0, .int .i64 0, .agg #[g1, g2, g3, .int .u32 g4]] h (fun v h' => v = .tuple #[.pointer none, .int .i64 1] ∧ Ext h h') := by
  refine xcalls env0 Tryz.func12 rfl (by kernel_rfl) rfl (by kernel_rfl) ?_
  intro gb h1 n1
  refine cPlan2_none.mono ?_
  rintro v h2 ⟨rfl, x2⟩
  intro pb h3 n3
  refine ⟨rfl, rfl, canset_blk n3.this rfl, fun h4 s4 => ?_⟩
  have x12 := n1.ext.trans x2
  exact ⟨rfl, (x12.trans n3.ext).stored s4 (n3.ge x12)⟩
theorem iNew_bad (H : FabAt h F) {p who : Int} (hb : who < 0 ∨ p < 0 ∨ F.P ≤ p) {g1 g2 g3 : Value} {g4 : Int} : HCalls Tryz.prog 12 #[.pointer (some ⟨F.fb, 0, none⟩), .int .i64 p, .int .i64 who, .agg #[g1, g2, g3, .int .u32 g4]] h (fun v h' => v = .tuple #[.pointer none, .int .i64 (if who < 0 then 1 else 5)] ∧ Ext h h') := by
  refine xcalls env0 Tryz.func12 rfl (by kernel_rfl) rfl (by kernel_rfl) ?_
  intro gb h1 n1
  refine (cPlan_spec (H.ext n1.ext)).mono ?_
  rintro v h2 ⟨A', c', B', d', rfl, oR, oV, x2⟩
  intro pb h3 n3
  refine ⟨rfl, rfl, canset_blk n3.this rfl, fun h4 s4 => ?_⟩
  have hpb : h4[pb]? = some (.cells (planV F.P (.slice A' F.rules.length c') (.slice B' F.vls.length d') F.s F.tries F.S F.normal F.short).toArray 72 (0, 0)) := s4.put n3.this
  have x12 := n1.ext.trans x2
  have x4 := (x12.trans n3.ext).stored s4 (n3.ge x12)
  refine xif_of (fun g => ?_) (fun g => ?_)
  · have g : who < 0 := of_decide_eq_true g
    exact ⟨by rw [if_pos g]; rfl, x4⟩
  have g : ¬ who < 0 := of_decide_eq_false g
  rw [if_neg g]
  refine xif_of (fun g2 => ?_) (fun g2 => ?_)
  · exact ⟨rfl, x4⟩
  have g2 : ¬ p < 0 := of_decide_eq_false g2
  repeat (first | refine ⟨_, cell_blk (hpb) rfl, ?_⟩)
  refine xif_true (decide_eq_true (show p ≥ (F.P : Int) by omega)) ?_
  exact ⟨rfl, x4⟩
end
theorem lINews_spec {h : Heap} {A B : Option Addr} {na ca nb cb : Nat} {rules : List Ru} {vls : List Vl} {P tries ring normal short port who : Int} {s : Sz}
    (hra : Row encRu 2 h A rules) (hla : rules.length = na) (hrb : Row encVl 3 h B vls) (hlb : vls.length = nb) (wf : ∀ v ∈ vls, SetWf v.mem ∧ SetWf v.unt) :
    HCalls Tryz.prog 4 #[.agg (planV P (.slice A na ca) (.slice B nb cb) s tries ring normal short).toArray, .int .i64 port, .int .i64 who] h (fun v h' => v = .bool true ∧ Ext h h') := by
  refine xcalls env_lINews Tryz.func4 rfl (by kernel_rfl) rfl (by kernel_rfl) ?_
  intro ib h1 n1
  refine ⟨_, rfl, reads_all n1.this, ?_⟩
  refine (rPFix_spec (n1.ext.row hra) hla (n1.ext.row hrb) hlb wf).mono ?_
  rintro v h2 ⟨A1, c1, B1, d1, rfl, oR, oV, x2⟩
  have oR : OwnA encRu 2 _ h1.size h2 A1 c1 (fixRules P rules) := oR
  have oV : OwnA encVl 3 _ h1.size h2 B1 d1 (fixVlans P vls) := oV
  have hib2 := x2.blk n1.this
  refine ⟨rfl, rfl, canset_blk hib2 rfl, fun h3 s3 => ?_⟩
  have hib : h3[ib]? = some (.cells (planV (fixPorts P) (.slice A1 (fixPorts P).toNat c1) (.slice B1 (fixVlans P vls).length d1) (fixSz s) (fixTries tries) (fixRing ring) normal short).toArray 32 (0, 0)) := s3.put hib2
  have x3 : Ext h h3 := (n1.ext.trans x2).stored s3 (n1.ge (Ext.refl _))
  have c3 : Chg [(ib, 32)] h2 h3 := s3.chg hib2 (.head _)
  have oR3 := oR.chg c3 (fun b _ => by simp)
  have oV3 := oV.chg c3 (fun b _ => by simp)
  refine ⟨_, rfl, reads_all hib, ?_⟩
  refine (lMake_fix2 (oR3.row encRu_len) (oV3.row encVl_len) wf).mono ?_
  rintro v h4 ⟨F, M, rfl, eP, eS, p8, Fr0, eV, eR, eZ, eT⟩
  have Fr := Fr0.mono x3
  have p1 := Fr.fab.p1
  refine told20_spec.mono ?_
  rintro v h5 ⟨rfl, x5⟩
  have Fr5 := Fr.of_ext x5
  have hib5 := (Fr0.ext.trans x5).blk hib
  rw [eP] at hib5
  have tr : 1 ≤ F.tries ∧ F.tries ≤ 8 := by
    rw [eT]
    exact fixTries_range tries
  by_cases hb : who < 0 ∨ port < 0 ∨ F.P ≤ port
  · refine (iNew_bad Fr5.fab hb).mono ?_
    rintro v h6 ⟨rfl, x6⟩
    refine iNew_none.mono ?_
    rintro v h7 ⟨rfl, x7⟩
    refine (iBegin_none (a := .nilFunc) (b := .nilFunc) (c := .nilFunc)).mono ?_
    rintro v h8 ⟨rfl, rfl⟩
    refine iStep_none.mono ?_
    rintro v h8 ⟨rfl, rfl⟩
    refine iIdle_none.mono ?_
    rintro v h8 ⟨rfl, rfl⟩
    refine iDone_none.mono ?_
    rintro v h8 ⟨rfl, rfl⟩
    refine iLog_none.mono ?_
    rintro v h8 ⟨rfl, rfl⟩
    refine iBound_none.mono ?_
    rintro v h8 ⟨rfl, rfl⟩
    have Fr8 := Fr5.of_ext (x6.trans x7)
    have hib8 := (x6.trans x7).blk hib5
    first | refine ⟨_, rfl, reads_all hib8, ?_⟩ | skip
    refine (iBound_fab Fr8.fab Fr8.sok tr.1 tr.2).mono ?_
    rintro v h9 ⟨rfl, x9⟩
    have hib9 := x9.blk hib8
    refine ⟨⟨reads_all hib9, trivial⟩, ?_⟩
    refine (lBound20_spec (fixSz_ok _) (fixTries_range _).1 (fixTries_range _).2 (by omega) (by omega)).mono ?_
    rintro v h10 ⟨rfl, x10⟩
    have hib10 := x10.blk hib9
    refine xif_false (by rw [eZ, eT]; simp) ?_
    have x10a : Ext h h10 := (((Fr5.ext.trans (x6.trans x7)).trans x9)).trans x10
    refine xif_of (fun g => ?_) (fun g => ?_)
    · have g : who < 0 := of_decide_eq_true g
      rw [if_pos g]
      exact ⟨rfl, x10a⟩
    have g : ¬ who < 0 := of_decide_eq_false g
    rw [if_neg g]
    refine xif_of (fun g2 => ?_) (fun g2 => ?_)
    · exact ⟨rfl, x10a⟩
    have g2 : ¬ port < 0 := of_decide_eq_false g2
    repeat (first | refine ⟨_, cell_blk (hib10) rfl, ?_⟩)
    refine xif_true (decide_eq_true (show port ≥ (F.P : Int) by omega)) ?_
    exact ⟨rfl, x10a⟩
  · refine (iNew_spec Fr5.fab (p := port) (who := who) (by omega) (by omega) (by omega)).mono ?_
    rintro v h6 ⟨xb, x, rfl, gxb, H6, oRx, xrn, oVx, xvn, xf, xP, xp, xw, xn, xd1, xd2, xd3, x6⟩
    refine iNew_none.mono ?_
    rintro v h7 ⟨rfl, x7⟩
    refine (iBegin_none (a := .nilFunc) (b := .nilFunc) (c := .nilFunc)).mono ?_
    rintro v h8 ⟨rfl, rfl⟩
    refine iStep_none.mono ?_
    rintro v h8 ⟨rfl, rfl⟩
    refine iIdle_none.mono ?_
    rintro v h8 ⟨rfl, rfl⟩
    refine iDone_none.mono ?_
    rintro v h8 ⟨rfl, rfl⟩
    refine iLog_none.mono ?_
    rintro v h8 ⟨rfl, rfl⟩
    refine iBound_none.mono ?_
    rintro v h8 ⟨rfl, rfl⟩
    have Fr8 := Fr5.of_ext (x6.trans x7)
    have hib8 := (x6.trans x7).blk hib5
    first | refine ⟨_, rfl, reads_all hib8, ?_⟩ | skip
    refine (iBound_fab Fr8.fab Fr8.sok tr.1 tr.2).mono ?_
    rintro v h9 ⟨rfl, x9⟩
    have hib9 := x9.blk hib8
    refine ⟨⟨reads_all hib9, trivial⟩, ?_⟩
    refine (lBound20_spec (fixSz_ok _) (fixTries_range _).1 (fixTries_range _).2 (by omega) (by omega)).mono ?_
    rintro v h10 ⟨rfl, x10⟩
    have hib10 := x10.blk hib9
    refine xif_false (by rw [eZ, eT]; simp) ?_
    have x10a : Ext h h10 := (((Fr5.ext.trans (x6.trans x7)).trans x9)).trans x10
    refine xif_false (decide_eq_false (show ¬ who < 0 by omega)) ?_
    refine xif_false (decide_eq_false (show ¬ port < 0 by omega)) ?_
    repeat (first | refine ⟨_, cell_blk (hib10) rfl, ?_⟩)
    refine xif_false (decide_eq_false (show ¬ port ≥ (F.P : Int) by omega)) ?_
    have H10 := ((x7.trans x9).trans x10).blk H6
    refine (iIdle_nil H10 xn).mono ?_
    rintro v h11 ⟨rfl, rfl⟩
    refine (iStep_idle H10 xn).mono ?_
    rintro v h11 ⟨rfl, rfl⟩
    refine (iBegin_neg H10 xn).mono ?_
    rintro v h11 ⟨rfl, rfl⟩
    refine (iBegin_spec H10 xn (id := 1099511627776) (by decide) (by decide) (A := none) (n := 0) (c := 0) (bs := []) (fun i x hx => by simp at hx) (fun _ => rfl) rfl (by decide)).mono ?_
    rintro v h12 ⟨rfl, _, _, _, _, h12a, x12, c12⟩
    exact ⟨rfl, c12.ext (x10a.trans x12) (fun p hp => by simp at hp; subst hp; exact Nat.le_trans Fr5.ext.size gxb)⟩
end Go.Proofs.YthoikbogkhpciaaGreatDoorE
