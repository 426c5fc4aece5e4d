/- EgressNews: of ports and whos that there aren't there is none, and of one that isn't there nothing is told. Conditions: the arguments are of their types. -/
import Derived.Test.YthoikbogkhpciaaGreatXFE
set_option linter.unusedVariables false
set_option linter.unusedSimpArgs false
set_option maxRecDepth 100000
namespace Go.Proofs.YthoikbogkhpciaaGreatE
open Go Go.Proofs
def env_eNews : Nat → Ann
  | 8 => ⟨.op 0 [] <| .op 1 [] <| .op 2 [] <| .op 3 [] <| .op 4 [] <| .op 5 [] <| .op 6 [] <| .op 7 [] <| .op 8 [] <| .op 9 [] <| .op 10 [] <| .op 11 [] <| .op 12 [] <| .op 13 [] <| .op 14 [] <| .op 15 [] <| .op 16 [] <| .op 17 [] <| .op 18 [] <| .op 19 [] <| .op 20 [] <| .op 21 [] <| .op 22 [] <| .op 23 [] <| .op 24 [] <| .op 25 [] <| .op 26 [] <| .op 27 [] <| .op 28 [] <| .op 29 [] <| .op 30 [] <| .op 31 [] <| .op 32 [] <| .op 33 [] <| .op 34 [] <| .op 35 [] <| .op 36 [] <| .op 37 [] <| .op 39 [] <| .op 40 [] <| .op 38 [40] <| .op 41 [] <| .op 42 [] <| .op 43 [] <| .nil, [0, 1, 3, 7, 15, 31, 63, 127, 255, 511, 1023, 2047, 4095, 8191, 16383, 32767, 65535, 131071, 262143, 524287, 1048575, 2097151, 4194303, 8388607, 16777215, 33554431, 67108863, 134217727, 268435455, 536870911, 1073741823, 2147483647, 4294967295, 8589934591, 17179869183, 34359738367, 68719476735, 137438953471, 274877906943, 137438953471, 687194767359, 2199023255551, 4398046511103, 8796093022207], false⟩
  | _ => ⟨.nil, [], false⟩
section
variable {h h' : Heap} {F : Fb}
theorem eIdle_none : HCalls Tryz.prog 16 #[.pointer none] h (fun r h' => r = .bool true ∧ h' = h) := by
  refine xcalls env0 Tryz.func16 rfl (by kernel_rfl) rfl (by kernel_rfl) ?_
  exact ⟨rfl, rfl⟩
theorem eWaits_none : HCalls Tryz.prog 15 #[.pointer none] h (fun r h' => r = .bool false ∧ h' = h) := by
  refine xcalls env0 Tryz.func15 rfl (by kernel_rfl) rfl (by kernel_rfl) ?_
  exact ⟨rfl, rfl⟩
theorem eStep_nil : HCalls Tryz.prog 17 #[.pointer none] h (fun r h' => r = .bool true ∧ h' = h) := by
  refine xcalls env0 Tryz.func17 rfl (by kernel_rfl) rfl (by kernel_rfl) ?_
  refine eIdle_none.mono ?_
  rintro r h1 ⟨rfl, rfl⟩
  refine eWaits_none.mono ?_
  rintro r h1 ⟨rfl, rfl⟩
  exact ⟨rfl, rfl⟩
theorem eSent_none : HCalls Tryz.prog 18 #[.pointer none] h (fun r h' => r = .slice none 0 0 ∧ h' = h) := by
  refine xcalls env0 Tryz.func18 rfl (by kernel_rfl) rfl (by kernel_rfl) ?_
  exact ⟨rfl, rfl⟩
theorem eLog_none : HCalls Tryz.prog 21 #[.pointer none] h (fun r h' => r = .slice none 0 0 ∧ h' = h) := by
  refine xcalls env0 Tryz.func21 rfl (by kernel_rfl) rfl (by kernel_rfl) ?_
  exact ⟨rfl, rfl⟩
theorem eBound_none : HCalls Tryz.prog 22 #[.pointer none] h (fun r h' => r = .int .i64 0 ∧ h' = h) := by
  refine xcalls env0 Tryz.func22 rfl (by kernel_rfl) rfl (by kernel_rfl) ?_
  exact ⟨rfl, rfl⟩
theorem eNew_none (p who : Int) : HCalls Tryz.prog 13 #[.pointer none, .int .i64 p, .int .i64 who] h (fun r h' => r = .tuple #[.pointer none, .int .i64 1] ∧ h' = h) := by
  refine xcalls env0 Tryz.func13 rfl (by kernel_rfl) rfl (by kernel_rfl) ?_
  exact ⟨rfl, rfl⟩
theorem eNew_who (p : Int) {who : Int} (hw : who < 0) : HCalls Tryz.prog 13 #[.pointer (some ⟨F.fb, 0, none⟩), .int .i64 p, .int .i64 who] h (fun r h' => r = .tuple #[.pointer none, .int .i64 1] ∧ h' = h) := by
  refine xcalls env0 Tryz.func13 rfl (by kernel_rfl) rfl (by kernel_rfl) ?_
  refine xif_true (decide_eq_true ?_) ?_
  · exact hw
  exact ⟨rfl, rfl⟩
theorem cRing_bad (H : FabAt h F) {a : Nat} (ha : a < F.P) {b : Int} (hb : b < 0 ∨ (F.P : Int) ≤ b) : HCalls Tryz.prog 39 #[.pointer (some ⟨F.fb, 0, none⟩), .int .i64 a, .int .i64 b] h (fun v h' => v = .pointer none ∧ h' = h) := by
  refine xcalls env0 Tryz.func39 rfl (by kernel_rfl) rfl (by kernel_rfl) ?_
  refine (cHas_spec H a).mono ?_
  rintro v h1 ⟨rfl, rfl⟩
  refine xif_false (has_yes' ha) ?_
  refine (cHas_spec H b).mono ?_
  rintro v h1 ⟨rfl, rfl⟩
  refine xif_true ?_ ?_
  · rcases hb with hb | hb
    · rw [decide_eq_false (show ¬ 0 ≤ b by omega)]; rfl
    · rw [decide_eq_false (show ¬ b < F.P by omega)]; simp
  exact ⟨rfl, rfl⟩
def encPO (o : Option Nat) : List Value := [ptrO o]
theorem encPO_len (o : Option Nat) : (encPO o).length = 1 := rfl
theorem encPO_one (o : Option Nat) : (encPO o).all Value.oneCell' = true := rfl
theorem nIndex_first {A : Option Addr} {c n : Nat} {l : List (Option Nat)} (hr : Row encPO 1 h A l) (hl : l.length = n) (h0 : l[0]? = some none) : HCalls Tryz.prog 146 #[.slice A n c, .pointer none] h (fun v h' => v = .int .i64 0 ∧ h' = h) := by
  subst hl
  have hpos : 0 < l.length := (List.getElem?_eq_some_iff.1 h0).1
  refine xcalls env0 Tryz.func146 rfl (by kernel_rfl) rfl (by kernel_rfl) ?_
  refine ⟨Unit, fun _ => [(0, .slice A l.length c), (1, .pointer none), (7, .int .i64 l.length), (8, .int .i64 0)], fun _ h' => h' = h, fun _ => 0, (), ⟨rfl, rfl, rfl, rfl, trivial⟩, rfl, ?_⟩
  rintro _ h1 rfl
  obtain ⟨a, rfl, hrd⟩ := hr 0 none h0
  refine xif_true (decide_eq_true ?_) ?_
  · show (0 : Int) < (l.length : Int)
    omega
  refine ⟨a, rfl, by decide, (by omega), _, hrd.cons, ?_⟩
  exact ⟨rfl, rfl⟩
theorem nContains_yes {A : Option Addr} {c n : Nat} {l : List (Option Nat)} (hr : Row encPO 1 h A l) (hl : l.length = n) (h0 : l[0]? = some none) : HCalls Tryz.prog 105 #[.slice A n c, .pointer none] h (fun v h' => v = .bool true ∧ h' = h) := by
  refine xcalls env0 Tryz.func105 rfl (by kernel_rfl) rfl (by kernel_rfl) ?_
  refine (nIndex_first hr hl h0).mono ?_
  rintro v h1 ⟨rfl, rfl⟩
  exact ⟨rfl, rfl⟩
theorem nNew_bad {A : Option Addr} {c n : Nat} {l : List (Option Nat)} (hr : Row encPO 1 h A l) (hl : l.length = n) (h0 : l[0]? = some none) (hn : n ≤ 64) : HCalls Tryz.prog 60 #[.slice A n c] h (fun v h' => v = .tuple #[.pointer none, .int .i64 1] ∧ h' = h) := by
  have hpos : 0 < n := by rw [← hl]; exact (List.getElem?_eq_some_iff.1 h0).1
  refine xcalls env0 Tryz.func60 rfl (by kernel_rfl) rfl (by kernel_rfl) ?_
  refine xif_false (decide_eq_false ?_) ?_
  · show ¬ (n : Int) < 1
    omega
  refine xif_false (decide_eq_false ?_) ?_
  · show ¬ (n : Int) > 64
    omega
  refine (nContains_yes hr hl h0).mono ?_
  rintro v h1 ⟨rfl, rfl⟩
  exact ⟨rfl, rfl⟩
theorem eNew_port (H : FabAt h F) {p who : Int} (hp : p < 0 ∨ (F.P : Int) ≤ p) (hw : 0 ≤ who) : HCalls Tryz.prog 13 #[.pointer (some ⟨F.fb, 0, none⟩), .int .i64 p, .int .i64 who] h (fun r h' => r = .tuple #[.pointer none, .int .i64 5] ∧ Ext h h') := by
  have p2 := H.p2
  have p1 := H.p1
  refine xcalls env0 Tryz.func13 rfl (by kernel_rfl) rfl (by kernel_rfl) ?_
  refine xif_false (decide_eq_false ?_) ?_
  · show ¬ who < 0
    omega
  refine (cPlan_spec H).mono ?_
  rintro r h1 ⟨A', c', B', d', rfl, o1, o2, x1⟩
  refine ⟨Nat × Option Addr × Nat, fun z => [(0, .pointer (some ⟨F.fb, 0, none⟩)), (1, .int .i64 p), (2, .int .i64 who), (8, .slice z.2.1 z.1 z.2.2), (20, .int .i64 F.P), (21, .int .i64 z.1)], fun z h' => z.1 ≤ F.P ∧ OwnA encPO 1 91 h.size h' z.2.1 z.2.2 (List.replicate z.1 none) ∧ Ext h h', fun z => F.P - z.1, (0, none, 0), ⟨rfl, rfl, rfl, rfl, rfl, rfl, trivial⟩, ⟨Nat.zero_le _, .inl ⟨rfl, rfl, rfl⟩, x1⟩, ?_⟩
  rintro ⟨k, A, c⟩ h2 ⟨hk, o, x2⟩
  simp only at hk o
  refine xif_of (fun g => ?_) (fun g => ?_)
  · have g : k < F.P := by have := of_decide_eq_true g; omega
    refine (cRing_bad (H.ext x2) g hp).mono ?_
    rintro r h3 ⟨rfl, rfl⟩
    intro nb h4 n4
    have n4' : New h3 h4 nb (.cells (encPO none).toArray 91) := n4
    refine xappend_one' ptrInfo ptrZero rfl (by decide) encPO_len encPO_one o n4' (by simp) (by omega) x2.size fun A2 c2 h5 o5 K5 _ => ?_
    refine ⟨(k + 1, A2, c2), ⟨rfl, rfl, rfl, rfl, rfl, slot_inc (by omega), trivial⟩, ⟨by show k + 1 ≤ F.P; omega, ?_, K5.ext x2 o.ge⟩, by show F.P - (k + 1) < F.P - k; omega⟩
    show OwnA encPO 1 91 h.size h5 A2 c2 (List.replicate (k + 1) none)
    rw [List.replicate_succ']
    exact o5
  · have g : ¬ (k : Int) < F.P := of_decide_eq_false g
    have e' : k = F.P := by omega
    subst e'
    refine (nNew_bad (o.row encPO_len) (by simp) (by rw [List.getElem?_replicate, if_pos (by omega)]) p2).mono ?_
    rintro r h3 ⟨rfl, rfl⟩
    exact ⟨rfl, x2⟩
end
theorem eNews_spec {h : Heap} {A B : Option Addr} {na ca nb cb : Nat} {rules : List Ru} {vls : List Vl} {P tries ring normal short port who : Int} {s : Sz}
    (hra : Row encRu 2 h A rules) (hla : rules.length = na) (hrb : Row encVl 3 h B vls) (hlb : vls.length = nb) (wf : ∀ v ∈ vls, SetWf v.mem ∧ SetWf v.unt) :
    HCalls Tryz.prog 4 #[.agg (planV P (.slice A na ca) (.slice B nb cb) s tries ring normal short).toArray, .int .i64 port, .int .i64 who] h (fun v h' => v = .bool true ∧ Ext h h') := by
  refine xcalls env_eNews Tryz.func4 rfl (by kernel_rfl) rfl (by kernel_rfl) ?_
  intro ib h1 n1
  refine ⟨_, rfl, reads_all n1.this, ?_⟩
  refine (rPFix_spec (n1.ext.row hra) hla (n1.ext.row hrb) hlb wf).mono ?_
  rintro v h2 ⟨A1, c1, B1, d1, rfl, oR, oV, x2⟩
  have oR : OwnA encRu 2 _ h1.size h2 A1 c1 (fixRules P rules) := oR
  have oV : OwnA encVl 3 _ h1.size h2 B1 d1 (fixVlans P vls) := oV
  have hib2 := x2.blk n1.this
  refine ⟨rfl, rfl, canset_blk hib2 rfl, fun h3 s3 => ?_⟩
  have hib : h3[ib]? = some (.cells (planV (fixPorts P) (.slice A1 (fixPorts P).toNat c1) (.slice B1 (fixVlans P vls).length d1) (fixSz s) (fixTries tries) (fixRing ring) normal short).toArray 28 (0, 0)) := s3.put hib2
  have x3 : Ext h h3 := (n1.ext.trans x2).stored s3 (n1.ge (Ext.refl _))
  have c3 : Chg [(ib, 28)] h2 h3 := s3.chg hib2 (.head _)
  refine ⟨_, rfl, reads_all hib, ?_⟩
  refine (lMake_fix ((oR.chg c3 (fun b _ => by simp)).row encRu_len) ((oV.chg c3 (fun b _ => by simp)).row encVl_len) wf).mono ?_
  rintro v h4 ⟨F, M, rfl, eP, eS, p8, Fr0⟩
  have Fr := Fr0.mono x3
  have x34 := Fr0.ext
  have p1 := Fr.fab.p1
  refine told21_spec.mono ?_
  rintro v h5 ⟨rfl, x5⟩
  have hib5 := (x34.trans x5).blk hib
  have Fr5 := Fr.of_ext x5
  have x05 : Ext h h5 := Fr5.ext
  refine HCalls.mono (R := fun r h' => ∃ xo er, r = .tuple #[ptrO xo, .int .i64 er] ∧ Ext h5 h' ∧ ((who < 0 ∧ xo = none ∧ er = 1) ∨ (0 ≤ who ∧ (port < 0 ∨ (F.P : Int) ≤ port) ∧ xo = none ∧ er = 5) ∨ (0 ≤ who ∧ 0 ≤ port ∧ port < F.P ∧ er = 0 ∧ ∃ e, xo = some e.eb ∧ e.q < F.P ∧ EgI h' h5.size F e))) ?_ ?_
  · rcases Int.lt_or_le who 0 with hw | hw
    · refine (eNew_who port hw).mono ?_
      rintro r h6 ⟨rfl, rfl⟩
      exact ⟨none, 1, rfl, Ext.refl _, .inl ⟨hw, rfl, rfl⟩⟩
    · by_cases hp : port < 0 ∨ (F.P : Int) ≤ port
      · refine (eNew_port Fr5.fab hp hw).mono ?_
        rintro r h6 ⟨rfl, x6⟩
        exact ⟨none, 5, rfl, x6, .inr (.inl ⟨hw, hp, rfl, rfl⟩)⟩
      · obtain ⟨q, rfl⟩ : ∃ q : Nat, port = q := ⟨port.toNat, by omega⟩
        refine (eNew_spec Fr5.fab (q := q) (who := who) (by omega) hw).mono ?_
        rintro r h6 ⟨e, rfl, hq, _, I, x6⟩
        exact ⟨some e.eb, 0, rfl, x6, .inr (.inr ⟨hw, by omega, by omega, rfl, e, rfl, by omega, I⟩)⟩
  rintro r h6 ⟨xo, er, rfl, x6, hc⟩
  refine (eNew_none 0 0).mono ?_
  rintro r h7 ⟨rfl, rfl⟩
  have hib7 := x6.blk hib5
  have Fr7 := Fr5.of_ext x6
  refine eStep_nil.mono ?_
  rintro r h8 ⟨rfl, rfl⟩
  refine eIdle_none.mono ?_
  rintro r h8 ⟨rfl, rfl⟩
  refine eWaits_none.mono ?_
  rintro r h8 ⟨rfl, rfl⟩
  refine eSent_none.mono ?_
  rintro r h8 ⟨rfl, rfl⟩
  refine eLog_none.mono ?_
  rintro r h8 ⟨rfl, rfl⟩
  refine eBound_none.mono ?_
  rintro r h8 ⟨rfl, rfl⟩
  repeat (first | refine ⟨_, cell_blk (hib7) rfl, ?_⟩)
  refine (eBound_spec Fr7.fab).mono ?_
  rintro r h9 ⟨rfl, x9⟩
  have hib9 := x9.blk hib7
  try (refine ⟨by ((repeat (first | refine ⟨cell_blk (hib9) rfl, ?_⟩)); exact trivial), ?_⟩)
  rw [eP]
  refine (rfBound_spec (p := F.P) (by omega)).mono ?_
  rintro r h10 ⟨rfl, rfl⟩
  refine xif_false (by simp) ?_
  have x010 : Ext h _ := (x05.trans x6).trans x9
  rcases hc with ⟨hw, rfl, rfl⟩ | ⟨hw, hp, rfl, rfl⟩ | ⟨hw, hp1, hp2, rfl, e, rfl, hq, I⟩
  · refine xif_true (decide_eq_true ?_) ?_
    · exact hw
    exact ⟨rfl, x010⟩
  · refine xif_false (decide_eq_false ?_) ?_
    · show ¬ who < 0
      omega
    refine xif_of (fun g => ?_) (fun g => ?_)
    · exact ⟨rfl, x010⟩
    · have g : ¬ port < 0 := of_decide_eq_false g
      repeat (first | refine ⟨_, cell_blk (hib9) rfl, ?_⟩)
      rw [eP]
      refine xif_true (decide_eq_true ?_) ?_
      · show port ≥ F.P
        omega
      exact ⟨rfl, x010⟩
  · refine xif_false (decide_eq_false ?_) ?_
    · show ¬ who < 0
      omega
    refine xif_false (decide_eq_false ?_) ?_
    · show ¬ port < 0
      omega
    repeat (first | refine ⟨_, cell_blk (hib9) rfl, ?_⟩)
    rw [eP]
    refine xif_false (decide_eq_false ?_) ?_
    · show ¬ port ≥ F.P
      omega
    have I' : EgI _ h.size F e := (⟨I.raw, I.lane, I.rows.mono x05.size, Nat.le_trans x05.size I.b1, Nat.le_trans x05.size I.b2, I.who⟩ : EgI _ h.size F e)
    have I9 := I'.chgT (x9.chgT (B := 0) (TY := []) (Nat.zero_le _)) (by simp) (by simp) (by simp)
    have Fr9 := Fr7.of_ext x9
    have E9 := I9.eps (Fr9.memq hq 0) (Fr9.locks _ hq) x010.size (by omega) (by omega)
    refine E9.idle.mono ?_
    rintro r h11 ⟨rfl, rfl⟩
    obtain ⟨sn7, x7, ok7, Z7, nx7, _⟩ := id E9
    refine (eStep_none Z7 nx7).mono ?_
    rintro r h12 ⟨rfl, rfl⟩
    refine Z7.waits.mono ?_
    rintro r h13 ⟨rfl, rfl⟩
    refine (eLog_spec E9).mono ?_
    rintro r h14 ⟨A14, c14, rfl, x14⟩
    exact ⟨rfl, x010.trans x14⟩
end Go.Proofs.YthoikbogkhpciaaGreatE
