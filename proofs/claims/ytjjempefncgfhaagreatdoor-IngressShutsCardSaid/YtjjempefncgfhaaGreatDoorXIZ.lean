/- IngressShuts: at a port that doesn't learn, or isn't in the VLAN, a frame changes nothing. Conditions: the arguments are of their types. -/
import Derived.Test.YtjjempefncgfhaaGreatDoorXIX
import Derived.Test.YtjjempefncgfhaaGreatDoorXI2
import Derived.Test.YtjjempefncgfhaaGreatDoorRows
import Derived.Test.YtjjempefncgfhaaGreatDoorXIT
import Derived.LaidMore
import Derived.Stop.Joined
import Derived.SevenTiedAt
set_option linter.unusedVariables false
set_option linter.unusedSimpArgs false
set_option maxRecDepth 100000
namespace Go.Proofs.YtjjempefncgfhaaGreatDoorE
open Go Go.Proofs
def env_lShuts : Nat → Ann
  | 22 => ⟨.op 0 [] <| .op 1 [] <| .op 2 [] <| .op 3 [] <| .op 4 [] <| .op 5 [] <| .op 6 [] <| .op 7 [] <| .op 8 [] <| .op 9 [] <| .op 10 [] <| .op 11 [] <| .op 12 [] <| .op 13 [] <| .nil, [0, 0, 0, 0, 12, 28, 60, 0, 0, 384, 896, 1920, 4095, 8191], false⟩
  | 33 => ⟨.op 0 [] <| .op 1 [] <| .op 2 [] <| .op 3 [] <| .op 4 [] <| .op 5 [] <| .op 6 [] <| .op 7 [] <| .op 8 [] <| .op 9 [] <| .op 10 [] <| .op 11 [] <| .op 12 [] <| .op 13 [] <| .op 14 [] <| .op 15 [] <| .op 16 [] <| .op 17 [] <| .op 18 [] <| .op 19 [] <| .op 20 [] <| .op 21 [] <| .op 22 [] <| .op 23 [] <| .op 24 [] <| .op 25 [] <| .op 26 [] <| .op 27 [] <| .op 28 [] <| .op 29 [] <| .op 30 [] <| .op 31 [] <| .op 32 [] <| .op 33 [] <| .op 34 [] <| .op 35 [] <| .op 36 [] <| .op 37 [] <| .nil, [0, 0, 3, 7, 15, 31, 63, 127, 127, 511, 1023, 2047, 4095, 8191, 16383, 32767, 32767, 131071, 262143, 524287, 1048575, 2097151, 4194303, 8388607, 8388607, 33554431, 67108863, 134217727, 268435455, 8388607, 8388607, 1619001343, 3766484991, 8061452287, 16651386879, 34359738367, 68719476735, 137438953471], false⟩
  | _ => ⟨.nil, [], false⟩
section
variable {h : Heap}
theorem l5To_spec (a b c : Nat) (l : Int) : HCalls Tryz.prog 21 #[.agg #[.float .f64 a, .float .f64 b, .float .f64 c, .int .u32 l]] h (fun v h' => v = .agg #[.float .f64 a, .float .f64 b, .float .f64 c, .int .u32 l] ∧ Ext h h') := by
  refine xcalls env0 Tryz.func21 rfl (by kernel_rfl) rfl (by kernel_rfl) ?_
  intro gb h1 n1 rb h2 n2
  have hg : h2[gb]? = some (.cells [.float .f64 a, .float .f64 b, .float .f64 c, .int .u32 l].toArray 59 (0, 0)) := n2.ext.blk n1.this
  repeat (first | refine ⟨_, cell_blk (hg) rfl, ?_⟩)
  refine ⟨rfl, rfl, canset_blk n2.this rfl, fun h3 s3 => ?_⟩
  have hr : h3[rb]? = some (.cells [.float .f64 a, .float .f64 b, .float .f64 c, .int .u32 l].toArray 39 (0, 0)) := s3.put n2.this
  exact ⟨_, rfl, reads_all hr, rfl, (n1.ext.trans n2.ext).stored s3 (n2.ge n1.ext)⟩
/-- The order that sets a port. -/
def shutOp (q st : Int) : Op17 := ⟨0, q, 0, 0, st, 0, 0, 0, 0, 0, 0, 0, 0, 0⟩
theorem shutOp_fix {P : Nat} {vls : List Vl} {q : Nat} {st : Int} (hq : q < P) (hP : P ≤ 64) (s0 : 0 ≤ st) (s1 : st < 3) : (fixOp P vls (shutOp q st)).kind = 8 ∧ (fixOp P vls (shutOp q st)).port = (q : Int) ∧ (fixOp P vls (shutOp q st)).state = st ∧ (fixOp P vls (shutOp q st)).Wf := by
  have hk : fixK (shutOp q st) = 8 := rfl
  refine ⟨?_, ?_, ?_, ⟨fix_wf 0 0, ?_, ?_, by show (0 : Int) ≤ 0; decide, by show (0 : Int) < 4294967296; decide⟩⟩
  · show (if fixK (shutOp q st) = 9 ∧ vls.length = 0 then 8 else fixK (shutOp q st)) = 8
    rw [hk]; rfl
  · show (if fixK (shutOp q st) = 7 then (q : Int) else (q : Int) % 18446744073709551616 % P) = q
    rw [hk, if_neg (by decide), Int.emod_eq_of_lt (a := (q : Int)) (b := 18446744073709551616) (by omega) (by omega), Int.emod_eq_of_lt (by omega) (by omega)]
  · show st % 18446744073709551616 % 5 = st
    omega
  · exact ⟨by show (0 : Int) ≤ 0; decide, by show (0 : Int) < 18446744073709551616; decide⟩
  · exact ⟨by show (0 : Int) ≤ 0; decide, by show (0 : Int) < 18446744073709551616; decide⟩
end
theorem lShuts_spec {h : Heap} {A B : Option Addr} {na ca nb cb : Nat} {rules : List Ru} {vls : List Vl} {P tries ring normal short state : Int} {s : Sz}
    (hra : Row encRu 2 h A rules) (hla : rules.length = na) (hrb : Row encVl 3 h B vls) (hlb : vls.length = nb) (wf : ∀ v ∈ vls, SetWf v.mem ∧ SetWf v.unt)
    {RA : Option Addr} {rn rcap : Nat} {row : List Cw} (hrow : Row encCw 4 h RA row) (hrl : row.length = rn) (hri : ∀ x ∈ row, CwIn h x) :
    HCalls Tryz.prog 4 #[.agg (planV P (.slice A na ca) (.slice B nb cb) s tries ring normal short).toArray, .slice RA rn rcap, .int .i64 state] h (fun v h' => v = .bool true ∧ Ext h h') := by
  refine xcalls env_lShuts Tryz.func4 rfl (by kernel_rfl) rfl (by kernel_rfl) ?_
  intro ib h1 n1
  refine ⟨_, rfl, reads_all n1.this, ?_⟩
  refine (rPFix_spec (n1.ext.row hra) hla (n1.ext.row hrb) hlb wf).mono ?_
  rintro v h2 ⟨A1, c1, B1, d1, rfl, oR, oV, x2⟩
  have oR : OwnA encRu 2 117 h1.size h2 A1 c1 (fixRules P rules) := oR
  have oV : OwnA encVl 3 120 h1.size h2 B1 d1 (fixVlans P vls) := oV
  have hib2 := x2.blk n1.this
  refine ⟨rfl, rfl, canset_blk hib2 rfl, fun h3 s3 => ?_⟩
  have hib : h3[ib]? = some (.cells (planV (fixPorts P) (.slice A1 (fixPorts P).toNat c1) (.slice B1 (fixVlans P vls).length d1) (fixSz s) (fixTries tries) (fixRing ring) normal short).toArray 28 (0, 0)) := s3.put hib2
  have x3 : Ext h h3 := (n1.ext.trans x2).stored s3 (n1.ge (Ext.refl _))
  have c3 : Chg [(ib, 28)] h2 h3 := s3.chg hib2 (.head _)
  have oR3 := oR.chg c3 (fun b _ => by simp)
  have oV3 := oV.chg c3 (fun b _ => by simp)
  refine ⟨_, rfl, reads_all hib, ?_⟩
  refine (lMake_fixR (oR3.row encRu_len) (oV3.row encVl_len) wf).mono ?_
  rintro v h4 ⟨F, M, rfl, eP, eS, p8, Fr0, eV, eR, eZ, eT⟩
  have Fr := Fr0.mono x3
  have p1 := Fr.fab.p1
  refine told20_spec.mono ?_
  rintro v h5 ⟨rfl, x5⟩
  have Fr5 := Fr.of_ext x5
  have x35 := Fr0.ext.trans x5
  have hib5 := x35.blk hib
  have oR5 := oR3.ext x35
  have oV5 := oV3.ext x35
  have tr : 1 ≤ F.tries ∧ F.tries ≤ 8 := by
    rw [eT]
    exact fixTries_range tries
  have pr := fixPorts_range P
  have vl8 := fixVlans_len P vls
  refine ⟨_, rfl, reads_all hib5, ?_⟩
  refine (rNew17_specR (oV5.row encVl_len) rfl (by omega) (by omega) (fixSz_ok s)).mono ?_
  rintro v h6 ⟨m, D, rfl, W6, x6, dr, dv⟩
  obtain ⟨I, hI⟩ : ∃ I : Pin, I = ⟨P, rules, vls, s, tries, ring, normal, short, A1, c1, B1, d1⟩ := ⟨_, rfl⟩
  have x56 := x6
  have x06 : Ext h h6 := Fr5.ext.trans x6
  have hB1 : ∀ b, B1 = some ⟨b, 0, none⟩ → b < h5.size := fun b e => by
    rw [e] at oV5
    obtain ⟨cs, hc⟩ := oV5.block
    exact blk_lt hc
  have hlb : F.lb < h5.size := by obtain ⟨cs, hc⟩ := Fr5.mem.lenl; exact blk_lt hc
  have N0 := fixVlans_nice (P := P) (tries := tries) (ring := ring) (normal := normal) (short := short) (s := s) wf
  have C6 : Cx h6 I h.size h5.size m F M (fun _ => False) D (newM I.pl (fixVlans P vls)) := by
    subst hI
    exact ⟨Fr5.fab.ext x6, Fr5.mem.ext x6, Fr5.g1, Fr5.g2, Fr5.g3, Fr5.ext.size, x6.size, Fr5.b0, hlb, W6, N0.ok, by show (fixVlans P vls).length ≤ 1000; omega, (oR5.ext x6).base0, (oV5.ext x6).base0, hB1, wf, eP, eS, p8, dr, dv⟩
  have T6 : Stood F M (fun _ _ => []) (newM I.pl (fixVlans P vls)) := by
    have := stood_new (I := I) Fr5 (by rw [hI]; exact eP) (by rw [hI]; exact eV) (by rw [hI]; exact eZ)
    rw [hI] at this ⊢
    exact this
  have R6 : Rings h6 h.size F M (fun _ _ => []) no2 no2 := (rings_freshS Fr5).ext x6
  have hpp : I.pl.ports = F.P := by rw [hI]; exact eP
  have hIP : fixVlans I.P I.vls = fixVlans P vls := by rw [hI]
  obtain ⟨st, hst⟩ : ∃ st : Nat, state % 18446744073709551616 % 3 = st := ⟨(state % 18446744073709551616 % 3).toNat, by omega⟩
  have hst3 : st < 3 := by omega
  have est : IntKind.i64.wrap ((IntKind.u64.wrap state).tmod 3) = (st : Int) := by
    rw [IntKind.wrap_u64, Int.tmod_eq_emod_of_nonneg (by omega), hst, wrap_i64 (by omega) (by omega)]
  have rst : rightSt (st : Int) = true := decide_eq_true (by omega)
  refine ⟨by decide, ?_⟩
  have hMt := Fr5.t
  have hF8 : F.P ≤ 8 := p8
  have hib6 := x6.blk hib5
  have hdb6 := x6.blk Fr5.dbk
  refine ⟨Nat × MemS × (Nat → Prop) × Md, fun z => [(1, .slice RA rn rcap), (3, .pointer (some ⟨ib, 0, none⟩)), (7, .pointer (some ⟨F.fb, 0, none⟩)), (8, .pointer (some ⟨m, 0, none⟩)), (9, .int .i64 (st : Int)), (10, .int .i64 (z.1 : Int))],
    fun z h' => z.1 ≤ F.P ∧ Cx h' I h.size h5.size m F z.2.1 z.2.2.1 D z.2.2.2 ∧ Rings h' h.size F z.2.1 (fun _ _ => []) no2 no2 ∧ Stood F z.2.1 (fun _ _ => []) z.2.2.2 ∧ (∀ i, i < z.1 → z.2.2.2.stands[i]? = some ⟨(st : Int), 1⟩) ∧ (∀ i, z.1 ≤ i → i < F.P → z.2.2.2.stands[i]? = some ⟨0, 0⟩) ∧ z.2.1.locks = M.locks ∧ z.2.1.t ≤ M.t + 70 * z.1 ∧ ChgT h.size TyV h6 h',
    fun z => F.P - z.1, (0, M, (fun _ => False), _), ⟨rfl, rfl, rfl, rfl, congrArg (fun a => some (Value.int .i64 a)) est, rfl, trivial⟩, ⟨Nat.zero_le _, C6, R6, T6, fun i hi => absurd hi (Nat.not_lt_zero _), fun i _ hi => ?_, rfl, Nat.le_refl _, ChgT.refl _⟩, ?_⟩
  · show (List.replicate I.pl.ports.toNat (⟨0, 0⟩ : Stn))[i]? = some ⟨0, 0⟩
    rw [hpp, Int.toNat_natCast, List.getElem?_replicate, if_pos hi]
  rintro ⟨q, M1, G1, D1⟩ h7 ⟨hq, C7, R7, T7, s7a, s7b, lk7, t7, ch7⟩
  simp only at hq C7 R7 T7 s7a s7b lk7 t7
  have x7 : Ext h h7 := ch7.ext x06
  have hib7 := ch7.typ _ _ _ _ hib6 (by decide)
  have hdb7 := ch7.typ _ _ _ _ hdb6 (by decide)
  repeat (first | refine ⟨_, cell_blk (hib7) rfl, ?_⟩)
  refine xif_of (fun g => ?_) (fun g => ?_)
  · have g : (q : Int) < fixPorts P := of_decide_eq_true g
    have hqP : q < F.P := by omega
    obtain ⟨f1, f2, f3, f4⟩ := shutOp_fix (vls := fixVlans P vls) hqP (by omega) (show (0 : Int) ≤ (st : Int) by omega) (by omega)
    have hz := (T7.st q _ (s7b q (Nat.le_refl _) hqP)).2.2.2
    refine (lOrder20_set C7 R7 hqP (st0 := 0) (ep0 := 0) (by decide) (by decide) (by decide) hz (by rw [lk7]; exact Fr5.locks q hqP) (by omega) (o := shutOp q st) (o8 := fixOp F.P (fixVlans P vls) (shutOp q st)) (by rw [hIP]) (by exact ⟨by show (-9223372036854775808 : Int) ≤ 0; decide, by show (0 : Int) ≤ 9223372036854775807; decide, by show (0 : Int) ≤ 0; decide, by show (0 : Int) < 18446744073709551616; decide⟩) f1 f2 (by rw [f3]; exact rst) f4).mono ?_
    rintro v h8 ⟨rfl, M2, G2, C8, R8, low8, lk8, t8a, t8b, ch8⟩
    have hmay : mayO I.pl (fixOp F.P (fixVlans P vls) (shutOp q st)) = true := mayO_yes (fun _ => by rw [f2]; exact ⟨by omega, by rw [hpp]; omega⟩) (fun hk => by rw [f1] at hk; omega)
    have hgd : D1.stands.getD q ⟨0, 0⟩ = ⟨0, 0⟩ := by rw [List.getD_eq_getElem?_getD, s7b q (Nat.le_refl _) hqP]; rfl
    have eD : (do17 I.pl D1 (fixOp F.P (fixVlans P vls) (shutOp q st))).1 = { D1 with stands := D1.stands.set q ⟨(st : Int), upE 0⟩ } := by
      rw [do17_8 f1 hmay (by rw [f3]; exact rst), f2, f3, Int.toNat_natCast, hgd]
      rfl
    rw [f3] at low8
    have T8 := T7.set Fr5.bz Fr5.bv low8 hqP (s7b q (Nat.le_refl _) hqP) rst (by have := R7.len; omega)
    rw [eD] at C8
    have e1 : upE 0 = 1 := by decide
    rw [e1] at C8 T8
    have sl1 : D1.stands.length = F.P := T7.sn
    refine ⟨(q + 1, M2, G2, _), ⟨rfl, rfl, rfl, rfl, rfl, slot_inc (by omega), trivial⟩, ⟨by show q + 1 ≤ F.P; omega, C8, R8, T8, fun i hi => ?_, fun i hi1 hi2 => ?_, lk8.trans lk7, by show M2.t ≤ M.t + 70 * (q + 1); omega, ch7.trans ch8⟩, by show F.P - (q + 1) < F.P - q; omega⟩
    · show (D1.stands.set q ⟨(st : Int), 1⟩)[i]? = some ⟨(st : Int), 1⟩
      by_cases e : i = q
      · subst e
        exact List.getElem?_set_self (by omega)
      · rw [List.getElem?_set_ne (fun e' => e e'.symm)]
        exact s7a i (by have hi : i < q + 1 := hi; omega)
    · show (D1.stands.set q ⟨(st : Int), 1⟩)[i]? = some ⟨0, 0⟩
      have hi1 : q + 1 ≤ i := hi1
      rw [List.getElem?_set_ne (by omega)]
      exact s7b i (by omega) hi2
  have g : ¬ (q : Int) < fixPorts P := of_decide_eq_false g
  obtain rfl : q = F.P := by omega
  repeat (first | refine ⟨_, cell_blk (hib7) rfl, ?_⟩)
  have fs := few20_spec (c := rcap) (P := F.P) (x7.row hrow) hrl (fun x hx => ⟨x7.row (hri x hx).1, (hri x hx).2⟩) (by omega) (by omega)
  rw [← eP] at fs
  refine fs.mono ?_
  rintro v h8 ⟨A8, k8, out, rfl, hol, oO, okO, x78⟩
  obtain ⟨n8, hn8⟩ : ∃ n8, min rn 24 = n8 := ⟨_, rfl⟩
  rw [hn8] at hol
  have hn24 : n8 ≤ 24 := by omega
  have x8 := x7.trans x78
  have hib8 := x78.blk hib7
  have F8 := C7.fab.ext x78
  have M8 := C7.mem.ext x78
  have hgs : F.rules.length = F.P := by
    rw [eR]
    unfold fixRules
    simp
    omega
  have shut : ∀ p, p < F.P → ∀ t, ShutAt F { M1 with t := t } p := fun p hp t => by
    refine ⟨fun i hi => ?_, ?_, by rw [hgs]; exact hp⟩
    · obtain ⟨v, hv⟩ : ∃ v, F.vls[i]? = some v := ⟨_, List.getElem?_eq_getElem hi⟩
      obtain ⟨w, hw⟩ : ∃ w, D1.vlans[i]? = some w := ⟨_, List.getElem?_eq_getElem (by rw [T7.vn]; exact hi)⟩
      exact ⟨w.mem, (T7.vl i v w hv hw).2.1, (C7.K.vl w (List.mem_of_getElem? hw)).1⟩
    · exact ⟨(st : Int), 1, rst, by omega, by omega, by decide, by decide, (T7.st p _ (s7a p hp)).2.2.2⟩
  refine ⟨Nat × Nat, fun z => [(1, .slice A8 n8 k8), (3, .pointer (some ⟨ib, 0, none⟩)), (7, .pointer (some ⟨F.fb, 0, none⟩)), (8, .pointer (some ⟨m, 0, none⟩)), (11, .int .i64 (z.1 : Int))],
    fun z h' => z.1 ≤ F.P ∧ FabAt h' F ∧ MemAt h' F.mb F.cb F.lb { M1 with t := z.2 } ∧ M1.t ≤ z.2 ∧ z.2 ≤ M1.t + 100 * z.1 ∧ ChgT h.size TyI h8 h',
    fun z => F.P - z.1, (0, M1.t), ⟨by rw [hn8]; rfl, rfl, rfl, rfl, rfl, trivial⟩, ⟨Nat.zero_le _, F8, M8, Nat.le_refl _, Nat.le_refl _, ChgT.refl _⟩, ?_⟩
  rintro ⟨q, t9⟩ h9 ⟨hq9, F9, M9, ta9, tb9, ch9⟩
  simp only at hq9 M9 ta9 tb9
  have x9 : Ext h h9 := ch9.ext x8
  have hib9 := ch9.typ _ _ _ _ hib8 (by decide)
  repeat (first | refine ⟨_, cell_blk (hib9) rfl, ?_⟩)
  refine xif_of (fun g => ?_) (fun g => ?_)
  · have g : (q : Int) < fixPorts P := of_decide_eq_true g
    have hqP : q < F.P := by omega
    refine (l5To_spec 4636737291354636288 4636737291354636288 4636737291354636288 0).mono ?_
    rintro v h10 ⟨rfl, y10⟩
    refine (iNewQ_spec (base := h.size) (F9.ext y10) (x9.trans y10).size hqP (by omega)).mono ?_
    rintro v h11 ⟨xb, c, rfl, gxb, cp, cw, S11, y11⟩
    subst cp
    have ch11 := (ch9.trans (y10.chgT x9.size)).trans (y11.chgT (x9.trans y10).size)
    refine ⟨Nat × Nat, fun z => [(1, .slice A8 n8 k8), (3, .pointer (some ⟨ib, 0, none⟩)), (7, .pointer (some ⟨F.fb, 0, none⟩)), (8, .pointer (some ⟨m, 0, none⟩)), (11, .int .i64 (c.p : Int)), (12, .pointer (some ⟨xb, 0, none⟩)), (14, .int .i64 (z.1 : Int))],
      fun z h' => z.1 ≤ n8 ∧ (∃ d ds es, IgOk h.size h' F xb c .nilFunc d ds es ∧ ds.length = z.1 ∧ es.length ≤ 3 * z.1 ∧ ∀ y ∈ ds, Lost y) ∧ FabAt h' F ∧ MemAt h' F.mb F.cb F.lb { M1 with t := z.2 } ∧ t9 ≤ z.2 ∧ z.2 ≤ t9 + 3 * z.1 ∧ ChgT h.size TyI h8 h',
      fun z => n8 - z.1, (0, t9), ⟨rfl, rfl, rfl, rfl, rfl, rfl, rfl, trivial⟩, ⟨Nat.zero_le _, ⟨_, _, _, S11, rfl, Nat.le_refl _, fun y hy => by simp at hy⟩, (F9.ext y10).ext y11, (M9.ext y10).ext y11, Nat.le_refl _, Nat.le_refl _, ch11⟩, ?_⟩
    rintro ⟨i, t12⟩ h12 ⟨hi, ⟨d, ds, es, S12, hds, hes, lost⟩, F12, M12, ta12, tb12, ch12⟩
    simp only at hi hds hes M12 ta12 tb12
    have x12 : Ext h h12 := ch12.ext x8
    have hib12 := ch12.typ _ _ _ _ hib8 (by decide)
    refine xif_of (fun g2 => ?_) (fun g2 => ?_)
    · have g2 : (i : Int) < n8 := of_decide_eq_true g2
      obtain ⟨z, hz⟩ : ∃ z, out[i]? = some z := ⟨_, List.getElem?_eq_getElem (by omega)⟩
      obtain ⟨zo, zl, zn, zB, _, _⟩ := okO z (List.mem_of_getElem? hz)
      obtain ⟨a, ha, hrd⟩ := ((oO.chgT ch12 (by decide)).row encCw_len) i z hz
      have zo12 := zo.chgT ch12 (by decide)
      have r2 : cell h12 ((a.add (((i : Int)).toNat * 4)).add 2) = some (.slice z.A z.n z.c) := by rw [Int.toNat_natCast]; exact hrd.get 2 rfl
      have r3 : cell h12 ((a.add (((i : Int)).toNat * 4)).add 3) = some (.int .u32 z.now) := by rw [Int.toNat_natCast]; exact hrd.get 3 rfl
      refine ⟨a, ha, Int.natCast_nonneg i, g2, _, r2, ?_⟩
      refine ⟨a, ha, Int.natCast_nonneg i, g2, _, r3, ?_⟩
      refine (iBeginQ_spec S12 (id := (i : Int)) (now := z.now) (by omega) (by omega) (zo12.row encU8_len) (fun e => by rcases zo with ⟨_, e2, _⟩ | ⟨_, _, e2, _⟩; exact e2; rw [e] at e2; cases e2) zl (by omega)).mono ?_
      rintro v h13 ⟨rfl, A13, k13, o13, S13, f13, h13a, y13, c13⟩
      have M13 := (M12.ext y13).chg c13 (by simp) (by simp) (by simp)
      have F13 := F12.ci f13
      have ch13 := ch12.trans f13
      have hib13 := ch13.typ _ _ _ _ hib8 (by decide)
      have Q13 : FrS h.size h13 F xb c { M1 with t := t12 } ds es.length 0 h13 :=
        ⟨F13, ⟨t12, M13, Nat.le_refl _, Nat.le_refl _⟩, ChgT.refl _, _, es, Nat.le_refl _, rfl, rfl, .inl ⟨rfl, S13, z.bs, o13, zl, by omega, zB⟩⟩
      refine ⟨Nat, fun k => [(1, .slice A8 n8 k8), (3, .pointer (some ⟨ib, 0, none⟩)), (7, .pointer (some ⟨F.fb, 0, none⟩)), (8, .pointer (some ⟨m, 0, none⟩)), (11, .int .i64 (c.p : Int)), (12, .pointer (some ⟨xb, 0, none⟩)), (14, .int .i64 (i : Int)), (15, .int .i64 (k : Int))],
        fun k h' => k ≤ 2 ∧ FrS h.size h13 F xb c { M1 with t := t12 } ds es.length k h', fun k => 3 - k, 0, ⟨rfl, rfl, rfl, rfl, rfl, rfl, rfl, rfl, trivial⟩, ⟨by decide, Q13⟩, ?_⟩
      rintro k h14 ⟨hk, Q14⟩
      have hib14 := Q14.chg.typ _ _ _ _ hib13 (by decide)
      refine ⟨_, rfl, reads_all hib14, ?_⟩
      refine (lBound20_spec (fixSz_ok s) (fixTries_range tries).1 (fixTries_range tries).2 (by omega) (by omega)).mono ?_
      rintro v h15 ⟨rfl, y15⟩
      have hbn := bndM_range (fixSz_ok s) (fixTries_range tries).1 (fixTries_range tries).2
      refine xif_true (decide_eq_true (show (k : Int) < 16 + 2 * bndM (fixSz s) (fixTries tries) + 8 * fixPorts P by omega)) ?_
      have fs15 := frS_step (Q14.ext y15) (shut c.p hqP t12) Fr5.g1 F12.v1 (by omega) (by omega) (by show t12 < 800000; omega)
      refine fs15.mono ?_
      rintro v h16 (⟨rfl, E16⟩ | ⟨rfl, hk2, Q16⟩)
      · obtain ⟨F16, ⟨t16, M16, t16a, t16b⟩, c16, d', es', y', he', ly, S16⟩ := E16
        have t16a : t12 ≤ t16 := t16a
        have t16b : t16 ≤ t12 + 3 := t16b
        refine ⟨(i + 1, t16), ⟨rfl, rfl, rfl, rfl, rfl, rfl, slot_inc (by omega), trivial⟩, ⟨by show i + 1 ≤ n8; omega, ⟨d', ds ++ [y'], es', S16, by show (ds ++ [y']).length = i + 1; rw [List.length_append, hds]; rfl, by show es'.length ≤ 3 * (i + 1); omega, fun y hy => ?_⟩, F16, M16, by show t9 ≤ t16; omega, by show t16 ≤ t9 + 3 * (i + 1); omega, ch13.trans c16⟩, by show n8 - (i + 1) < n8 - i; omega⟩
        rcases List.mem_append.1 hy with hy | hy
        · exact lost y hy
        · rw [List.mem_singleton] at hy
          rw [hy]; exact ly
      · exact ⟨k + 1, ⟨rfl, rfl, rfl, rfl, rfl, rfl, rfl, slot_inc (by omega), trivial⟩, ⟨by omega, Q16⟩, by show 3 - (k + 1) < 3 - k; omega⟩
    · have g2 : ¬ (i : Int) < n8 := of_decide_eq_false g2
      have ein : i = n8 := by omega
      refine (iDoneU_spec S12).mono ?_
      rintro v h13 ⟨A13, k13, rfl, o13, y13⟩
      have S13 := S12.ext y13
      refine (iIdleQ_nil S13.raw).mono ?_
      rintro v h14 ⟨rfl, rfl⟩
      have hdl : ds.length = n8 := by omega
      refine xif_false (by rw [hdl]; simp) ?_
      have ch14 := ch12.trans (y13.chgT x12.size)
      have F14 := F12.ext y13
      have M14 := M12.ext y13
      have hib14 := y13.blk hib12
      refine ⟨Nat, fun k => [(3, .pointer (some ⟨ib, 0, none⟩)), (7, .pointer (some ⟨F.fb, 0, none⟩)), (8, .pointer (some ⟨m, 0, none⟩)), (1, .slice A8 n8 k8), (11, .int .i64 (c.p : Int)), (16, .slice A13 ds.length k13), (17, .int .i64 (k : Int))], fun k h' => k ≤ ds.length ∧ h' = h14, fun k => ds.length - k, 0, ⟨rfl, rfl, rfl, rfl, rfl, rfl, rfl, trivial⟩, ⟨Nat.zero_le _, rfl⟩, ?_⟩
      rintro k h15 ⟨hk, rfl⟩
      refine xif_of (fun g3 => ?_) (fun g3 => ?_)
      · have g3 : (k : Int) < ds.length := of_decide_eq_true g3
        obtain ⟨y, hy⟩ : ∃ y, ds[k]? = some y := ⟨_, List.getElem?_eq_getElem (by omega)⟩
        obtain ⟨a, ha, hrd⟩ := o13.row encDn_len k y hy
        obtain ⟨l1, l2, l3⟩ := lost y (List.mem_of_getElem? hy)
        have r1 : cell h15 ((a.add (((k : Int)).toNat * 7)).add 1) = some (.int .i64 y.why) := by rw [Int.toNat_natCast]; exact hrd.get 1 rfl
        have r3 : cell h15 ((a.add (((k : Int)).toNat * 7)).add 3) = some (.int .i64 y.learned) := by rw [Int.toNat_natCast]; exact hrd.get 3 rfl
        have r4 : cell h15 ((a.add (((k : Int)).toNat * 7)).add 4) = some (.int .i64 y.found) := by rw [Int.toNat_natCast]; exact hrd.get 4 rfl
        have r5 : cell h15 ((a.add (((k : Int)).toNat * 7)).add 5) = some (.slice none 0 0) := by rw [Int.toNat_natCast]; exact hrd.get 5 rfl
        have r6 : cell h15 ((a.add (((k : Int)).toNat * 7)).add 6) = some (.slice none 0 0) := by rw [Int.toNat_natCast]; exact hrd.get 6 rfl
        refine ⟨a, ha, Int.natCast_nonneg k, g3, _, r1, ?_⟩
        refine xif_false (decide_eq_false l1) ?_
        refine ⟨a, ha, Int.natCast_nonneg k, g3, _, r3, ?_⟩
        rw [l2]
        refine ⟨a, ha, Int.natCast_nonneg k, g3, _, r4, ?_⟩
        refine xif_false (by rw [l3]; decide) ?_
        refine ⟨a, ha, Int.natCast_nonneg k, g3, _, r5, ?_⟩
        refine ⟨a, ha, Int.natCast_nonneg k, g3, _, r6, ?_⟩
        exact ⟨k + 1, ⟨rfl, rfl, rfl, rfl, rfl, rfl, slot_inc (by omega), trivial⟩, ⟨by omega, rfl⟩, by show ds.length - (k + 1) < ds.length - k; omega⟩
      · exact ⟨(c.p + 1, t12), ⟨rfl, rfl, rfl, rfl, slot_inc (by omega), trivial⟩, ⟨by show c.p + 1 ≤ F.P; omega, F14, M14, by show M1.t ≤ t12; omega, by show t12 ≤ M1.t + 100 * (c.p + 1); omega, ch14⟩, by show F.P - (c.p + 1) < F.P - c.p; omega⟩
  · have g : ¬ (q : Int) < fixPorts P := of_decide_eq_false g
    obtain rfl : q = F.P := by omega
    have T9 : Stood F { M1 with t := t9 } (fun _ _ => []) D1 := ⟨T7.sn, T7.st, T7.vn, T7.vl, T7.bn, T7.bk, T7.q⟩
    have hdb9 : h9[F.db]? = some (.cells (fdbV F.mb (F.P + 2 * F.vls.length) F.P F.s F.tries).toArray 258 (0, 0)) := ch9.typ _ _ _ _ (x78.blk hdb7) (by decide)
    have R9 : Rings h9 h.size F { M1 with t := t9 } (fun _ _ => []) no2 no2 := (R7.ext x78).typ ch9 (by decide) rfl (fun _ _ => rfl)
    refine (cShape_spec (p := I.pl) hpp F9 M9 R9 hdb9 Fr5.sok T9 (by show t9 < 900000; omega)).mono ?_
    rintro v h10 ⟨SA, VA, BA, QA, sc, vc, bc, qc, Bs, Q, rfl, Sh, x10⟩
    have W8 : MdR h5.size G1 h8 m D I.pl D1 := C7.W.ext x78
    have W9 : MdR h5.size G1 h9 m D I.pl D1 := MdR.chgP W8 ch9 (fun b hb => by
      obtain ⟨cx, gx, ex⟩ := W8.tyG b hb
      rw [ch9.typ _ _ _ _ ex (by decide), ex]) (by decide) (by decide) (by decide) (by decide) (by decide) (by decide) (by decide) (by decide)
    refine (lShaped_spec (pin_ok I) C7.K C7.vn (W9.ext x10) Sh).mono ?_
    rintro v h11 ⟨rfl, x11⟩
    exact ⟨rfl, (x9.trans x10).trans x11⟩
end Go.Proofs.YtjjempefncgfhaaGreatDoorE
/- IngressShuts, of one world: the law answers true. Conditions: the listed variable starts as its initialiser lays it. -/
set_option linter.unusedVariables false
set_option linter.unusedSimpArgs false
set_option maxRecDepth 100000
namespace Go.Proofs.YtjjempefncgfhaaGreatDoorE
open Go Go.Proofs Go.Proofs.YtjjempefncgfhaaGreatDoor Go.ChangeShapes Go.WideShapes Go.ChangeAt Go.RowKit
theorem door_met (os : Os) (args : Array Value) : laidMetH Tryz.prog Rows.ingressShutsRow.laid ((World.doorLaid Tryz.prog 4000 os).forCall (fun _ _ => 0) ⟨#[], args, []⟩).memory :=
  laidMetH_of_parts3 (fuel := 8) (laidMet_of_run' 8 (by kernel_rfl) (by kernel_rfl)) (by kernel_rfl) (by kernel_rfl)
theorem ingressShuts_lifted (os : Os) (started : os.Started) (H : Type) (enc : TypeId × Value → H) :
    ReturnsInHanded {} Tryz.checked os 4 .any (fun w args => (Rows.ingressShutsSpec.pre enc Tryz.prog Tryz.f4 Rows.ingressShutsRow.domain false w args ∧ laidMetH Tryz.prog Rows.ingressShutsRow.laid w) ∧ sizedMet enc Tryz.prog Tryz.f4 (OpenSpec.ofChange Rows.ingressShutsSpec) false w args) (Rows.ingressShutsSpec.post enc Tryz.prog Tryz.f4 false true false false) := by
  refine returnsInHanded_of_change_and (C := Tryz.checked) (X := fun w _ => laidMetH Tryz.prog Rows.ingressShutsRow.laid w) (fun _ _ _ hh h => h.of_heap hh) own started (by kernel_rfl) Tryz.func4
    (ChangeSpec.witness_shaped (enc := enc) (C := Tryz.checked) (os := os) (X := fun w _ => laidMetH Tryz.prog Rows.ingressShutsRow.laid w) false (World.doorLaid Tryz.prog 4000 os) #[.agg #[.int .i64 0, .slice none 0 0, .slice none 0 0, .int .i64 0, .int .i64 0, .int .i64 0, .int .i64 0, .int .i64 0, .int .u32 0, .int .u32 0], .slice none 0 0, .int .i64 0] 8 rfl (World.shaped_of_RefB (by kernel_rfl) (by kernel_rfl)) (by kernel_rfl) (by kernel_rfl) (by kernel_rfl) (door_met os _)) ?_
  intro W base args ds gs before hval0 hW hcnd hsz0 _ _
  have hval : ∀ (j : Nat) t v, Tryz.f4.params[j]? = some t → args[j]? = some v → Value.okWide Tryz.prog W .any base t v := hval0
  have hW' := hW
  obtain ⟨p, q, hA0, hV, rfl, hfz, hnd⟩ := hW
  have hA : DataW.TrodAll enc Tryz.prog W 0 (fun _ => true) true Tryz.f4.params.toList args.toList ds p := hA0
  rw [Tryz.params4] at hA hval
  obtain ⟨v0, v1, v2, d0, d1, d2, p0, p1, p2, rfl, rfl, rfl, h0, h1, h2⟩ := trodAll_three hA
  obtain ⟨rfl, rfl⟩ := trodVars_none hV
  obtain ⟨P, A, na, ca, B, nb, cb, s, tries, ring, normal, short, rules, vls, hp, hla, hra, hlb, hrb, wf, _⟩ := dec_plan (decW_of_arg h0)
  obtain rfl := agg_of hp (planV_len _ _ _ _ _ _ _ _)
  obtain ⟨C1, n1, c1, rfl⟩ := okWide_slice (e := 62) (by kernel_rfl) (hval 1 _ v1 rfl rfl)
  obtain ⟨C', n', c', e1, hcap1, _, hc⟩ := decW_of_arg (m := 6) h1
  cases e1
  obtain ⟨es1, lo1, ro1, wo1⟩ := row_of_dec (enc' := encCw) (sz := 4) (by kernel_rfl) (fun cs h => dec_cw h) hc
  obtain ⟨x2, rfl⟩ := okWide_int (k := .i64) (by kernel_rfl) (hval 2 _ v2 rfl rfl)
  exact law_calls (lShuts_spec hra hla hrb hlb wf ro1 lo1 wo1) laidOut (by kernel_rfl) (by kernel_rfl) Tryz.underlying4 rfl hW' rfl rfl rfl
end Go.Proofs.YtjjempefncgfhaaGreatDoorE
