/- What the law ModelStands answers: yes. Conditions: the arguments are of their types. -/
import Derived.Test.YtgiofdiifkahoaaXP3
set_option linter.unusedVariables false
set_option linter.unusedSimpArgs false
set_option maxRecDepth 100000
namespace Go.Proofs.YtgiofdiifkahoaaE
open Go Go.Proofs
def env_lStands : Nat → Ann
  | 14 => ⟨.nil, [], true⟩
  | _ => ⟨.nil, [], false⟩
section
variable {h : Heap}
theorem do_stand_at {p : Pl} {M : Md} {y : Op17} {a : Int} (ha : inP p a) (hl : (M.stands.length : Int) = p.ports) : (do17 p M y).1.stands.getD a.toNat ⟨0, 0⟩ = if y.kind = 8 ∧ y.port = a ∧ rightSt y.state = true then ⟨y.state, IntKind.u32.wrap ((M.stands.getD a.toNat ⟨0, 0⟩).ep + 1)⟩ else M.stands.getD a.toNat ⟨0, 0⟩ := by
  have h0 := ha.1
  have h1 := ha.2
  rw [do_stands]
  by_cases k : y.kind = 8
  · have hm : mayO p y = decide (inP p y.port) := by unfold mayO; rw [if_pos (by omega)]
    by_cases e : y.port = a
    · subst e
      rw [hm, decide_eq_true ha]
      by_cases r : rightSt y.state = true
      · rw [if_pos ⟨rfl, k, r⟩, if_pos ⟨k, rfl, r⟩, List.getD_eq_getElem?_getD, List.getElem?_set_self (by omega)]
        rfl
      · rw [if_neg fun q => r q.2.2, if_neg fun q => r q.2.2]
    · rw [if_neg (c := y.kind = 8 ∧ y.port = a ∧ rightSt y.state = true) fun q => e q.2.1]
      split
      · rename_i q
        have q1 := q.1
        rw [hm] at q1
        have q2 := (of_decide_eq_true q1).1
        rw [List.getD_eq_getElem?_getD, List.getElem?_set_ne (by omega), ← List.getD_eq_getElem?_getD]
      · rfl
  · rw [if_neg fun q => k q.2.1, if_neg fun q => k q.1]
theorem lStands_spec {A B O : Option Addr} {na ca nb cb no co : Nat} {rules : List Ru} {vls : List Vl} {ops : List Op17} {P tries ring normal short q0 : Int} {s : Sz}
    (hra : Row encRu 2 h A rules) (hla : rules.length = na) (hrb : Row encVl 3 h B vls) (hlb : vls.length = nb) (hro : Row encO17 14 h O ops) (hlo : ops.length = no)
    (wf : ∀ v ∈ vls, SetWf v.mem ∧ SetWf v.unt) (wo : ∀ o ∈ ops, o.Wf) :
    HCalls Try.prog 4 #[.agg (planV P (.slice A na ca) (.slice B nb cb) s tries ring normal short).toArray, .slice O no co, .int .i64 q0] h (fun v h' => v = .bool true ∧ Ext h h') := by
  subst hlo
  refine xcalls env_lStands Try.func4 rfl (by kernel_rfl) rfl (by kernel_rfl) ?_
  intro pb h2 n1
  have hpb2 := n1.this
  have x02 := n1.ext
  refine ⟨_, rfl, reads_all hpb2, ?_⟩
  refine (rPFix_spec (x02.row hra) hla (x02.row hrb) hlb wf).mono ?_
  rintro v h3 ⟨A3, c3, B3, d3, rfl, oR3, oV3, x3⟩
  have oR3 : OwnA encRu 2 _ h2.size h3 A3 c3 (fixRules P rules) := oR3
  have oV3 : OwnA encVl 3 _ h2.size h3 B3 d3 (fixVlans P vls) := oV3
  have hpb3 := x3.blk hpb2
  refine ⟨rfl, rfl, canset_blk hpb3 rfl, fun h4 s4 => ?_⟩
  have hpb : h4[pb]? = some (.cells (planV (fixPorts P) (.slice A3 (fixPorts P).toNat c3) (.slice B3 (fixVlans P vls).length d3) (fixSz s) (fixTries tries) (fixRing ring) normal short).toArray 28 (0, 0)) := s4.put hpb3
  have x04 : Ext h h4 := (x02.trans x3).stored s4 (n1.ge (Ext.refl _))
  have pb2 : pb < h2.size := blk_lt hpb2
  have oR4 := oR3.other s4 fun b hb => by have := oR3.ge b hb; intro e; subst e; omega
  have oV4 := oV3.other s4 fun b hb => by have := oV3.ge b hb; intro e; subst e; omega
  have hrl : (fixRules P rules).length = (fixPorts P).toNat := by unfold fixRules; simp
  have pr := fixPorts_range P
  have vl8 := fixVlans_len P vls
  refine ⟨_, rfl, reads_all hpb, ?_⟩
  refine (l17To_spec (oR4.row encRu_len) hrl (oV4.row encVl_len) rfl (by omega) (by omega)).mono ?_
  rintro v h5 ⟨A5, c5, B5, d5, rfl, oR5, oV5, x5⟩
  refine (mNew_fix oR5 oV5 hrl rfl wf).mono ?_
  rintro v h6 ⟨m, D, rfl, H6, x6⟩
  refine (told17_spec).mono ?_
  rintro v h7 ⟨rfl, x7⟩
  have x47 : Ext h4 h7 := x5.trans (x6.trans x7)
  have x07 := x04.trans x47
  have hb5 : h.size ≤ h5.size := (x04.trans x5).size
  have H7 := H6.ext x7
  have hpb7 := x47.blk hpb
  have nz : IntKind.u64.wrap (fixPorts P) ≠ 0 := by rw [IntKind.wrap_u64]; omega
  have e0 := modp_eq q0 (fixPorts P) (by omega) (by omega)
  have r0 := Int.emod_nonneg (q0 % 18446744073709551616) (show fixPorts P ≠ 0 by omega)
  have r1 := Int.emod_lt_of_pos (q0 % 18446744073709551616) (show 0 < fixPorts P by omega)
  obtain ⟨a, ha⟩ : ∃ a, q0 % 18446744073709551616 % fixPorts P = a := ⟨_, rfl⟩
  rw [ha] at e0 r0 r1
  have po := fixPl_ok P s tries ring normal short
  have N7 := fixVlans_nice (P := P) (tries := tries) (ring := ring) (normal := normal) (short := short) (s := s) wf
  have hia : inP (fixPl P s tries ring normal short) a := ⟨r0, r1⟩
  have S7 : (newM (fixPl P s tries ring normal short) (fixVlans P vls)).stands.getD a.toNat ⟨0, 0⟩ = ⟨0, 0⟩ := by
    show (List.replicate (fixPorts P).toNat (⟨0, 0⟩ : Stn)).getD a.toNat ⟨0, 0⟩ = ⟨0, 0⟩
    rw [List.getD_eq_getElem?_getD, List.getElem?_replicate]
    split <;> rfl
  obtain ⟨p, hp⟩ : ∃ p, fixPl P s tries ring normal short = p := ⟨_, rfl⟩
  have hpp : p.ports = fixPorts P := by rw [← hp]; rfl
  rw [hp] at H7 po N7 hia S7
  have hpb5 := x5.blk hpb
  have x05 := x04.trans x5
  refine ⟨_, cell_blk hpb7 rfl, nz, ?_⟩
  refine ⟨Nat × (Nat → Prop) × Md × Nat × Int, fun z => [(1, .slice O ops.length co), (3, .pointer (some ⟨pb, 0, none⟩)), (7, .pointer (some ⟨m, 0, none⟩)), (9, .int .i64 a), (10, .int .i64 z.2.2.2.1), (11, .int .i64 z.2.2.2.2), (12, .int .i64 z.1)],
    fun z h' => (z.1 ≤ ops.length ∧ z.1 ≤ 150 ∧ z.2.2.2.1 ≤ z.1) ∧ Nice p z.2.2.1 ∧ MdP h5.size z.2.1 h' m D p z.2.2.1 ∧ z.2.2.1.stands.getD a.toNat ⟨0, 0⟩ = ⟨z.2.2.2.2, z.2.2.2.1⟩ ∧ Ext h5 h',
    fun z => ops.length - z.1, (0, fun _ => False, _, 0, 0), ⟨rfl, rfl, rfl, congrArg (fun x => some (Value.int .i64 x)) e0, rfl, rfl, rfl, trivial⟩, ⟨⟨Nat.zero_le _, Nat.zero_le _, Nat.le_refl _⟩, N7, H7, S7, x6.trans x7⟩, ?_⟩
  rintro ⟨i, F, M, n, t⟩ h8 ⟨⟨hi, hi2, hni⟩, N8, H8, S8, x8⟩
  simp only at hi hi2 hni N8 H8 S8
  refine xif_of (fun hlt => ?_) (fun _ => ⟨rfl, x05.trans x8⟩)
  have hlt : (i : Int) < ops.length := of_decide_eq_true hlt
  refine xif_of (fun hlt2 => ?_) (fun _ => ⟨rfl, x05.trans x8⟩)
  have hlt2 : (i : Int) < 150 := of_decide_eq_true hlt2
  obtain ⟨y, hy⟩ : ∃ y, ops[i]? = some y := ⟨ops[i]'(by omega), List.getElem?_eq_getElem (by omega)⟩
  have wy := wo y (List.mem_of_getElem? hy)
  obtain ⟨ya, hO, hrd⟩ := ((x05.trans x8).row hro) i y hy
  have i0 : (0 : Int) ≤ i := by omega
  refine ⟨ya, hO, i0, hlt, encO17 y, rfl, hrd, ?_⟩
  refine (l17Op_spec y).mono ?_
  rintro v h11 ⟨rfl, x11⟩
  have H11 := H8.ext x11
  refine (mDo_spec po N8.ok (by have := N8.few; omega) H11 wy).mono ?_
  rintro v h12 ⟨rfl, d12⟩
  have x12 := d12.ext0 H11 (x8.trans x11) (Nat.le_refl _)
  obtain ⟨F', _, H12, _⟩ := d12
  have N12 := nice_do po N8 wy
  have hs := do_stand_at (y := y) hia N8.ok.st
  have hmay : y.kind = 8 → y.port = a → mayO p y = true := fun k e1 => by
    unfold mayO; rw [if_pos (by omega), e1, decide_eq_true hia]
  obtain ⟨M', hM'⟩ : ∃ M', (do17 p M y).1 = M' := ⟨_, rfl⟩
  rw [hM'] at hs H12 N12
  obtain ⟨_, hO12, hrd12⟩ := ((x05.trans x12).row hro) i y hy
  rw [S8] at hs
  refine ⟨Nat × Int, fun z => [(1, .slice O ops.length co), (3, .pointer (some ⟨pb, 0, none⟩)), (7, .pointer (some ⟨m, 0, none⟩)), (9, .int .i64 a), (10, .int .i64 z.1), (11, .int .i64 z.2), (12, .int .i64 i)],
    fun z h' => M'.stands.getD a.toNat ⟨0, 0⟩ = ⟨z.2, z.1⟩ ∧ z.1 ≤ i + 1 ∧ h' = h12, ?_, ?_⟩
  · refine ⟨_, hO12, i0, hlt, _, hrd12.get 0 rfl, ?_⟩
    refine xif_of (fun e1 => ?_) (fun e1 => ?_)
    · have e1 : y.kind = 8 := by simpa using e1
      refine ⟨_, hO12, i0, hlt, _, hrd12.get 1 rfl, ?_⟩
      refine xif_of (fun e2 => ?_) (fun e2 => ?_)
      · have e2 : y.port = a := by simpa using e2
        refine ⟨_, hO12, i0, hlt, _, hrd12.get 4 rfl, ?_⟩
        refine (r16Right_spec _).mono ?_
        rintro v h13 ⟨rfl, rfl⟩
        refine xif_of (fun e3 => ?_) (fun e3 => ?_)
        · rw [if_pos ⟨e1, e2, e3⟩] at hs
          refine ⟨_, hO12, i0, hlt, _, hrd12.get 4 rfl, ?_⟩
          refine ⟨(n + 1, y.state), ⟨rfl, rfl, rfl, rfl, slot_inc (i := n) (by omega), rfl, rfl, trivial⟩, ?_, by show n + 1 ≤ i + 1; omega, rfl⟩
          rw [hs]
          show (⟨y.state, IntKind.u32.wrap ((n : Int) + 1)⟩ : Stn) = ⟨y.state, ((n + 1 : Nat) : Int)⟩
          have : IntKind.u32.wrap ((n : Int) + 1) = ((n + 1 : Nat) : Int) := by
            show ((n : Int) + 1) % 4294967296 = _
            omega
          rw [this]
        · rw [if_neg (fun q => by rw [q.2.2] at e3; cases e3)] at hs
          exact ⟨(n, t), ⟨rfl, rfl, rfl, rfl, rfl, rfl, rfl, trivial⟩, hs, by show n ≤ i + 1; omega, rfl⟩
      · have e2 : ¬ y.port = a := by simpa using e2
        rw [if_neg (fun q => e2 q.2.1)] at hs
        exact ⟨(n, t), ⟨rfl, rfl, rfl, rfl, rfl, rfl, rfl, trivial⟩, hs, by show n ≤ i + 1; omega, rfl⟩
    · have e1 : ¬ y.kind = 8 := by simpa using e1
      rw [if_neg (fun q => e1 q.1)] at hs
      exact ⟨(n, t), ⟨rfl, rfl, rfl, rfl, rfl, rfl, rfl, trivial⟩, hs, by show n ≤ i + 1; omega, rfl⟩
  rintro ⟨n', t'⟩ h13 ⟨S13, hn', rfl⟩
  simp only at S13 hn'
  refine (mStand_spec N12.ok (by have := po.hi; omega) H12 a).mono ?_
  rintro v h14 ⟨rfl, x14⟩
  rw [if_pos hia, S13]
  intro sb h15 n15
  refine ⟨rfl, rfl, canset_blk n15.this rfl, fun h16 s16 => ?_⟩
  have hsb : h16[sb]? = some (.cells (encSn ⟨t', n'⟩).toArray 62 (0, 0)) := s16.put n15.this
  have x1216 : Ext h13 h16 := (x14.trans n15.ext).stored s16 (n15.ge x14)
  have H16 := H12.ext x1216
  refine ⟨_, cell_blk hsb rfl, ?_⟩
  have wn : IntKind.i64.wrap (n' : Int) = n' := wrap_i64 (by omega) (by omega)
  refine xif_of (fun w => absurd w (by rw [wn]; simp)) (fun _ => ?_)
  refine ⟨_, cell_blk hsb rfl, ?_⟩
  refine xif_of (fun w => absurd w (by simp)) (fun _ => ?_)
  refine (mDo_spec (o := opZ 0 a 0 0 0) po N12.ok (by have := N12.few; omega) H16 (opZ_wf ..)).mono ?_
  rintro v h17 ⟨rfl, d17⟩
  have x17 := d17.ext0 H16 (x12.trans x1216) (Nat.le_refl _)
  rw [do_state (x := opZ 0 a 0 0 0) hia rfl] at d17 ⊢
  have er : (M'.stands.getD (opZ 0 a 0 0 0).port.toNat ⟨0, 0⟩).st = t' := congrArg Stn.st S13
  rw [er]
  obtain ⟨F17, _, H17, _⟩ := d17
  refine xif_of (fun w => absurd w (by simp)) (fun _ => ?_)
  exact ⟨(i + 1, F17, M', n', t'), ⟨rfl, rfl, rfl, rfl, rfl, rfl, slot_inc (by omega), trivial⟩, ⟨⟨by show i + 1 ≤ ops.length; omega, by show i + 1 ≤ 150; omega, by show n' ≤ i + 1; omega⟩, N12, H17, S13, x17⟩, by show ops.length - (i + 1) < ops.length - i; omega⟩
end
end Go.Proofs.YtgiofdiifkahoaaE
