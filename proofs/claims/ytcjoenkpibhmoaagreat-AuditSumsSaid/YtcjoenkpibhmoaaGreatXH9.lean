/- Histories: the document's Replay and Check. Conditions: the arguments are of their types, and not too many. -/
import Derived.Test.YtcjoenkpibhmoaaGreatXH6
import Derived.Test.YtcjoenkpibhmoaaGreatXQ1
import Derived.Test.YtcjoenkpibhmoaaGreatXW3
set_option linter.unusedVariables false
set_option linter.unusedSimpArgs false
set_option maxRecDepth 100000
namespace Go.Proofs.YtcjoenkpibhmoaaGreatE
open Go Go.Proofs
def env_rCheck18 : Nat → Ann
  | 16 => ⟨.op 0 [] <| .op 1 [] <| .op 2 [] <| .op 3 [] <| .op 4 [] <| .op 5 [] <| .op 6 [] <| .op 7 [] <| .op 8 [] <| .op 9 [] <| .op 10 [] <| .op 11 [] <| .op 12 [] <| .op 13 [] <| .op 14 [] <| .op 15 [] <| .op 16 [] <| .op 17 [] <| .op 18 [] <| .op 19 [] <| .op 20 [] <| .op 21 [] <| .op 22 [] <| .op 23 [] <| .op 24 [] <| .op 25 [] <| .op 26 [] <| .op 27 [] <| .op 28 [] <| .op 29 [] <| .op 30 [] <| .op 31 [] <| .op 32 [] <| .op 33 [] <| .op 34 [] <| .op 35 [] <| .op 36 [] <| .op 37 [] <| .op 38 [] <| .op 39 [] <| .op 40 [] <| .op 41 [] <| .op 42 [] <| .op 43 [] <| .op 44 [] <| .op 45 [] <| .op 46 [] <| .op 47 [] <| .op 48 [] <| .op 49 [] <| .op 50 [] <| .op 51 [] <| .op 52 [] <| .nil, [0, 0, 3, 7, 15, 31, 63, 127, 127, 511, 1023, 2047, 127, 127, 12415, 28799, 61567, 131071, 262143, 524287, 1048575, 1048575, 4194303, 8388607, 16777215, 1048575, 1048575, 101711871, 235929599, 504365055, 1073741823, 2147483647, 4294967295, 4294967295, 17179869183, 34359738367, 68719476735, 137438953471, 274877906943, 549755813887, 549755813887, 2199023255551, 4398046511103, 8796093022207, 549755813887, 549755813887, 53326313947135, 123695058124799, 264432546480127, 562949953421311, 1125899906842623, 2251799813685247, 4503599627370495], false⟩
  | _ => ⟨.nil, [], false⟩
theorem DidR.ext9 {bw : Nat} {G : Nat → Prop} {h h0 h' : Heap} {w : Nat} {D' : Dat} {p : Pl} {M M' : Md} (d : DidR bw G h w D' p M' h') (W : MdR bw G h w D' p M) (x : Ext h0 h) (hb : h0.size ≤ bw) : Ext h0 h' := by
  obtain ⟨_, _, _, f⟩ := d
  exact f.ext x fun k hk => Nat.le_trans hb (W.geZ k hk)
theorem MdR.off3 {bw : Nat} {G : Nat → Prop} {h : Heap} {w : Nat} {D' : Dat} {p : Pl} {M : Md} (W : MdR bw G h w D' p M) : Off (D'.Z p) h 3 := W.off (by decide) (by decide) (by decide) (by decide)
section
variable {h : Heap}
set_option maxHeartbeats 1000000 in
theorem rReplay18_spec {A B C : Option Addr} {na ca nb cb n c : Nat} {rules : List Ru} {vls : List Vl} {P tries ring normal short : Int} {s : Sz} {l : List He}
    (hra : Row encRu 2 h A (fixRules P rules)) (hrb : Row encVl 3 h B (fixVlans P vls)) (hna : (fixRules P rules).length = na) (hnb : (fixVlans P vls).length = nb) (wf : ∀ v ∈ vls, SetWf v.mem ∧ SetWf v.unt)
    (hr : Row encHe 19 h C l) (hl : l.length = n) (hn : n ≤ 2000) (wo : ∀ e ∈ l, e.op.Wf) :
    HCalls Tryz.prog 58 #[.agg (planV (fixPorts P) (.slice A na ca) (.slice B nb cb) (fixSz s) (fixTries tries) (fixRing ring) normal short).toArray, .slice C n c] h
      (fun v h' => ∃ m D G O bm, v = .tuple #[.pointer (some ⟨m, 0, none⟩), .int .i64 (replayM (fixPl P s tries ring normal short) l (newM (fixPl P s tries ring normal short) (fixVlans P vls)) O).2] ∧ IsOrd l n O ∧ h.size ≤ bm ∧
        MdR bm G h' m D (fixPl P s tries ring normal short) (replayM (fixPl P s tries ring normal short) l (newM (fixPl P s tries ring normal short) (fixVlans P vls)) O).1 ∧ (∀ b, G b → bm ≤ b) ∧ Ext h h') := by
  refine xcalls env0 Tryz.func58 rfl (by kernel_rfl) rfl (by kernel_rfl) ?_
  intro pb h1 n1
  have hpb := n1.this
  have x1 := n1.ext
  have wfv : ∀ v ∈ fixVlans P vls, SetWf v.mem ∧ SetWf v.unt := fun v hv => fixVl_wf _ _ (fun v hv => wf v (List.mem_of_mem_take hv)) v hv
  have hpr := fixPorts_range P
  have hvl := fixVlans_len P vls
  have hrl : (fixRules P rules).length = (fixPorts P).toNat := by unfold fixRules; simp
  refine ⟨_, rfl, reads_all hpb, ?_⟩
  refine (r17Check_spec (x1.row hra) hna (x1.row hrb) hnb (by omega) (by omega) wfv).mono ?_
  rintro v h1b ⟨rfl, x1b⟩
  rw [fix_check P rules vls s tries ring]
  have hpb2 := x1b.blk hpb
  have x11 := x1.trans x1b
  refine ⟨_, rfl, reads_all hpb2, ?_⟩
  refine (rNew17_spec (x11.row hrb) hnb (by omega) (by omega) (fixSz_ok s)).mono ?_
  rintro v h2 ⟨m, D, rfl, H2, x2⟩
  have H2 : MdR h1b.size (fun _ => False) h2 m D (fixPl P s tries ring normal short) (newM (fixPl P s tries ring normal short) (fixVlans P vls)) := H2
  have po := fixPl_ok P s tries ring normal short
  have N2 := fixVlans_nice (P := P) (tries := tries) (ring := ring) (normal := normal) (short := short) (s := s) wf
  obtain ⟨p, hp⟩ : ∃ p, fixPl P s tries ring normal short = p := ⟨_, rfl⟩
  rw [hp] at H2 po N2 ⊢
  obtain ⟨M0, hM0⟩ : ∃ M0, newM p (fixVlans P vls) = M0 := ⟨_, rfl⟩
  rw [hM0] at H2 N2 ⊢
  refine (rOrder18_spec ((x11.trans x2).row hr) hl hn).mono ?_
  rintro v h3 ⟨A', c', O, rfl, hO, oO, x3⟩
  have hOm : ∀ x ∈ O, 0 ≤ x ∧ x < (l.length : Int) := fun x hx => ⟨(hO.mem hx).1, by rw [hl]; exact (hO.mem hx).2.1⟩
  have nice : ∀ i, Nice p (replayM p l M0 (O.take i)).1 := fun i => fold_nice po wo (fun x hx => hOm x (List.mem_of_mem_take hx)) N2
  have hOl := hO.len
  refine ⟨Nat × (Nat → Prop) × Md × Int, fun z => [(1, .slice C n c), (6, .pointer (some ⟨m, 0, none⟩)), (7, .int .i64 z.2.2.2), (8, .slice A' O.length c'), (9, .int .i64 z.1)],
    fun z h' => (z.1 ≤ O.length ∧ (z.2.2.1, z.2.2.2) = replayM p l M0 (O.take z.1)) ∧ (MdR h1b.size z.2.1 h' m D p z.2.2.1 ∧ OwnA encI 1 3 h2.size h' A' c' O) ∧ Ext h1b h', fun z => O.length - z.1, (0, fun _ => False, M0, -1),
    ⟨rfl, rfl, rfl, rfl, rfl, trivial⟩, ⟨⟨Nat.zero_le _, rfl⟩, ⟨H2.ext x3, oO⟩, x2.trans x3⟩, ?_⟩
  rintro ⟨i, G, M, bad⟩ h4 ⟨⟨hi, hrep⟩, ⟨H4, oO4⟩, x4⟩
  simp only at hi hrep H4
  refine xif_of (fun hlt => ?_) (fun hge => ?_)
  rotate_left
  · have hge : ¬ (i : Int) < O.length := of_decide_eq_false hge
    rw [List.take_of_length_le (by omega)] at hrep
    refine ⟨m, D, G, O, h1b.size, by rw [← hrep]; rfl, hO, x11.size, by rw [← hrep]; exact H4, H4.geG, x11.trans x4⟩
  have hlt : (i : Int) < O.length := of_decide_eq_true hlt
  obtain ⟨x, hx⟩ : ∃ x, O[i]? = some x := ⟨O[i]'(by omega), List.getElem?_eq_getElem (by omega)⟩
  obtain ⟨x0, x1'⟩ := hOm x (List.mem_of_getElem? hx)
  obtain ⟨e, he⟩ : ∃ e, l[x.toNat]? = some e := ⟨l[x.toNat]'(by omega), List.getElem?_eq_getElem (by omega)⟩
  have hge : l.getD x.toNat he0 = e := by rw [List.getD_eq_getElem?_getD, he]; rfl
  obtain ⟨ao, hAo, ro⟩ := (oO4.row encI_len) i x hx
  have co := ro.get 0 (v := .int .i64 x) rfl
  rw [add_zero'] at co
  obtain ⟨al, hAl, rl⟩ := ((x11.trans x4).row hr) x.toNat e he
  have xn : x < (n : Int) := by omega
  refine ⟨ao, hAo, by omega, hlt, _, co, al, hAl, x0, xn, encHe e, rfl, rl, ?_⟩
  intro eb h5 n5
  refine ⟨rfl, rfl, canset_blk n5.this rfl, fun h6 s6 => ?_⟩
  have heb : h6[eb]? = some (.cells (encHe e).toArray 107 (0, 0)) := n5.fill rfl s6
  have x46 : Ext h4 h6 := n5.ext.stored s6 (n5.ge (Ext.refl _))
  have H6 := H4.ext x46
  refine ⟨encO17 e.op, rfl, reads_at heb rfl, ?_⟩
  have N4 := nice i
  rw [← hrep] at N4
  have vls4 : M.vlans.length ≤ 1000 := by have := N4.few; simp only at this; omega
  have we := wo e (List.mem_of_getElem? he)
  refine (rDo17_spec po N4.ok vls4 H6 we).mono ?_
  rintro v h7 ⟨rfl, d7⟩
  have x7 := d7.ext9 H6 (x4.trans x46) (Nat.le_refl _)
  have off3 := MdR.off3 H6
  obtain ⟨G', _, H7, f7⟩ := d7
  have oO7 : OwnA encI 1 3 h2.size h7 A' c' O := (oO4.ext x46).frT f7 off3
  have heb7 : h7[eb]? = some (.cells (encHe e).toArray 107 (0, 0)) := by
    refine f7.blk heb fun hz => ?_
    have : Off (D.Z p) h6 107 := H6.off (by decide) (by decide) (by decide) (by decide)
    exact this.not heb hz
  have hbad := replay_bad (p := p) (l := l) (M := M0) (O := O.take i) (fun x hx => (hOm x (List.mem_of_mem_take hx)).1)
  rw [← hrep] at hbad
  simp only at hbad
  have step := replay_take (p := p) (l := l) (M := M0) hx
  rw [← hrep] at step
  unfold stepR at step
  simp only [hge] at step
  have next : ∀ bad', (bad' = if bad = -1 ∧ 0 < e.fin ∧ (do17 p M e.op).2 ≠ e.ans then x else bad) → ((do17 p M e.op).1, bad') = replayM p l M0 (O.take (i + 1)) := fun bad' hb => by rw [step, hb]
  refine xif_of (fun q => ?_) (fun q => ?_)
  rotate_left
  · have q : ¬ bad < 0 := of_decide_eq_false q
    exact ⟨(i + 1, G', (do17 p M e.op).1, bad), ⟨rfl, rfl, rfl, rfl, slot_inc (by omega), trivial⟩, ⟨⟨by show i + 1 ≤ O.length; omega, next bad (by rw [if_neg (fun k => by omega)])⟩, ⟨H7, oO7⟩, x7⟩, by show O.length - (i + 1) < O.length - i; omega⟩
  have q : bad < 0 := of_decide_eq_true q
  refine ⟨_, cell_blk heb7 rfl, ?_⟩
  refine xif_of (fun q2 => ?_) (fun q2 => ?_)
  rotate_left
  · have q2 : ¬ e.fin > 0 := of_decide_eq_false q2
    exact ⟨(i + 1, G', (do17 p M e.op).1, bad), ⟨rfl, rfl, rfl, rfl, slot_inc (by omega), trivial⟩, ⟨⟨by show i + 1 ≤ O.length; omega, next bad (by rw [if_neg (fun k => q2 k.2.1)])⟩, ⟨H7, oO7⟩, x7⟩, by show O.length - (i + 1) < O.length - i; omega⟩
  have q2 : e.fin > 0 := of_decide_eq_true q2
  refine ⟨_, cell_blk heb7 rfl, ?_⟩
  refine xif_of (fun q3 => ?_) (fun q3 => ?_)
  rotate_left
  · have q3 : (do17 p M e.op).2 = e.ans := by simpa using q3
    exact ⟨(i + 1, G', (do17 p M e.op).1, bad), ⟨rfl, rfl, rfl, rfl, slot_inc (by omega), trivial⟩, ⟨⟨by show i + 1 ≤ O.length; omega, next bad (by rw [if_neg (fun k => k.2.2 q3)])⟩, ⟨H7, oO7⟩, x7⟩, by show O.length - (i + 1) < O.length - i; omega⟩
  have q3 : (do17 p M e.op).2 ≠ e.ans := by simpa using q3
  obtain ⟨ao2, hAo2, ro2⟩ := (oO7.row encI_len) i x hx
  have co2 := ro2.get 0 (v := .int .i64 x) rfl
  rw [add_zero'] at co2
  refine ⟨ao2, hAo2, by omega, hlt, _, co2, ?_⟩
  exact ⟨(i + 1, G', (do17 p M e.op).1, x), ⟨rfl, rfl, rfl, rfl, slot_inc (by omega), trivial⟩, ⟨⟨by show i + 1 ≤ O.length; omega, next x (by rw [if_pos ⟨by omega, q2, q3⟩])⟩, ⟨H7, oO7⟩, x7⟩, by show O.length - (i + 1) < O.length - i; omega⟩
theorem idxP_drop {P : He → Bool} {l : List He} {i : Nat} {e : He} (h : l[i]? = some e) : idxP P (l.drop i) i = if P e = true then (i : Int) else idxP P (l.drop (i + 1)) (i + 1) := by
  obtain ⟨hi, rfl⟩ := List.getElem?_eq_some_iff.1 h
  rw [List.drop_eq_getElem_cons hi]
  rfl
set_option maxHeartbeats 2000000 in
theorem rCheck18_spec {A B C : Option Addr} {na ca nb cb n c : Nat} {rules : List Ru} {vls : List Vl} {P tries ring normal short : Int} {s : Sz} {l : List He}
    (hra : Row encRu 2 h A (fixRules P rules)) (hrb : Row encVl 3 h B (fixVlans P vls)) (hna : (fixRules P rules).length = na) (hnb : (fixVlans P vls).length = nb) (wf : ∀ v ∈ vls, SetWf v.mem ∧ SetWf v.unt)
    (hr : Row encHe 19 h C l) (hl : l.length = n) (hn : n ≤ 2000) (wo : ∀ e ∈ l, e.op.Wf) :
    HCalls Tryz.prog 56 #[.agg (planV (fixPorts P) (.slice A na ca) (.slice B nb cb) (fixSz s) (fixTries tries) (fixRing ring) normal short).toArray, .slice C n c] h
      (fun v h' => ∃ i e : Int, v = .tuple #[.int .i64 i, .int .i64 e] ∧ (∀ O, IsOrd l n O → (i, e) = checkH (fixPl P s tries ring normal short) l (newM (fixPl P s tries ring normal short) (fixVlans P vls)) O) ∧ Ext h h') := by
  refine xcalls env_rCheck18 Tryz.func56 rfl (by kernel_rfl) rfl (by kernel_rfl) ?_
  intro pb h1 n1
  have hpb := n1.this
  have x1 := n1.ext
  have wfv : ∀ v ∈ fixVlans P vls, SetWf v.mem ∧ SetWf v.unt := fun v hv => fixVl_wf _ _ (fun v hv => wf v (List.mem_of_mem_take hv)) v hv
  have hpr := fixPorts_range P
  have hvl := fixVlans_len P vls
  have hrl : (fixRules P rules).length = (fixPorts P).toNat := by unfold fixRules; simp
  refine ⟨_, rfl, reads_all hpb, ?_⟩
  refine (r17Check_spec (x1.row hra) hna (x1.row hrb) hnb (by omega) (by omega) wfv).mono ?_
  rintro v h2 ⟨rfl, x2⟩
  rw [fix_check P rules vls s tries ring]
  have x02 := x1.trans x2
  have hpb2 := x2.blk hpb
  obtain ⟨p, hpl⟩ : ∃ p, fixPl P s tries ring normal short = p := ⟨_, rfl⟩
  obtain ⟨M0, hM0⟩ : ∃ M0, newM p (fixVlans P vls) = M0 := ⟨_, rfl⟩
  rw [hpl, hM0]
  unfold checkH
  refine ⟨Nat, fun i => [(1, .slice C n c), (2, .pointer (some ⟨pb, 0, none⟩)), (7, .int .i64 i)], fun i h' => (i ≤ n ∧ idxP (fun e => !timelyM e) (l.drop i) i = idxP (fun e => !timelyM e) l 0) ∧ Ext h2 h', fun i => n - i, 0, ⟨rfl, rfl, rfl, trivial⟩, ⟨⟨Nat.zero_le _, rfl⟩, Ext.refl _⟩, ?_⟩
  rintro i h3 ⟨⟨hi, hf⟩, x3⟩
  have x03 := x02.trans x3
  refine xif_of (fun hlt => ?_) (fun hge => ?_)
  · have hlt : (i : Int) < n := of_decide_eq_true hlt
    obtain ⟨e, he⟩ : ∃ e, l[i]? = some e := ⟨l[i]'(by omega), List.getElem?_eq_getElem (by omega)⟩
    obtain ⟨a, hA, hrd⟩ := (x03.row hr) i e he
    rw [idxP_drop he] at hf
    refine ⟨a, hA, by omega, hlt, encHe e, rfl, hrd, ?_⟩
    intro eb h5 n5
    refine ⟨rfl, rfl, canset_blk n5.this rfl, fun h6 s6 => ?_⟩
    have heb : h6[eb]? = some (.cells (encHe e).toArray 107 (0, 0)) := n5.fill rfl s6
    have x36 : Ext h3 h6 := n5.ext.stored s6 (n5.ge (Ext.refl _))
    have x06 := x03.trans x36
    have bad : timelyM e = false → idxP (fun e => !timelyM e) l 0 = (i : Int) := fun t => by rw [← hf, if_pos (by rw [t]; rfl)]
    have good : timelyM e = true → idxP (fun e => !timelyM e) (l.drop (i + 1)) (i + 1) = idxP (fun e => !timelyM e) l 0 := fun t => by rw [← hf, if_neg (by rw [t]; decide)]
    have out : timelyM e = false → ∀ O, IsOrd l n O → ((i : Int), (4 : Int)) = (if 0 ≤ idxP (fun e => !timelyM e) l 0 then (idxP (fun e => !timelyM e) l 0, (4 : Int)) else match (List.range l.length).find? (isBusy l) with
        | some i => ((i : Int), (10 : Int))
        | none => if 0 ≤ (replayM p l M0 O).2 then ((replayM p l M0 O).2, (7 : Int)) else ((-1 : Int), (0 : Int))) := fun t O _ => by rw [bad t, if_pos (by omega)]
    refine ⟨_, cell_blk heb rfl, ?_⟩
    refine xif_of (fun q1 => ?_) (fun q1 => ?_)
    · have q1 : e.beg < 0 := of_decide_eq_true q1
      exact ⟨_, _, rfl, out (by unfold timelyM; rw [decide_eq_true (.inl q1)]; rfl), x06⟩
    have q1 : ¬ e.beg < 0 := of_decide_eq_false q1
    refine ⟨_, cell_blk heb rfl, ?_⟩
    refine xif_of (fun q2 => ?_) (fun q2 => ?_)
    · have q2 : e.mark < 0 := of_decide_eq_true q2
      exact ⟨_, _, rfl, out (by unfold timelyM; rw [decide_eq_true (.inr (.inl q2))]; rfl), x06⟩
    have q2 : ¬ e.mark < 0 := of_decide_eq_false q2
    refine ⟨_, cell_blk heb rfl, ?_⟩
    refine xif_of (fun q3 => ?a) (fun q3 => ?b)
    case' a =>
      have q3 : e.mark > 0 := of_decide_eq_true q3
      refine ⟨_, cell_blk heb rfl, _, cell_blk heb rfl, ?_⟩
      refine xif_of (fun q4 => ?_) (fun q4 => ?_)
      · have q4 : e.mark ≤ e.beg := of_decide_eq_true q4
        exact ⟨_, _, rfl, out (by unfold timelyM; rw [decide_eq_true (show 0 < e.mark ∧ e.mark ≤ e.beg by omega)]; simp), x06⟩
      have q4 : ¬ e.mark ≤ e.beg := of_decide_eq_false q4
      have d1 : ¬ (0 < e.mark ∧ e.mark ≤ e.beg) := by omega
    case' b =>
      have q3 : ¬ e.mark > 0 := of_decide_eq_false q3
      have d1 : ¬ (0 < e.mark ∧ e.mark ≤ e.beg) := by omega
    all_goals
      refine ⟨_, cell_blk heb rfl, ?_⟩
      refine xif_of (fun q5 => ?_) (fun q5 => ?_)
      · have q5 : e.fin < 0 := of_decide_eq_true q5
        exact ⟨_, _, rfl, out (by unfold timelyM; rw [decide_eq_true (show e.beg < 0 ∨ e.mark < 0 ∨ e.fin < 0 from .inr (.inr q5))]; rfl), x06⟩
      have q5 : ¬ e.fin < 0 := of_decide_eq_false q5
      have c1 : ¬ (e.beg < 0 ∨ e.mark < 0 ∨ e.fin < 0) := by omega
      refine ⟨_, cell_blk heb rfl, ?_⟩
      refine xif_of (fun q6 => ?_) (fun q6 => ?_)
      rotate_left
      · have q6 : ¬ e.fin > 0 := of_decide_eq_false q6
        exact ⟨i + 1, ⟨rfl, rfl, slot_inc (by omega), trivial⟩, ⟨⟨by omega, good (by unfold timelyM; rw [decide_eq_false c1, decide_eq_false d1, decide_eq_false (show ¬ (0 < e.fin ∧ (e.mark = 0 ∨ e.fin < e.mark)) by omega)]; rfl)⟩, x3.trans x36⟩, by show n - (i + 1) < n - i; omega⟩
      have q6 : e.fin > 0 := of_decide_eq_true q6
      refine ⟨_, cell_blk heb rfl, _, cell_blk heb rfl, ?_⟩
      refine xif_of (fun q7 => ?_) (fun q7 => ?_)
      · have q7 : e.fin < e.mark := of_decide_eq_true q7
        exact ⟨_, _, rfl, out (by unfold timelyM; rw [decide_eq_true (show 0 < e.fin ∧ (e.mark = 0 ∨ e.fin < e.mark) by omega)]; simp), x06⟩
      have q7 : ¬ e.fin < e.mark := of_decide_eq_false q7
      refine ⟨_, cell_blk heb rfl, ?_⟩
      refine xif_of (fun q8 => ?_) (fun q8 => ?_)
      · have q8 : e.mark = 0 := by simpa using q8
        exact ⟨_, _, rfl, out (by unfold timelyM; rw [decide_eq_true (show 0 < e.fin ∧ (e.mark = 0 ∨ e.fin < e.mark) by omega)]; simp), x06⟩
      · have q8 : ¬ e.mark = 0 := by simpa using q8
        exact ⟨i + 1, ⟨rfl, rfl, slot_inc (by omega), trivial⟩, ⟨⟨by omega, good (by unfold timelyM; rw [decide_eq_false c1, decide_eq_false d1, decide_eq_false (show ¬ (0 < e.fin ∧ (e.mark = 0 ∨ e.fin < e.mark)) by omega)]; rfl)⟩, x3.trans x36⟩, by show n - (i + 1) < n - i; omega⟩
  have hge : ¬ (i : Int) < n := of_decide_eq_false hge
  rw [List.drop_eq_nil_of_le (by omega)] at hf
  have hnone : idxP (fun e => !timelyM e) l 0 = -1 := hf.symm
  rw [hnone]
  refine ⟨Nat, fun i => [(1, .slice C n c), (2, .pointer (some ⟨pb, 0, none⟩)), (9, .int .i64 i)], fun i h' => (i ≤ n ∧ ∀ j, j < i → isBusy l j = false) ∧ h' = h3, fun i => n - i, 0, ⟨rfl, rfl, rfl, trivial⟩, ⟨⟨Nat.zero_le _, fun j hj => by omega⟩, rfl⟩, ?_⟩
  rintro i2 h4 ⟨⟨hi2, hb⟩, rfl⟩
  refine xif_of (fun hlt => ?_) (fun hge2 => ?_)
  · have hlt : (i2 : Int) < n := of_decide_eq_true hlt
    obtain ⟨e, he⟩ : ∃ e, l[i2]? = some e := ⟨l[i2]'(by omega), List.getElem?_eq_getElem (by omega)⟩
    obtain ⟨a, hA, rd⟩ := (x03.row hr) i2 e he
    have hge : l.getD i2 he0 = e := by rw [List.getD_eq_getElem?_getD, he]; rfl
    have i0 : (0 : Int) ≤ i2 := by omega
    refine ⟨Nat, fun k => [(1, .slice C n c), (2, .pointer (some ⟨pb, 0, none⟩)), (9, .int .i64 i2), (10, .int .i64 k)], fun k h' => (k ≤ i2 ∧ ((l.take k).any (againstM e)) = false) ∧ h' = h4, fun k => i2 - k, 0, ⟨rfl, rfl, rfl, rfl, trivial⟩, ⟨⟨Nat.zero_le _, rfl⟩, rfl⟩, ?_⟩
    rintro k h5 ⟨⟨hk, hany⟩, rfl⟩
    refine xif_of (fun hlt2 => ?_) (fun hge3 => ?_)
    rotate_left
    · have hge3 : ¬ (k : Int) < i2 := of_decide_eq_false hge3
      obtain rfl : k = i2 := by omega
      exact ⟨k + 1, ⟨rfl, rfl, slot_inc (by omega), trivial⟩, ⟨⟨by omega, fun j hj => by
        by_cases q : j = k
        · subst q; unfold isBusy; rw [hge]; exact hany
        · exact hb j (by omega)⟩, rfl⟩, by show n - (k + 1) < n - k; omega⟩
    have hlt2 : (k : Int) < i2 := of_decide_eq_true hlt2
    have hkn : (k : Int) < n := by omega
    have k0 : (0 : Int) ≤ k := by omega
    obtain ⟨y, hy⟩ : ∃ y, l[k]? = some y := ⟨l[k]'(by omega), List.getElem?_eq_getElem (by omega)⟩
    obtain ⟨a2, hA2, rd2⟩ := (x03.row hr) k y hy
    have yes : againstM e y = true → ∀ O, IsOrd l n O → ((i2 : Int), (10 : Int)) = (if 0 ≤ (-1 : Int) then ((-1 : Int), (4 : Int)) else match (List.range l.length).find? (isBusy l) with
        | some i => ((i : Int), (10 : Int))
        | none => if 0 ≤ (replayM p l M0 O).2 then ((replayM p l M0 O).2, (7 : Int)) else ((-1 : Int), (0 : Int))) := by
      intro t O _
      have hbz : isBusy l i2 = true := by
        unfold isBusy
        rw [hge]
        refine List.any_eq_true.2 ⟨y, ?_, t⟩
        exact List.mem_of_getElem? (i := k) (by rw [List.getElem?_take, if_pos (by omega), hy])
      have : (List.range l.length).find? (isBusy l) = some i2 := List.find?_range_eq_some.2 ⟨hbz, by rw [List.mem_range]; omega, fun j hj => by rw [hb j hj]; rfl⟩
      rw [if_neg (by decide), this]
    have no : againstM e y = false → (l.take (k + 1)).any (againstM e) = false := fun t => by rw [← take_next hy, List.any_append, hany]; simp [t]
    refine ⟨a, hA, i0, hlt, _, rd.get 2 rfl, ?_⟩
    refine xif_of (fun c1 => ?a2) (fun c1 => ?b2)
    case' a2 =>
      have c1 : e.mark > 0 := of_decide_eq_true c1
      refine ⟨a, hA, i0, hlt, _, rd.get 2 rfl, a2, hA2, k0, hkn, _, rd2.get 2 rfl, ?_⟩
      refine xif_of (fun c2 => ?_) (fun c2 => ?_)
      · have c2 : e.mark = y.mark := by simpa using c2
        exact ⟨_, _, rfl, yes (by unfold againstM; rw [decide_eq_true (show 0 < e.mark ∧ e.mark = y.mark by omega)]; rfl), x03⟩
      have c2 : ¬ e.mark = y.mark := by simpa using c2
      have d1 : ¬ (0 < e.mark ∧ e.mark = y.mark) := by omega
    case' b2 =>
      have c1 : ¬ e.mark > 0 := of_decide_eq_false c1
      have d1 : ¬ (0 < e.mark ∧ e.mark = y.mark) := by omega
    all_goals
      refine ⟨a, hA, i0, hlt, _, rd.get 0 rfl, a2, hA2, k0, hkn, _, rd2.get 0 rfl, ?_⟩
      refine xif_of (fun c3 => ?_) (fun c3 => ?_)
      rotate_left
      · have c3 : ¬ e.who = y.who := by simpa using c3
        exact ⟨k + 1, ⟨rfl, rfl, rfl, slot_inc (by omega), trivial⟩, ⟨⟨by omega, no (by unfold againstM; rw [decide_eq_false d1, decide_eq_false (fun q => c3 q.1)]; rfl)⟩, rfl⟩, by show i2 - (k + 1) < i2 - k; omega⟩
      have c3 : e.who = y.who := by simpa using c3
      refine ⟨a2, hA2, k0, hkn, _, rd2.get 3 rfl, ?_⟩
      refine xif_of (fun c4 => ?_) (fun c4 => ?_)
      · have c4 : y.fin = 0 := by simpa using c4
        exact ⟨_, _, rfl, yes (by unfold againstM; rw [decide_eq_true (show e.who = y.who ∧ (y.fin = 0 ∨ e.beg < y.fin) from ⟨c3, .inl c4⟩)]; simp), x03⟩
      have c4 : ¬ y.fin = 0 := by simpa using c4
      refine ⟨a2, hA2, k0, hkn, _, rd2.get 3 rfl, a, hA, i0, hlt, _, rd.get 1 rfl, ?_⟩
      refine xif_of (fun c5 => ?_) (fun c5 => ?_)
      · have c5 : y.fin > e.beg := of_decide_eq_true c5
        exact ⟨_, _, rfl, yes (by unfold againstM; rw [decide_eq_true (show e.who = y.who ∧ (y.fin = 0 ∨ e.beg < y.fin) from ⟨c3, .inr c5⟩)]; simp), x03⟩
      · have c5 : ¬ y.fin > e.beg := of_decide_eq_false c5
        exact ⟨k + 1, ⟨rfl, rfl, rfl, slot_inc (by omega), trivial⟩, ⟨⟨by omega, no (by unfold againstM; rw [decide_eq_false d1, decide_eq_false (show ¬ (e.who = y.who ∧ (y.fin = 0 ∨ e.beg < y.fin)) by omega)]; rfl)⟩, rfl⟩, by show i2 - (k + 1) < i2 - k; omega⟩
  have hge2 : ¬ (i2 : Int) < n := of_decide_eq_false hge2
  have hnb2 : (List.range l.length).find? (isBusy l) = none := List.find?_range_eq_none.2 fun j hj => by rw [hb j (by omega)]; rfl
  rw [hnb2]
  have hpb4 := x3.blk hpb2
  refine ⟨_, rfl, reads_all hpb4, ?_⟩
  refine (rReplay18_spec (x03.row hra) (x03.row hrb) hna hnb wf (x03.row hr) hl hn wo).mono ?_
  rintro v h5 ⟨m, D, F, O, bm, rfl, hO, _, _, _, x5⟩
  rw [hpl, hM0]
  refine xif_of (fun q2 => ?_) (fun q2 => ?_)
  · have q2 : (replayM p l M0 O).2 ≥ 0 := of_decide_eq_true q2
    exact ⟨_, _, rfl, (fun O' hO' => by rw [if_neg (by decide), hO'.one hO]; simp only; rw [if_pos q2]), x03.trans x5⟩
  · have q2 : ¬ (replayM p l M0 O).2 ≥ 0 := of_decide_eq_false q2
    exact ⟨_, _, rfl, (fun O' hO' => by rw [if_neg (by decide), hO'.one hO]; simp only; rw [if_neg q2]), x03.trans x5⟩
end
end Go.Proofs.YtcjoenkpibhmoaaGreatE
