/- Histories: the program's Replay and Check. Conditions: the arguments are of their types, and not too many. -/
import Derived.Test.YtcjoenkpibhmoaaGreatXH5
import Derived.Test.YtcjoenkpibhmoaaGreatXP1
set_option linter.unusedVariables false
set_option linter.unusedSimpArgs false
set_option maxRecDepth 100000
namespace Go.Proofs.YtcjoenkpibhmoaaGreatE
open Go Go.Proofs
def env_l18To : Nat → Ann
  | 6 => ⟨.op 0 [] <| .op 1 [] <| .op 2 [] <| .op 3 [] <| .op 4 [] <| .op 5 [] <| .op 6 [] <| .op 7 [] <| .op 8 [] <| .op 9 [] <| .op 10 [] <| .op 12 [] <| .op 13 [] <| .op 11 [2, 4, 6, 8, 13] <| .op 14 [] <| .op 15 [] <| .op 16 [] <| .op 17 [] <| .nil, [0, 0, 2, 0, 8, 0, 32, 0, 128, 0, 512, 1536, 0, 4096, 16382, 32766, 65535, 131071], false⟩
  | _ => ⟨.nil, [], false⟩
def env_hCheck : Nat → Ann
  | 10 => ⟨.op 0 [] <| .op 1 [] <| .op 2 [] <| .op 3 [] <| .op 4 [] <| .op 5 [] <| .nil, [0, 0, 3, 0, 8, 31], false⟩
  | _ => ⟨.nil, [], false⟩
def stepR (p : Pl) (l : List He) (z : Md × Int) (x : Int) : Md × Int :=
  ((do17 p z.1 (l.getD x.toNat he0).op).1, if z.2 = -1 ∧ 0 < (l.getD x.toNat he0).fin ∧ (do17 p z.1 (l.getD x.toNat he0).op).2 ≠ (l.getD x.toNat he0).ans then x else z.2)
/-- The model behind what took effect, and the first one that isn't answered so. -/
def replayM (p : Pl) (l : List He) (M : Md) (O : List Int) : Md × Int := O.foldl (stepR p l) (M, -1)
def isBusy (l : List He) (i : Nat) : Bool := (l.take i).any (againstM (l.getD i he0))
def checkH (p : Pl) (l : List He) (M : Md) (O : List Int) : Int × Int :=
  if 0 ≤ idxP (fun e => !timelyM e) l 0 then (idxP (fun e => !timelyM e) l 0, 4)
  else match (List.range l.length).find? (isBusy l) with
    | some i => ((i : Int), 10)
    | none => if 0 ≤ (replayM p l M O).2 then ((replayM p l M O).2, 7) else (-1, 0)
theorem replay_take {p : Pl} {l : List He} {M : Md} {O : List Int} {i : Nat} {x : Int} (h : O[i]? = some x) : replayM p l M (O.take (i + 1)) = stepR p l (replayM p l M (O.take i)) x := by
  unfold replayM
  rw [← take_next h, List.foldl_append]
  rfl
theorem fold_bad {p : Pl} {l : List He} : ∀ {O : List Int} {z : Md × Int}, (∀ x ∈ O, 0 ≤ x) → (z.2 = -1 ∨ 0 ≤ z.2) → (O.foldl (stepR p l) z).2 = -1 ∨ 0 ≤ (O.foldl (stepR p l) z).2
  | [], z, _, h => h
  | x :: O, z, ho, h => by
    rw [List.foldl_cons]
    refine fold_bad (fun y hy => ho y (List.mem_cons_of_mem _ hy)) ?_
    unfold stepR
    simp only
    split
    · exact .inr (ho x (List.mem_cons_self ..))
    · exact h
theorem replay_bad {p : Pl} {l : List He} {M : Md} {O : List Int} (ho : ∀ x ∈ O, 0 ≤ x) : (replayM p l M O).2 = -1 ∨ 0 ≤ (replayM p l M O).2 := fold_bad ho (.inl rfl)
theorem fold_nice {p : Pl} (po : p.Ok) {l : List He} (wo : ∀ e ∈ l, e.op.Wf) : ∀ {O : List Int} {z : Md × Int}, (∀ x ∈ O, 0 ≤ x ∧ x < (l.length : Int)) → Nice p z.1 → Nice p (O.foldl (stepR p l) z).1
  | [], z, _, h => h
  | x :: O, z, ho, h => by
    rw [List.foldl_cons]
    refine fold_nice po wo (fun y hy => ho y (List.mem_cons_of_mem _ hy)) ?_
    obtain ⟨h0, h1⟩ := ho x (List.mem_cons_self ..)
    have hx : l[x.toNat]? = some (l[x.toNat]'(by omega)) := List.getElem?_eq_getElem (by omega)
    have hg : l.getD x.toNat he0 = l[x.toNat]'(by omega) := by rw [List.getD_eq_getElem?_getD, hx]; rfl
    show Nice p (do17 p z.1 (l.getD x.toNat he0).op).1
    rw [hg]
    exact nice_do po h (wo _ (List.getElem_mem _))
theorem row_first {α : Type} {enc : α → List Value} {sz : Nat} {h : Heap} {A : Option Addr} {xs : List α} (H : Row enc sz h A xs) (n : Nat) {q : Prop} {inst : Decidable q} {f : Addr → Addr} (hf : ∀ a, f a = a) : Row enc sz h (@ite _ q inst A (Option.map f A)) (xs.take n) := by
  have e : (@ite _ q inst A (Option.map f A)) = A := by
    split
    · rfl
    · cases A with
      | none => rfl
      | some a => rw [Option.map_some, hf]
  rw [e]
  intro i x hx
  rw [List.getElem?_take] at hx
  split at hx
  · exact H i x hx
  · cases hx
section
variable {h : Heap}
set_option maxHeartbeats 1000000 in
theorem hReplay_spec {A B C : Option Addr} {na ca nb cb n c : Nat} {rules : List Ru} {vls : List Vl} {P tries ring normal short : Int} {s : Sz} {l : List He} {base : Nat}
    (ora : OwnA encRu 2 101 base h A ca (fixRules P rules)) (orb : OwnA encVl 3 147 base h B cb (fixVlans P vls)) (hna : (fixRules P rules).length = na) (hnb : (fixVlans P vls).length = nb) (wf : ∀ v ∈ vls, SetWf v.mem ∧ SetWf v.unt)
    (hr : Row encHe 19 h C l) (hl : l.length = n) (hn : n ≤ 2000) (wo : ∀ e ∈ l, e.op.Wf) :
    HCalls Tryz.prog 38 #[.agg (planV (fixPorts P) (.slice A na ca) (.slice B nb cb) (fixSz s) (fixTries tries) (fixRing ring) normal short).toArray, .slice C n c] h
      (fun v h' => ∃ m D F O bm, v = .tuple #[.pointer (some ⟨m, 0, none⟩), .int .i64 (replayM (fixPl P s tries ring normal short) l (newM (fixPl P s tries ring normal short) (fixVlans P vls)) O).2] ∧ IsOrd l n O ∧ h.size ≤ bm ∧
        MdP bm F h' m D (fixPl P s tries ring normal short) (replayM (fixPl P s tries ring normal short) l (newM (fixPl P s tries ring normal short) (fixVlans P vls)) O).1 ∧ (∀ b, F b → bm ≤ b) ∧ Ext h h') := by
  refine xcalls env0 Tryz.func38 rfl (by kernel_rfl) rfl (by kernel_rfl) ?_
  intro pb h1 n1
  have hpb := n1.this
  have x1 := n1.ext
  refine ⟨_, rfl, reads_all hpb, ?_⟩
  refine (mNew_fix (ora.ext x1) (orb.ext x1) hna hnb wf).mono ?_
  rintro v h2 ⟨m, D, rfl, H2, x2⟩
  have po := fixPl_ok P s tries ring normal short
  have N2 := fixVlans_nice (P := P) (tries := tries) (ring := ring) (normal := normal) (short := short) (s := s) wf
  obtain ⟨p, hp⟩ : ∃ p, fixPl P s tries ring normal short = p := ⟨_, rfl⟩
  rw [hp] at H2 po N2 ⊢
  obtain ⟨M0, hM0⟩ : ∃ M0, newM p (fixVlans P vls) = M0 := ⟨_, rfl⟩
  rw [hM0] at H2 N2 ⊢
  refine (hOrder_spec ((x1.trans x2).row hr) hl hn).mono ?_
  rintro v h3 ⟨A', c', O, rfl, hO, oO, x3⟩
  have hOm : ∀ x ∈ O, 0 ≤ x ∧ x < (l.length : Int) := fun x hx => ⟨(hO.mem hx).1, by rw [hl]; exact (hO.mem hx).2.1⟩
  have nice : ∀ i, Nice p (replayM p l M0 (O.take i)).1 := fun i => fold_nice po wo (fun x hx => hOm x (List.mem_of_mem_take hx)) N2
  have hOl := hO.len
  have apart3 : ∀ b, A' = some ⟨b, 0, none⟩ → ¬ (fun _ => False : Nat → Prop) b := fun b _ e => e
  refine ⟨Nat × (Nat → Prop) × Md × Int, fun z => [(1, .slice C n c), (6, .pointer (some ⟨m, 0, none⟩)), (8, .int .i64 z.2.2.2), (20, .slice A' O.length c'), (21, .int .i64 O.length), (22, .int .i64 z.1)],
    fun z h' => (z.1 ≤ O.length ∧ (z.2.2.1, z.2.2.2) = replayM p l M0 (O.take z.1)) ∧ (MdP h1.size z.2.1 h' m D p z.2.2.1 ∧ OwnA encI 1 3 h2.size h' A' c' O ∧ (∀ b, A' = some ⟨b, 0, none⟩ → ¬ z.2.1 b)) ∧ Ext h1 h', fun z => O.length - z.1, (0, fun _ => False, M0, -1),
    ⟨rfl, rfl, rfl, rfl, rfl, rfl, trivial⟩, ⟨⟨Nat.zero_le _, rfl⟩, ⟨H2.ext x3, oO, apart3⟩, x2.trans x3⟩, ?_⟩
  rintro ⟨i, F, M, bad⟩ h4 ⟨⟨hi, hrep⟩, ⟨H4, oO4, ap4⟩, x4⟩
  simp only at hi hrep H4 ap4
  refine xif_of (fun hlt => ?_) (fun hge => ?_)
  rotate_left
  · have hge : ¬ (i : Int) < O.length := of_decide_eq_false hge
    rw [List.take_of_length_le (by omega)] at hrep
    refine ⟨m, D, F, O, h1.size, by rw [← hrep]; rfl, hO, x1.size, by rw [← hrep]; exact H4, H4.geF, x1.trans x4⟩
  have hlt : (i : Int) < O.length := of_decide_eq_true hlt
  obtain ⟨x, hx⟩ : ∃ x, O[i]? = some x := ⟨O[i]'(by omega), List.getElem?_eq_getElem (by omega)⟩
  obtain ⟨x0, x1'⟩ := hOm x (List.mem_of_getElem? hx)
  obtain ⟨e, he⟩ : ∃ e, l[x.toNat]? = some e := ⟨l[x.toNat]'(by omega), List.getElem?_eq_getElem (by omega)⟩
  have hge : l.getD x.toNat he0 = e := by rw [List.getD_eq_getElem?_getD, he]; rfl
  obtain ⟨ao, hAo, ro⟩ := (oO4.row encI_len) i x hx
  have co := ro.get 0 (v := .int .i64 x) rfl
  rw [add_zero'] at co
  obtain ⟨al, hAl, rl⟩ := ((x1.trans x4).row hr) x.toNat e he
  have xn : x < (n : Int) := by omega
  have rop : Reads h4 ((al.add (x.toNat * 19)).add 4) (encO17 e.op) := rl.sub 4 rfl
  refine ⟨ao, hAo, by omega, hlt, _, co, al, hAl, x0, xn, encO17 e.op, rfl, rop, ?_⟩
  have N4 := nice i
  rw [← hrep] at N4
  have vls4 : M.vlans.length ≤ 1000 := by have := N4.few; simp only at this; omega
  have we := wo e (List.mem_of_getElem? he)
  refine (mDo_spec po N4.ok vls4 H4 we).mono ?_
  rintro v h5 ⟨rfl, d5⟩
  have x5 := d5.ext0 H4 x4 (Nat.le_refl _)
  have he' := rl
  obtain ⟨F', H5, oO5, ap5, f5⟩ : ∃ F', MdP h1.size F' h5 m D p (do17 p M e.op).1 ∧ OwnA encI 1 3 h2.size h5 A' c' O ∧ (∀ b, A' = some ⟨b, 0, none⟩ → ¬ F' b) ∧ Fr (D.X F) h4 h5 := d5.side H4 oO4 ap4
  obtain ⟨al', hAl', rl'⟩ := ((x1.trans x5).row hr) x.toNat e he
  have step := replay_take (p := p) (l := l) (M := M0) hx
  rw [← hrep] at step
  unfold stepR at step
  simp only [hge] at step
  have next : ∀ bad', (bad' = if bad = -1 ∧ 0 < e.fin ∧ (do17 p M e.op).2 ≠ e.ans then x else bad) → ((do17 p M e.op).1, bad') = replayM p l M0 (O.take (i + 1)) := fun bad' hb => by rw [step, hb]
  refine xif_of (fun q => ?_) (fun q => ?_)
  rotate_left
  · have q : ¬ bad = -1 := by simpa using q
    exact ⟨(i + 1, F', (do17 p M e.op).1, bad), ⟨rfl, rfl, rfl, rfl, rfl, slot_inc (by omega), trivial⟩, ⟨⟨by show i + 1 ≤ O.length; omega, next bad (by rw [if_neg (fun k => q k.1)])⟩, ⟨H5, oO5, ap5⟩, x5⟩, by show O.length - (i + 1) < O.length - i; omega⟩
  have q : bad = -1 := by simpa using q
  refine ⟨al', hAl', x0, xn, _, rl'.get 3 rfl, ?_⟩
  refine xif_of (fun q2 => ?_) (fun q2 => ?_)
  rotate_left
  · have q2 : ¬ e.fin > 0 := of_decide_eq_false q2
    exact ⟨(i + 1, F', (do17 p M e.op).1, bad), ⟨rfl, rfl, rfl, rfl, rfl, slot_inc (by omega), trivial⟩, ⟨⟨by show i + 1 ≤ O.length; omega, next bad (by rw [if_neg (fun k => q2 k.2.1)])⟩, ⟨H5, oO5, ap5⟩, x5⟩, by show O.length - (i + 1) < O.length - i; omega⟩
  have q2 : e.fin > 0 := of_decide_eq_true q2
  refine ⟨al', hAl', x0, xn, _, rl'.get 18 rfl, ?_⟩
  refine xif_of (fun q3 => ?_) (fun q3 => ?_)
  · have q3 : (do17 p M e.op).2 ≠ e.ans := by simpa using q3
    exact ⟨(i + 1, F', (do17 p M e.op).1, x), ⟨rfl, rfl, rfl, rfl, rfl, slot_inc (by omega), trivial⟩, ⟨⟨by show i + 1 ≤ O.length; omega, next x (by rw [if_pos ⟨q, q2, q3⟩])⟩, ⟨H5, oO5, ap5⟩, x5⟩, by show O.length - (i + 1) < O.length - i; omega⟩
  · have q3 : (do17 p M e.op).2 = e.ans := by simpa using q3
    exact ⟨(i + 1, F', (do17 p M e.op).1, bad), ⟨rfl, rfl, rfl, rfl, rfl, slot_inc (by omega), trivial⟩, ⟨⟨by show i + 1 ≤ O.length; omega, next bad (by rw [if_neg (fun k => k.2.2 q3)])⟩, ⟨H5, oO5, ap5⟩, x5⟩, by show O.length - (i + 1) < O.length - i; omega⟩
set_option maxHeartbeats 1000000 in
theorem hCheck_spec {A B C : Option Addr} {na ca nb cb n c : Nat} {rules : List Ru} {vls : List Vl} {P tries ring normal short : Int} {s : Sz} {l : List He} {base : Nat}
    (ora : OwnA encRu 2 101 base h A ca (fixRules P rules)) (orb : OwnA encVl 3 147 base h B cb (fixVlans P vls)) (hna : (fixRules P rules).length = na) (hnb : (fixVlans P vls).length = nb) (wf : ∀ v ∈ vls, SetWf v.mem ∧ SetWf v.unt)
    (hr : Row encHe 19 h C l) (hl : l.length = n) (hn : n ≤ 2000) (hc : n ≤ c) (wo : ∀ e ∈ l, e.op.Wf) :
    HCalls Tryz.prog 36 #[.agg (planV (fixPorts P) (.slice A na ca) (.slice B nb cb) (fixSz s) (fixTries tries) (fixRing ring) normal short).toArray, .slice C n c] h
      (fun v h' => ∃ i e : Int, v = .tuple #[.int .i64 i, .int .i64 e] ∧ (∀ O, IsOrd l n O → (i, e) = checkH (fixPl P s tries ring normal short) l (newM (fixPl P s tries ring normal short) (fixVlans P vls)) O) ∧ Ext h h') := by
  refine xcalls env_hCheck Tryz.func36 rfl (by kernel_rfl) rfl (by kernel_rfl) ?_
  intro pb h1 n1
  have hpb := n1.this
  have x1 := n1.ext
  refine ⟨_, rfl, reads_all hpb, ?_⟩
  have wfv : ∀ v ∈ fixVlans P vls, SetWf v.mem ∧ SetWf v.unt := fun v hv => fixVl_wf _ _ (fun v hv => wf v (List.mem_of_mem_take hv)) v hv
  have hp := fixPorts_range P
  have hvl := fixVlans_len P vls
  have hrl : (fixRules P rules).length = (fixPorts P).toNat := by unfold fixRules; simp
  refine (mCheck_spec ((ora.ext x1).row encRu_len) hna ((orb.ext x1).row encVl_len) hnb (by omega) (by omega) wfv).mono ?_
  rintro v h2 ⟨rfl, x2⟩
  rw [fix_check P rules vls s tries ring]
  have x02 := x1.trans x2
  refine (heIndex_spec (fst := []) (P := fun e => !timelyM e) (x02.row hr) hl (by omega) (fun h' e _ _ => hCheck1_spec e)).mono ?_
  rintro v h3 ⟨rfl, x3⟩
  have x03 := x02.trans x3
  obtain ⟨p, hpl⟩ : ∃ p, fixPl P s tries ring normal short = p := ⟨_, rfl⟩
  obtain ⟨M0, hM0⟩ : ∃ M0, newM p (fixVlans P vls) = M0 := ⟨_, rfl⟩
  rw [hpl, hM0]
  unfold checkH
  refine xif_of (fun q => ?_) (fun q => ?_)
  · have q : idxP (fun e => !timelyM e) l 0 ≥ 0 := of_decide_eq_true q
    exact ⟨_, _, rfl, (fun O _ => by rw [if_pos q]), x03⟩
  have q : ¬ idxP (fun e => !timelyM e) l 0 ≥ 0 := of_decide_eq_false q
  refine ⟨Nat, fun i => [(1, .slice C n c), (2, .pointer (some ⟨pb, 0, none⟩)), (22, .slice C n c), (23, .int .i64 n), (24, .int .i64 i)], fun i h' => (i ≤ n ∧ ∀ j, j < i → isBusy l j = false) ∧ Ext h3 h', fun i => n - i, 0, ⟨rfl, rfl, rfl, rfl, rfl, trivial⟩, ⟨⟨Nat.zero_le _, fun j hj => by omega⟩, Ext.refl _⟩, ?_⟩
  rintro i h4 ⟨⟨hi, hb⟩, x4⟩
  have x04 := x03.trans x4
  refine xif_of (fun hlt => ?_) (fun hge => ?_)
  · have hlt : (i : Int) < n := of_decide_eq_true hlt
    obtain ⟨e, he⟩ : ∃ e, l[i]? = some e := ⟨l[i]'(by omega), List.getElem?_eq_getElem (by omega)⟩
    obtain ⟨a, hA, hrd⟩ := (x04.row hr) i e he
    have hge : l.getD i he0 = e := by rw [List.getD_eq_getElem?_getD, he]; rfl
    refine ⟨a, hA, by omega, hlt, encHe e, rfl, hrd, ?_⟩
    intro eb h5 n5
    refine ⟨rfl, rfl, canset_blk n5.this rfl, fun h6 s6 => ?_⟩
    have heb : h6[eb]? = some (.cells (encHe e).toArray 116 (0, 0)) := n5.fill rfl s6
    have x46 : Ext h4 h6 := n5.ext.stored s6 (n5.ge (Ext.refl _))
    have x06 := x04.trans x46
    have rt := row_first (x06.row hr) i (q := (c : Int).toNat = Int.toNat 0) (inst := inferInstance) (f := fun x => x.add (Int.toNat 0 * 19)) (fun a => add_zero' a)
    refine ⟨fun _ => rfl, by decide, by omega, by omega, Int.le_refl _, encHe e, rfl, reads_all heb, ?_⟩
    refine (heContains_spec (P := againstM e) (fst := [.agg (encHe e).toArray]) rt (n := (i : Int).toNat - Int.toNat 0) (by rw [List.length_take]; have : Int.toNat 0 = 0 := rfl; omega) (by have : Int.toNat 0 = 0 := rfl; omega) (fun h' y _ _ => hAgainst_spec e y)).mono ?_
    rintro v h7 ⟨rfl, x7⟩
    have eb : isBusy l i = (l.take i).any (againstM e) := by unfold isBusy; rw [hge]
    rw [← eb]
    have x37 := x4.trans (x46.trans x7)
    refine xif_of (fun q2 => ?_) (fun q2 => ?_)
    · have : (List.range l.length).find? (isBusy l) = some i := List.find?_range_eq_some.2 ⟨q2, by rw [List.mem_range]; omega, fun j hj => by rw [hb j hj]; rfl⟩
      exact ⟨_, _, rfl, (fun O _ => by rw [if_neg q, this]), x03.trans x37⟩
    · exact ⟨i + 1, ⟨rfl, rfl, rfl, rfl, slot_inc (by omega), trivial⟩, ⟨⟨by omega, fun j hj => by
        by_cases e : j = i
        · subst e; exact q2
        · exact hb j (by omega)⟩, x37⟩, by show n - (i + 1) < n - i; omega⟩
  have hge : ¬ (i : Int) < n := of_decide_eq_false hge
  have hnone : (List.range l.length).find? (isBusy l) = none := List.find?_range_eq_none.2 fun j hj => by rw [hb j (by omega)]; rfl
  have hpb4 := (x2.trans (x3.trans x4)).blk hpb
  refine ⟨_, rfl, reads_all hpb4, ?_⟩
  refine (hReplay_spec (ora.ext x04) (orb.ext x04) hna hnb wf (x04.row hr) hl hn wo).mono ?_
  rintro v h5 ⟨m, D, F, O, bm, rfl, hO, _, _, _, x5⟩
  rw [hpl, hM0]
  refine xif_of (fun q2 => ?_) (fun q2 => ?_)
  · have q2 : (replayM p l M0 O).2 ≥ 0 := of_decide_eq_true q2
    exact ⟨_, _, rfl, (fun O' hO' => by rw [if_neg q, hnone, hO'.one hO]; simp only; rw [if_pos q2]), x04.trans x5⟩
  · have q2 : ¬ (replayM p l M0 O).2 ≥ 0 := of_decide_eq_false q2
    exact ⟨_, _, rfl, (fun O' hO' => by rw [if_neg q, hnone, hO'.one hO]; simp only; rw [if_neg q2]), x04.trans x5⟩
end
end Go.Proofs.YtcjoenkpibhmoaaGreatE
/- Histories: helpers of the laws, told. Conditions: the arguments are of their types, and not too many. -/
set_option linter.unusedVariables false
set_option linter.unusedSimpArgs false
set_option maxRecDepth 100000
namespace Go.Proofs.YtcjoenkpibhmoaaGreatE
open Go Go.Proofs
section
variable {h : Heap}
theorem heInfo : (Tryz.prog.info? 116).map (fun i => (i.size, i.bytes)) = some (19, 144) := by kernel_rfl
theorem heZero : xzero Tryz.prog 116 = some (encHe he0) := by kernel_rfl
set_option maxHeartbeats 1000000 in
theorem l18To_spec {A : Option Addr} {n c : Nat} {l : List He} (hr : Row encHe 19 h A l) (hl : l.length = n) (hn : n ≤ 2000) : HCalls Tryz.prog 13 #[.slice A n c] h (fun v h' => ∃ A' c', v = .slice A' n c' ∧ OwnA encHe 19 116 h.size h' A' c' l ∧ Ext h h') := by
  subst hl
  refine xcalls env_l18To Tryz.func13 rfl (by kernel_rfl) rfl (by kernel_rfl) ?_
  refine ⟨Nat × Option Addr × Nat, fun z => [(0, .slice A l.length c), (3, .slice z.2.1 z.1 z.2.2), (4, .int .i64 z.1)],
    fun z h' => z.1 ≤ l.length ∧ OwnA encHe 19 116 h.size h' z.2.1 z.2.2 (l.take z.1) ∧ Ext h h', fun z => l.length - z.1, (0, none, 0), ⟨rfl, rfl, rfl, trivial⟩, ⟨Nat.zero_le _, .inl ⟨rfl, rfl, rfl⟩, Ext.refl _⟩, ?_⟩
  rintro ⟨i, B, d⟩ h2 ⟨hi, own2, x2⟩
  simp only at hi own2
  refine xif_of (fun hlt => ?_) (fun hge => ?_)
  rotate_left
  · have hge : ¬ (i : Int) < l.length := of_decide_eq_false hge
    obtain rfl : i = l.length := by omega
    rw [List.take_length] at own2
    exact ⟨B, d, rfl, own2, x2⟩
  have hlt : (i : Int) < l.length := of_decide_eq_true hlt
  obtain ⟨e, he⟩ : ∃ e, l[i]? = some e := ⟨l[i]'(by omega), List.getElem?_eq_getElem (by omega)⟩
  obtain ⟨a, hA, hrd⟩ := (x2.row hr) i e he
  refine ⟨a, hA, by omega, hlt, encHe e, rfl, hrd, ?_⟩
  intro eb h3 n3
  refine ⟨rfl, rfl, canset_blk n3.this rfl, fun h4 s4 => ?_⟩
  have heb : h4[eb]? = some (.cells (encHe e).toArray 107 (0, 0)) := n3.fill rfl s4
  have x24 : Ext h2 h4 := n3.ext.stored s4 (n3.ge (Ext.refl _))
  refine ⟨_, cell_blk heb rfl, _, cell_blk heb rfl, _, cell_blk heb rfl, _, cell_blk heb rfl, encO17 e.op, rfl, reads_at heb rfl, _, cell_blk heb rfl, ?_⟩
  refine (l17Op_spec e.op).mono ?_
  rintro v h5 ⟨rfl, x5⟩
  have b5 := x5.blk heb
  refine ⟨⟨cell_blk b5 rfl, cell_blk b5 rfl, cell_blk b5 rfl, cell_blk b5 rfl, cell_blk b5 rfl, trivial⟩, ?_⟩
  intro bs h6 n6
  have hl2 : (l.take i).length = i := by rw [List.length_take]; omega
  have x25 := x24.trans x5
  refine xappend_one (x := e) heInfo heZero rfl (by decide) encHe_len encHe_one (own2.ext x25) n6 hl2 (by show (i + 1) * 144 ≤ _; omega) (x2.trans x25).size fun B' d' h7 o7 k7 => ?_
  rw [take_next he] at o7
  exact ⟨(i + 1, B', d'), ⟨rfl, rfl, slot_inc (by omega), trivial⟩, ⟨by show i + 1 ≤ l.length; omega, o7, k7.ext (x2.trans x25) fun b hb => own2.ge b hb⟩, by show l.length - (i + 1) < l.length - i; omega⟩
def toldE (a : Int) : He := ⟨0, 0, 1, 2, opZ 8 0 0 0 4, a⟩
def toldP18 : Pl := fixPl 0 ⟨0, 0, 0⟩ 0 0 0 0
def toldM18 : Md := newM toldP18 (fixVlans 0 [])
theorem told18_1 : checkH toldP18 [toldE 1] toldM18 [0] = (-1, 0) := by decide +kernel
theorem told18_2 : checkH toldP18 [toldE 2] toldM18 [0] = (0, 7) := by decide +kernel
theorem told18_ord (a : Int) : IsOrd [toldE a] 1 [0] := by
  refine ⟨?_, List.pairwise_singleton _ _⟩
  have : plcN [toldE a] 1 = [0] := rfl
  rw [this]
set_option maxHeartbeats 1000000 in
end
end Go.Proofs.YtcjoenkpibhmoaaGreatE
