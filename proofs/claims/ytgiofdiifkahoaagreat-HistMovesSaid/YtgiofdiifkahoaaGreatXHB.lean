/- What the law HistAlone answers: yes. Conditions: the arguments are of their types. -/
import Derived.Test.YtgiofdiifkahoaaGreatXHA
set_option linter.unusedVariables false
set_option linter.unusedSimpArgs false
set_option maxRecDepth 100000
namespace Go.Proofs.YtgiofdiifkahoaaGreatE
open Go Go.Proofs
def env_l18Alone : Nat → Ann
  | 6 => ⟨.op 0 [] <| .op 1 [] <| .op 2 [] <| .op 3 [] <| .op 4 [] <| .op 5 [] <| .op 6 [] <| .op 7 [] <| .op 8 [] <| .op 9 [] <| .op 10 [] <| .op 11 [] <| .op 12 [] <| .op 13 [] <| .op 14 [] <| .op 15 [] <| .op 16 [] <| .op 17 [] <| .op 18 [12] <| .op 19 [] <| .op 20 [] <| .op 21 [] <| .op 22 [] <| .nil, [0, 0, 2, 0, 8, 24, 0, 64, 192, 0, 0, 1536, 3584, 0, 0, 0, 49152, 114688, 253952, 524286, 1048574, 2097151, 4194303], false⟩
  | _ => ⟨.nil, [], false⟩
/-! ### Histories whose times go up -/
/-- The model behind entries, one behind the other, and the first that isn't answered so. -/
def rp (p : Pl) : List He → Nat → Md × Int → Md × Int
  | [], _, z => z
  | e :: l, i, z => rp p l (i + 1) ((do17 p z.1 e.op).1, if z.2 = -1 ∧ 0 < e.fin ∧ (do17 p z.1 e.op).2 ≠ e.ans then (i : Int) else z.2)
theorem rp_app (p : Pl) : ∀ (l k : List He) (i : Nat) (z : Md × Int), rp p (l ++ k) i z = rp p k (i + l.length) (rp p l i z)
  | [], k, i, z => rfl
  | e :: l, k, i, z => by
    rw [List.cons_append, rp, rp_app p l k (i + 1), rp, List.length_cons, show i + 1 + l.length = i + (l.length + 1) by omega]
def places (n : Nat) : List Int := (List.range n).map fun i : Nat => (i : Int)
theorem places_succ (n : Nat) : places (n + 1) = places n ++ [(n : Int)] := by unfold places; rw [List.range_succ, List.map_append]; rfl
structure Up (l : List He) : Prop where
  pos : ∀ e ∈ l, 0 < e.mark
  up : l.Pairwise fun a b => a.mark < b.mark
theorem up_plc {l : List He} (U : Up l) : ∀ n, n ≤ l.length → plcN l n = places n
  | 0, _ => rfl
  | n + 1, h => by
    have he : l[n]? = some (l[n]'(by omega)) := List.getElem?_eq_getElem (by omega)
    rw [plcN, up_plc U n (by omega), mkI_at he, if_pos (U.pos _ (List.getElem_mem _)), places_succ]
theorem up_ord {l : List He} (U : Up l) : IsOrd l l.length (places l.length) := by
  refine ⟨by rw [up_plc U _ (Nat.le_refl _)], ?_⟩
  unfold places
  refine List.pairwise_map.2 ?_
  refine List.Pairwise.imp_of_mem ?_ List.pairwise_lt_range
  intro i j hi hj hij
  rw [List.mem_range] at hi hj
  refine Lx.of_lt ?_
  unfold ltM
  rw [mkI_at (List.getElem?_eq_getElem hi), mkI_at (List.getElem?_eq_getElem hj)]
  exact List.pairwise_iff_getElem.1 U.up i j hi hj hij
theorem up_replay (p : Pl) (l : List He) (M : Md) : ∀ n, n ≤ l.length → (places n).foldl (stepR p l) (M, -1) = rp p (l.take n) 0 (M, -1)
  | 0, _ => rfl
  | n + 1, h => by
    have he : l[n]? = some (l[n]'(by omega)) := List.getElem?_eq_getElem (by omega)
    rw [places_succ, List.foldl_append, up_replay p l M n (by omega), ← take_next he, rp_app, List.length_take, Nat.zero_add, Nat.min_eq_left (by omega)]
    have hg : l.getD (n : Int).toNat he0 = l[n]'(by omega) := by rw [Int.toNat_natCast, List.getD_eq_getElem?_getD, he]; rfl
    show stepR p l _ (n : Int) = _
    unfold stepR
    rw [hg]
    rfl
/-- What is told of a history whose times go up, and which may be. -/
theorem up_check {p : Pl} {l : List He} {M : Md} (U : Up l) (ht : ∀ e ∈ l, timelyM e = true) (hb : ∀ (i j : Nat) e a, j < i → l[i]? = some e → l[j]? = some a → againstM e a = false) :
    checkH p l M (places l.length) = (if 0 ≤ (rp p l 0 (M, -1)).2 then ((rp p l 0 (M, -1)).2, (7 : Int)) else ((-1 : Int), (0 : Int))) := by
  have h1 : idxP (fun e => !timelyM e) l 0 = -1 := idxP_none.2 (by rw [List.any_eq_false]; intro e he; rw [ht e he]; decide)
  have h2 : (List.range l.length).find? (isBusy l) = none := List.find?_range_eq_none.2 fun j hj => by
    have he : l[j]? = some (l[j]'hj) := List.getElem?_eq_getElem hj
    have hg : l.getD j he0 = l[j]'hj := by rw [List.getD_eq_getElem?_getD, he]; rfl
    unfold isBusy
    rw [hg]
    have : (l.take j).any (againstM (l[j]'hj)) = false := by
      rw [List.any_eq_false]
      intro a ha
      obtain ⟨k, hk⟩ := List.getElem?_of_mem ha
      have hkl := (List.getElem?_eq_some_iff.1 hk).1
      rw [List.length_take] at hkl
      rw [List.getElem?_take, if_pos (by omega)] at hk
      rw [hb j k _ a (by omega) he hk]; decide
    rw [this]; rfl
  have h3 : replayM p l M (places l.length) = rp p l 0 (M, -1) := by
    unfold replayM
    rw [up_replay p l M _ (Nat.le_refl _), List.take_length]
  unfold checkH
  rw [h1, h2, h3, if_neg (by decide)]
/-! ### What one does alone -/
def mdN (p : Pl) (ops : List Op17) (M : Md) : Nat → Md
  | 0 => M
  | n + 1 => (do17 p (mdN p ops M n) (ops.getD n op0)).1
def ansN (p : Pl) (ops : List Op17) (M : Md) (i : Nat) : Int := (do17 p (mdN p ops M i) (ops.getD i op0)).2
def anE (ops : List Op17) (av : Nat → Int) (i : Nat) : He := ⟨3, 3 * i, 3 * i + 2, 3 * i + 3, ops.getD i op0, av i⟩
def aloneN (ops : List Op17) (av : Nat → Int) (n : Nat) : List He := (List.range n).map (anE ops av)
theorem aloneN_succ (ops : List Op17) (av : Nat → Int) (n : Nat) : aloneN ops av (n + 1) = aloneN ops av n ++ [anE ops av n] := by unfold aloneN; rw [List.range_succ, List.map_append]; rfl
theorem aloneN_len (ops : List Op17) (av : Nat → Int) (n : Nat) : (aloneN ops av n).length = n := by unfold aloneN; rw [List.length_map, List.length_range]
theorem aloneN_at {ops : List Op17} {av : Nat → Int} {n i : Nat} {e : He} (h : (aloneN ops av n)[i]? = some e) : i < n ∧ e = anE ops av i := by
  have hl := (List.getElem?_eq_some_iff.1 h).1
  rw [aloneN_len] at hl
  unfold aloneN at h
  rw [List.getElem?_map, List.getElem?_range hl] at h
  exact ⟨hl, by cases h; rfl⟩
theorem aloneN_get {ops : List Op17} {av : Nat → Int} {n i : Nat} (h : i < n) : (aloneN ops av n)[i]? = some (anE ops av i) := by
  unfold aloneN
  rw [List.getElem?_map, List.getElem?_range h]; rfl
theorem aloneN_mem {ops : List Op17} {av : Nat → Int} {n : Nat} {e : He} (h : e ∈ aloneN ops av n) : ∃ i, i < n ∧ e = anE ops av i := by
  obtain ⟨i, hi⟩ := List.getElem?_of_mem h
  exact ⟨i, aloneN_at hi⟩
theorem alone_up (ops : List Op17) (av : Nat → Int) (n : Nat) : Up (aloneN ops av n) := by
  refine ⟨fun e he => ?_, ?_⟩
  · obtain ⟨i, _, rfl⟩ := aloneN_mem he
    show (0 : Int) < 3 * i + 2; omega
  · unfold aloneN
    refine List.pairwise_map.2 (List.pairwise_lt_range.imp ?_)
    intro i j hij
    show (3 * (i : Int) + 2) < 3 * j + 2; omega
theorem alone_timely (ops : List Op17) (av : Nat → Int) (n : Nat) : ∀ e ∈ aloneN ops av n, timelyM e = true := by
  intro e he
  obtain ⟨i, _, rfl⟩ := aloneN_mem he
  unfold timelyM anE
  rw [decide_eq_false (show ¬ ((3 * (i : Int)) < 0 ∨ (3 * (i : Int) + 2) < 0 ∨ (3 * (i : Int) + 3) < 0) by omega), decide_eq_false (show ¬ (0 < 3 * (i : Int) + 2 ∧ 3 * (i : Int) + 2 ≤ 3 * (i : Int)) by omega), decide_eq_false (show ¬ (0 < 3 * (i : Int) + 3 ∧ (3 * (i : Int) + 2 = 0 ∨ 3 * (i : Int) + 3 < 3 * (i : Int) + 2)) by omega)]
  rfl
theorem alone_apart (ops : List Op17) (av : Nat → Int) (i j : Nat) (h : j < i) : againstM (anE ops av i) (anE ops av j) = false := by
  unfold againstM anE
  rw [decide_eq_false (show ¬ (0 < 3 * (i : Int) + 2 ∧ 3 * (i : Int) + 2 = 3 * (j : Int) + 2) by omega), decide_eq_false (show ¬ ((3 : Int) = 3 ∧ (3 * (j : Int) + 3 = 0 ∨ 3 * (i : Int) < 3 * (j : Int) + 3)) by omega)]
  rfl
def wv (w : Option Nat) (m : Nat) : Int := match w with
  | some k => if k < m then (k : Int) else -1
  | none => -1
theorem alone_rp {p : Pl} {ops : List Op17} {M : Md} {av : Nat → Int} {w : Option Nat} {n : Nat} (hw : ∀ i, i < n → (av i ≠ ansN p ops M i ↔ w = some i)) : ∀ m, m ≤ n →
    rp p (aloneN ops av m) 0 (M, -1) = (mdN p ops M m, wv w m)
  | 0, _ => by
    have : wv w 0 = -1 := by cases w <;> rfl
    rw [this]; rfl
  | m + 1, h => by
    rw [aloneN_succ, rp_app, alone_rp hw m (by omega), aloneN_len, Nat.zero_add]
    have hm := hw m (by omega)
    unfold rp
    show rp p [] _ _ = _
    unfold rp
    have hfin : (0 : Int) < (anE ops av m).fin := by show (0 : Int) < 3 * m + 3; omega
    have hdo : do17 p (mdN p ops M m) (anE ops av m).op = do17 p (mdN p ops M m) (ops.getD m op0) := rfl
    rw [hdo]
    refine Prod.ext rfl ?_
    show (if wv w m = -1 ∧ 0 < (anE ops av m).fin ∧ ansN p ops M m ≠ av m then (m : Int) else wv w m) = wv w (m + 1)
    unfold wv
    cases w with
    | none =>
      have : av m = ansN p ops M m := Decidable.byContradiction fun q => by have := hm.1 q; cases this
      rw [if_neg (fun q => q.2.2 this.symm)]
    | some k =>
      simp only
      by_cases hk : k < m
      · rw [if_pos hk, if_neg (fun q => by omega), if_pos (by omega)]
      · rw [if_neg hk]
        by_cases e : k = m
        · subst e
          have := hm.2 rfl
          rw [if_pos ⟨rfl, hfin, fun q => this q.symm⟩, if_pos (by omega)]
        · have : av m = ansN p ops M m := Decidable.byContradiction fun q => by have := hm.1 q; cases this; exact e rfl
          rw [if_neg (fun q => q.2.2 this.symm), if_neg (by omega)]
theorem alone_check {p : Pl} {ops : List Op17} {M : Md} {av : Nat → Int} {w : Option Nat} {n : Nat} (hw : ∀ i, i < n → (av i ≠ ansN p ops M i ↔ w = some i)) (hwn : ∀ k, w = some k → k < n) :
    checkH p (aloneN ops av n) M (places n) = (match w with | some k => ((k : Int), (7 : Int)) | none => ((-1 : Int), (0 : Int))) := by
  have h := up_check (p := p) (M := M) (alone_up ops av n) (alone_timely ops av n) (fun i j e a hij he ha => by
    obtain ⟨_, rfl⟩ := aloneN_at he
    obtain ⟨_, rfl⟩ := aloneN_at ha
    exact alone_apart ops av i j hij)
  rw [aloneN_len] at h
  rw [h, alone_rp hw n (Nat.le_refl _)]
  unfold wv
  cases w with
  | none => rfl
  | some k =>
    have := hwn k rfl
    simp only [if_pos this]
    rw [if_pos (by omega)]
theorem mdN_nice {p : Pl} (po : p.Ok) {ops : List Op17} {M : Md} (N : Nice p M) (wo : ∀ o ∈ ops, o.Wf) : ∀ n, n ≤ ops.length → Nice p (mdN p ops M n)
  | 0, _ => N
  | n + 1, h => by
    have hx : ops[n]? = some (ops[n]'(by omega)) := List.getElem?_eq_getElem (by omega)
    have hg : ops.getD n op0 = ops[n]'(by omega) := by rw [List.getD_eq_getElem?_getD, hx]; rfl
    rw [mdN, hg]
    exact nice_do po (mdN_nice po N wo n (by omega)) (wo _ (List.getElem_mem _))
section
variable {bw : Nat} {G : Nat → Prop} {h h' : Heap} {w : Nat} {D' : Dat} {p : Pl} {M : Md}
/-- The document's model beside a list of entries that grows. -/
theorem MdR.keepO (W : MdR bw G h w D' p M) {A : Option Addr} {c base : Nat} {L : List He} (own : OwnA encHe 19 81 base h A c L) (k : KeepA A h h') : MdR bw G h' w D' p M := by
  have off : ∀ T : TypeId, (81 : TypeId) ≠ T → Off (fun j => A = some ⟨j, 0, none⟩) h T := by
    intro T hT j c' e g hj hc
    rw [hj] at own
    obtain ⟨cx, hx⟩ := own_blk own
    rw [ty_eq hc hx]
    exact hT
  refine W.fr (k.fr' fun _ e => e) (off _ (by decide)) (off _ (by decide)) (off _ (by decide)) (off _ (by decide)) (off _ (by decide)) (off _ (by decide)) (off _ (by decide)) (off _ (by decide)) fun b hb hk => ?_
  obtain ⟨cx, g, hx⟩ := W.tyG b hb
  exact (off 3 (by decide)).not hx hk
theorem MdR.offO (W : MdR bw G h w D' p M) : Off (D'.Z p) h 81 := W.off (by decide) (by decide) (by decide) (by decide)
end
section
variable {h : Heap}
set_option maxHeartbeats 1000000 in
theorem l18Alone_spec {A B O : Option Addr} {na ca nb cb no co : Nat} {rules : List Ru} {vls : List Vl} {P tries ring normal short : Int} {s : Sz} {ops : List Op17}
    (hra : Row encRu 2 h A (fixRules P rules)) (hrb : Row encVl 3 h B (fixVlans P vls)) (hna : (fixRules P rules).length = na) (hnb : (fixVlans P vls).length = nb) (wf : ∀ v ∈ vls, SetWf v.mem ∧ SetWf v.unt)
    (hro : Row encO17 14 h O ops) (hlo : ops.length = no) (wo : ∀ o ∈ ops, o.Wf) :
    HCalls Tryz.prog 31 #[.agg (planV (fixPorts P) (.slice A na ca) (.slice B nb cb) (fixSz s) (fixTries tries) (fixRing ring) normal short).toArray, .slice O no co] h
      (fun v h' => ∃ A' c', v = .slice A' (min no 60) c' ∧ OwnA encHe 19 81 h.size h' A' c' (aloneN ops (ansN (fixPl P s tries ring normal short) ops (newM (fixPl P s tries ring normal short) (fixVlans P vls))) (min no 60)) ∧ Ext h h') := by
  refine xcalls env_l18Alone Tryz.func31 rfl (by kernel_rfl) rfl (by kernel_rfl) ?_
  intro pb h1 n1
  have hpb := n1.this
  have x1 := n1.ext
  have hpr := fixPorts_range P
  have hvl := fixVlans_len P vls
  refine ⟨_, rfl, reads_all hpb, ?_⟩
  refine (rNew17_spec (x1.row hrb) hnb (by omega) (by omega) (fixSz_ok s)).mono ?_
  rintro v h2 ⟨m, D, rfl, H2, x2⟩
  have H2 : MdR h1.size (fun _ => False) h2 m D (fixPl P s tries ring normal short) (newM (fixPl P s tries ring normal short) (fixVlans P vls)) := H2
  have po := fixPl_ok P s tries ring normal short
  have N2 := fixVlans_nice (P := P) (tries := tries) (ring := ring) (normal := normal) (short := short) (s := s) wf
  obtain ⟨p, hp⟩ : ∃ p, fixPl P s tries ring normal short = p := ⟨_, rfl⟩
  rw [hp] at H2 po N2 ⊢
  obtain ⟨M0, hM0⟩ : ∃ M0, newM p (fixVlans P vls) = M0 := ⟨_, rfl⟩
  rw [hM0] at H2 N2 ⊢
  obtain ⟨av, hav⟩ : ∃ av, ansN p ops M0 = av := ⟨_, rfl⟩
  rw [hav]
  refine ⟨Nat × (Nat → Prop) × Option Addr × Nat, fun z => [(1, .slice O no co), (5, .pointer (some ⟨m, 0, none⟩)), (6, .slice z.2.2.1 z.1 z.2.2.2), (7, .int .i64 z.1)],
    fun z h' => z.1 ≤ min no 60 ∧ (MdR h1.size z.2.1 h' m D p (mdN p ops M0 z.1) ∧ OwnA encHe 19 81 h2.size h' z.2.2.1 z.2.2.2 (aloneN ops av z.1)) ∧ h2.size ≤ h'.size ∧ Ext h1 h', fun z => no - z.1, (0, fun _ => False, none, 0),
    ⟨rfl, rfl, rfl, rfl, trivial⟩, ⟨Nat.zero_le _, ⟨H2, .inl ⟨rfl, rfl, rfl⟩⟩, Nat.le_refl _, x2⟩, ?_⟩
  rintro ⟨i, G, B', d⟩ h4 ⟨hi, ⟨H4, o4⟩, z4, x4⟩
  simp only at hi H4 o4
  have fin : min no 60 = i → ∃ A' c', (Value.slice B' i d) = .slice A' (min no 60) c' ∧ OwnA encHe 19 81 h.size h4 A' c' (aloneN ops av (min no 60)) ∧ Ext h h4 := fun e => by rw [e]; exact ⟨B', d, rfl, o4.mono (x1.trans x2).size, x1.trans x4⟩
  refine xif_of (fun hlt => ?_) (fun hge => ?_)
  rotate_left
  · have hge : ¬ (i : Int) < no := of_decide_eq_false hge
    exact fin (by omega)
  have hlt : (i : Int) < no := of_decide_eq_true hlt
  refine xif_of (fun hlt2 => ?_) (fun hge => ?_)
  rotate_left
  · have hge : ¬ (i : Int) < 60 := of_decide_eq_false hge
    exact fin (by omega)
  have hlt2 : (i : Int) < 60 := of_decide_eq_true hlt2
  obtain ⟨y, hy⟩ : ∃ y, ops[i]? = some y := ⟨ops[i]'(by omega), List.getElem?_eq_getElem (by omega)⟩
  have wy := wo y (List.mem_of_getElem? hy)
  have hyg : ops.getD i op0 = y := by rw [List.getD_eq_getElem?_getD, hy]; rfl
  obtain ⟨ya, hO, hrd⟩ := ((x1.trans x4).row hro) i y hy
  refine ⟨ya, hO, (by show (0 : Int) ≤ i; omega), hlt, encO17 y, rfl, hrd, ya, hO, (by show (0 : Int) ≤ i; omega), hlt, encO17 y, rfl, hrd, ?_⟩
  have NN := mdN_nice po N2 wo i (by omega)
  refine (rDo17_spec po NN.ok (by have := NN.few; omega) H4 wy).mono ?_
  rintro v h5 ⟨rfl, d5⟩
  have x5 := d5.ext9 H4 x4 (Nat.le_refl _)
  have offo := MdR.offO H4
  obtain ⟨G', _, H5, f5⟩ := d5
  have o5 := o4.frT f5 offo
  obtain ⟨ya', hO', hrd'⟩ := ((x1.trans x5).row hro) i y hy
  rw [hO] at hO'
  cases hO'
  refine ⟨⟨hrd', trivial⟩, ?_⟩
  intro bs h6 n6
  have e0 : IntKind.i64.wrap (3 * (i : Int)) = 3 * i := wrap_i64 (by omega) (by omega)
  have e2 : IntKind.i64.wrap (3 * (i : Int) + 2) = 3 * i + 2 := wrap_i64 (by omega) (by omega)
  have e3 : IntKind.i64.wrap (3 * (i : Int) + 3) = 3 * i + 3 := wrap_i64 (by omega) (by omega)
  have ea : av i = (do17 p (mdN p ops M0 i) y).2 := by rw [← hav]; unfold ansN; rw [hyg]
  have en : encHe ⟨3, IntKind.i64.wrap (3 * (i : Int)), IntKind.i64.wrap (IntKind.i64.wrap (3 * (i : Int)) + 2), IntKind.i64.wrap (IntKind.i64.wrap (3 * (i : Int)) + 3), y, (do17 p (mdN p ops M0 i) y).2⟩ = encHe (anE ops av i) := by
    rw [e0, e2, e3]
    unfold anE
    rw [hyg, ea]
  have n6 : New h5 h6 bs (.cells (encHe ⟨3, IntKind.i64.wrap (3 * (i : Int)), IntKind.i64.wrap (IntKind.i64.wrap (3 * (i : Int)) + 2), IntKind.i64.wrap (IntKind.i64.wrap (3 * (i : Int)) + 3), y, (do17 p (mdN p ops M0 i) y).2⟩).toArray 81) := n6
  rw [en] at n6
  have hl2 : (aloneN ops av i).length = i := aloneN_len _ _ _
  have x25 : Ext h2 h2 := Ext.refl _
  refine xappend_one (x := anE ops av i) heInfoR heZeroR rfl (by decide) encHe_len encHe_one o5 n6 hl2 (by show (i + 1) * 144 ≤ _; omega) (Nat.le_trans z4 f5.size) fun B2 d2 h7 o7 k7 => ?_
  rw [← aloneN_succ] at o7
  have H7 := MdR.keepO H5 o5 k7
  have hmd : mdN p ops M0 (i + 1) = (do17 p (mdN p ops M0 i) y).1 := by rw [mdN, hyg]
  exact ⟨(i + 1, G', B2, d2), ⟨rfl, rfl, rfl, slot_inc (by omega), trivial⟩, ⟨by show i + 1 ≤ min no 60; omega, ⟨by show MdR h1.size G' h7 m D p (mdN p ops M0 (i + 1)); rw [hmd]; exact H7, o7⟩, Nat.le_trans z4 (Nat.le_trans f5.size k7.size), k7.ext x5 fun b hb => Nat.le_trans x2.size (o5.ge b hb)⟩, by show no - (i + 1) < no - i; omega⟩
theorem aloneN_wf {ops : List Op17} (wo : ∀ o ∈ ops, o.Wf) {av : Nat → Int} {n : Nat} (hn : n ≤ ops.length) : ∀ e ∈ aloneN ops av n, e.op.Wf := by
  intro e he
  obtain ⟨i, hi, rfl⟩ := aloneN_mem he
  have hx : ops[i]? = some (ops[i]'(by omega)) := List.getElem?_eq_getElem (by omega)
  show (ops.getD i op0).Wf
  rw [List.getD_eq_getElem?_getD, hx]
  exact wo _ (List.getElem_mem _)
theorem alone_set {ops : List Op17} {av : Nat → Int} {n k : Nat} (a : Int) (hk : k < n) : (aloneN ops av n).set k { anE ops av k with ans := a } = aloneN ops (fun i => if i = k then a else av i) n := by
  apply List.ext_getElem?
  intro i
  by_cases h : i < n
  · rw [aloneN_get h]
    by_cases e : i = k
    · subst e
      rw [List.getElem?_set_self (by rw [aloneN_len]; exact h)]
      unfold anE
      simp
    · rw [List.getElem?_set_ne (fun q => e q.symm), aloneN_get h]
      unfold anE
      simp [e]
  · rw [List.getElem?_eq_none (by rw [List.length_set, aloneN_len]; omega), List.getElem?_eq_none (by rw [aloneN_len]; omega)]
theorem modn_pos (x : Int) (N : Nat) (h1 : 1 ≤ N) (h2 : N ≤ 64) : IntKind.i64.wrap ((IntKind.u64.wrap x).tmod (IntKind.u64.wrap N)) = ((x % 18446744073709551616 % N).toNat : Nat) := by
  rw [modp_eq x N (by omega) (by omega)]
  have : 0 ≤ x % 18446744073709551616 % (N : Int) := Int.emod_nonneg _ (by omega)
  omega
theorem wrap_next (x : Int) : IntKind.i64.wrap (x + 1) ≠ x := by
  rw [IntKind.wrap_i64]; omega
set_option maxHeartbeats 1000000 in
theorem lHAlone_spec {A B O : Option Addr} {na ca nb cb no co : Nat} {rules : List Ru} {vls : List Vl} {ops : List Op17} {P tries ring normal short which : Int} {s : Sz}
    (hra : Row encRu 2 h A rules) (hla : rules.length = na) (hrb : Row encVl 3 h B vls) (hlb : vls.length = nb) (hro : Row encO17 14 h O ops) (hlo : ops.length = no)
    (wf : ∀ v ∈ vls, SetWf v.mem ∧ SetWf v.unt) (wo : ∀ o ∈ ops, o.Wf) :
    HCalls Tryz.prog 6 #[.agg (planV P (.slice A na ca) (.slice B nb cb) s tries ring normal short).toArray, .slice O no co, .int .i64 which] h (fun v h' => v = .bool true ∧ Ext h h') := by
  refine xcalls env0 Tryz.func6 rfl (by kernel_rfl) rfl (by kernel_rfl) ?_
  intro pb h2 n1
  have hpb2 := n1.this
  have x02 := n1.ext
  refine ⟨_, rfl, reads_all hpb2, ?_⟩
  refine (rPFix_spec (x02.row hra) hla (x02.row hrb) hlb wf).mono ?_
  rintro v h3 ⟨A3, c3, B3, d3, rfl, oR3, oV3, x3⟩
  have hrl : (fixRules P rules).length = (fixPorts P).toNat := by unfold fixRules; simp
  have pr := fixPorts_range P
  have vl8 := fixVlans_len P vls
  have oR3 : OwnA encRu 2 _ h2.size h3 A3 c3 (fixRules P rules) := oR3
  have oV3 : OwnA encVl 3 _ h2.size h3 B3 d3 (fixVlans P vls) := oV3
  have hpb3 := x3.blk hpb2
  refine ⟨rfl, rfl, canset_blk hpb3 rfl, fun h4 s4 => ?_⟩
  have hpb : h4[pb]? = some (.cells (planV (fixPorts P) (.slice A3 (fixPorts P).toNat c3) (.slice B3 (fixVlans P vls).length d3) (fixSz s) (fixTries tries) (fixRing ring) normal short).toArray 28 (0, 0)) := s4.put hpb3
  have x04 : Ext h h4 := (x02.trans x3).stored s4 (n1.ge (Ext.refl _))
  have pb2 : pb < h2.size := blk_lt hpb2
  have oR4 := oR3.other s4 fun b hb => by have := oR3.ge b hb; intro e; subst e; omega
  have oV4 := oV3.other s4 fun b hb => by have := oV3.ge b hb; intro e; subst e; omega
  have po := fixPl_ok P s tries ring normal short
  refine ⟨_, rfl, reads_all hpb, ?_⟩
  refine (l18Alone_spec (oR4.row encRu_len) (oV4.row encVl_len) hrl rfl wf (x04.row hro) hlo wo).mono ?_
  rintro v h5 ⟨A5, c5, rfl, o5, x5⟩
  obtain ⟨p, hp⟩ : ∃ p, fixPl P s tries ring normal short = p := ⟨_, rfl⟩
  obtain ⟨M0, hM0⟩ : ∃ M0, newM p (fixVlans P vls) = M0 := ⟨_, rfl⟩
  obtain ⟨av, hav⟩ : ∃ av, ansN p ops M0 = av := ⟨_, rfl⟩
  rw [hp, hM0, hav] at o5
  obtain ⟨n, hn⟩ : ∃ n, min no 60 = n := ⟨_, rfl⟩
  rw [hn] at o5 ⊢
  have hnl := aloneN_len ops av n
  refine (l18To_spec (o5.row encHe_len) hnl (by omega)).mono ?_
  rintro v h6 ⟨A6, c6, rfl, o6, x6⟩
  have x46 := x5.trans x6
  have hpb6 := x46.blk hpb
  refine ⟨_, rfl, reads_all hpb6, ?_⟩
  refine (l17To_spec ((oR4.ext x46).row encRu_len) hrl ((oV4.ext x46).row encVl_len) rfl (by omega) (by omega)).mono ?_
  rintro v h7 ⟨A7, c7, B7, d7, rfl, oR7, oV7, x7⟩
  have o7 := o6.ext x7
  have hc6 : n ≤ c6 := by have := o6.le; omega
  refine (hCheck_spec oR7 oV7 hrl rfl wf (o7.row encHe_len) hnl (by omega) hc6 (aloneN_wf wo (by omega))).mono ?_
  rintro v h8 ⟨i8, e8, rfl, k8, x8⟩
  have ord : ∀ a : Nat → Int, IsOrd (aloneN ops a n) n (places n) := fun a => by
    have := up_ord (alone_up ops a n)
    rwa [aloneN_len] at this
  have k8 := k8 (places n) (ord av)
  rw [hp, hM0, alone_check (w := none) (fun i hi => by rw [hav]; simp) (fun k e => by cases e)] at k8
  cases k8
  refine told18_spec.mono ?_
  rintro v h9 ⟨rfl, x9⟩
  have x69 := x7.trans (x8.trans x9)
  have o9 := o6.ext x69
  refine xif_of (fun q => ?_) (fun q => ?_)
  · exact ⟨rfl, x04.trans (x46.trans x69)⟩
  have hn0 : 1 ≤ n := by
    have q : ((n : Int) == 0) = false := q
    simp at q; omega
  have ek := modn_pos which n hn0 (by omega)
  obtain ⟨k, hk⟩ : ∃ k, (which % 18446744073709551616 % n).toNat = k := ⟨_, rfl⟩
  have hkn : k < n := by
    have h1 : 0 ≤ which % 18446744073709551616 % (n : Int) := Int.emod_nonneg _ (by omega)
    have h2 : which % 18446744073709551616 % (n : Int) < n := Int.emod_lt_of_pos _ (by omega)
    omega
  rw [hk] at ek
  obtain ⟨a9, hA9, rd9⟩ := (o9.row encHe_len) k _ (aloneN_get (ops := ops) (av := av) hkn)
  obtain ⟨b9, hB9, hg9, cs9⟩ := o9.canset encHe_len (i := k) (j := 18) (n := 1) (by rw [hnl]; exact hkn) (by omega)
  have nz : IntKind.u64.wrap (n : Int) ≠ 0 := by rw [wrap_u64 (by omega) (by omega)]; omega
  have i0 : (0 : Int) ≤ IntKind.i64.wrap ((IntKind.u64.wrap which).tmod (IntKind.u64.wrap (n : Int))) := by rw [ek]; omega
  have i1 : IntKind.i64.wrap ((IntKind.u64.wrap which).tmod (IntKind.u64.wrap (n : Int))) < n := by rw [ek]; omega
  have rdk : cell h9 ((a9.add ((IntKind.i64.wrap ((IntKind.u64.wrap which).tmod (IntKind.u64.wrap (n : Int)))).toNat * 19)).add 18) = some (.int .i64 (av k)) := by rw [ek, Int.toNat_natCast]; exact rd9.get 18 rfl
  have csk : CanSet h9 (((⟨b9, 0, none⟩ : Addr).add ((IntKind.i64.wrap ((IntKind.u64.wrap which).tmod (IntKind.u64.wrap (n : Int)))).toNat * 19)).add 18) 1 := by rw [ek, add_lit, add_lit, Int.toNat_natCast, Nat.zero_add]; exact cs9
  refine ⟨nz, a9, hA9, i0, i1, _, rdk, _, hB9, i0, i1, rfl, rfl, csk, fun h10 s10 => ?_⟩
  have s10' : Stored h9 (((⟨b9, 0, none⟩ : Addr).add ((IntKind.i64.wrap ((IntKind.u64.wrap which).tmod (IntKind.u64.wrap (n : Int)))).toNat * 19)).add 18) [.int .i64 (IntKind.i64.wrap (av k + 1))] h10 := s10
  rw [ek, add_lit, add_lit, Int.toNat_natCast, Nat.zero_add] at s10'
  have o10 := o9.put (j := 18) (vs := [.int .i64 (IntKind.i64.wrap (av k + 1))]) encHe_len (x' := { anE ops av k with ans := IntKind.i64.wrap (av k + 1) }) hB9 s10' (aloneN_get hkn) (Nat.le_refl 19) rfl
  rw [alone_set _ hkn] at o10
  have x410 : Ext h4 h10 := (x46.trans x69).stored s10' (Nat.le_trans x5.size hg9)
  have hpb10 := x410.blk hpb
  refine ⟨_, rfl, reads_all hpb10, ?_⟩
  refine (l17To_spec ((oR4.ext x410).row encRu_len) hrl ((oV4.ext x410).row encVl_len) rfl (by omega) (by omega)).mono ?_
  rintro v h11 ⟨A11, c11, B11, d11, rfl, oR11, oV11, x11⟩
  refine (hCheck_spec oR11 oV11 hrl rfl wf ((o10.ext x11).row encHe_len) (aloneN_len _ _ _) (by omega) hc6 (aloneN_wf wo (by omega))).mono ?_
  rintro v h12 ⟨i12, e12, rfl, k12, x12⟩
  have k12 := k12 (places n) (ord _)
  rw [hp, hM0, alone_check (w := some k) (fun i hi => by
    rw [hav]
    by_cases e : i = k
    · subst e; simp; exact wrap_next _
    · simp only [if_neg e]
      constructor
      · intro q; exact absurd rfl q
      · intro q; cases q; exact absurd rfl e) (fun k' e => by cases e; exact hkn)] at k12
  cases k12
  rw [ek]
  refine xif_of (fun _ => ?_) (fun q => absurd q (by simp))
  exact ⟨rfl, x04.trans (x410.trans (x11.trans x12))⟩
end
end Go.Proofs.YtgiofdiifkahoaaGreatE
