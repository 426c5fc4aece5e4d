/- What is wrong with a report first, by the program. Conditions: the report is one. -/
import Derived.Test.YtcjoenkpibhmoaaGreatXJ4
import Derived.Test.YtcjoenkpibhmoaaGreatXJ1
set_option linter.unusedVariables false
set_option linter.unusedSimpArgs false
set_option maxRecDepth 100000
namespace Go.Proofs.YtcjoenkpibhmoaaGreatE
open Go Go.Proofs
def env_aHistory : Nat → Ann
  | 4 => ⟨.op 0 [] <| .op 1 [] <| .op 2 [] <| .op 3 [] <| .op 4 [1] <| .op 5 [] <| .op 6 [] <| .op 7 [] <| .op 8 [] <| .op 9 [] <| .op 10 [] <| .nil, [0, 1, 0, 4, 12, 31, 63, 127, 127, 255, 1023], false⟩
  | _ => ⟨.nil, [], false⟩
theorem insJ_split {α : Type} {lt : α → α → Prop} (z : α) : ∀ (n : Nat) (W : List α), W.length = n → ∃ X Y, W = X ++ Y ∧ (∀ t ∈ Y, lt z t) ∧ (∀ y, X.getLast? = some y → ¬ lt z y)
  | 0, W, h => ⟨[], [], by rw [List.length_eq_zero_iff.1 h]; rfl, (fun t ht => by cases ht), (fun y e => by cases e)⟩
  | n + 1, W, h => by
    rcases List.eq_nil_or_concat W with rfl | ⟨W', w, hw⟩
    · cases h
    · rw [List.concat_eq_append] at hw
      subst hw
      by_cases hlt : lt z w
      · obtain ⟨X, Y, e1, e2, e3⟩ := insJ_split (lt := lt) z n W' (by rw [List.length_append] at h; simp only [List.length_singleton] at h; omega)
        refine ⟨X, Y ++ [w], by rw [e1, List.append_assoc], fun t ht => ?_, e3⟩
        rcases List.mem_append.1 ht with ht | ht
        · exact e2 t ht
        · obtain rfl := List.mem_singleton.1 ht
          exact hlt
      · exact ⟨W' ++ [w], [], by simp, (fun t ht => by cases ht), fun y e => by rw [List.getLast?_concat] at e; cases e; exact hlt⟩
theorem ordJ_exists (l : List He) : ∀ n, ∃ O, IsOrd l n O
  | 0 => ⟨[], List.Perm.refl _, List.Pairwise.nil⟩
  | n + 1 => by
    obtain ⟨O, hO⟩ := ordJ_exists l n
    by_cases q : 0 < mkI l n
    · obtain ⟨X, Y, e1, e2, e3⟩ := insJ_split (lt := ltM l) (n : Int) O.length O rfl
      refine ⟨X ++ (n : Int) :: Y, ?_, pw_insert (ltM_swo l) (e1 ▸ hO.sorted) e2 e3 fun t ht => ?_⟩
      · rw [plcN, if_pos q]
        exact List.perm_middle.trans ((List.Perm.cons (n : Int) (e1 ▸ hO.perm)).trans (List.perm_append_comm (l₁ := [(n : Int)])))
      · have := (hO.mem (x := t) (by rw [e1]; exact List.mem_append_left _ ht)).2.1
        unfold bfM; omega
    · exact ⟨O, by rw [plcN, if_neg q, List.append_nil]; exact hO.perm, hO.sorted⟩
theorem ordE_exists (l : List He) : ∃ L, IsOrdE l L := by
  have gen : ∀ n, ∃ L : List EE, L.Perm (l.zipIdx.take n) ∧ L.Pairwise (Lx ltE bfE) := by
    intro n
    induction n with
    | zero => exact ⟨[], List.Perm.refl _, List.Pairwise.nil⟩
    | succ n ih =>
      obtain ⟨L, h1, h2⟩ := ih
      cases hz : l.zipIdx[n]? with
      | none => exact ⟨L, by rw [List.take_of_length_le (by rw [List.getElem?_eq_none_iff] at hz; omega)] at h1 ⊢; exact h1, h2⟩
      | some z =>
        obtain ⟨X, Y, e1, e2, e3⟩ := insJ_split (lt := ltE) z L.length L rfl
        refine ⟨X ++ z :: Y, ?_, pw_insert ltE_swo (e1 ▸ h2) e2 e3 fun t ht => ?_⟩
        · rw [← take_next hz]
          exact List.perm_middle.trans ((List.Perm.cons z (e1 ▸ h1)).trans (List.perm_append_comm (l₁ := [z])))
        · have hm : t ∈ l.zipIdx.take n := h1.mem_iff.1 (by rw [e1]; exact List.mem_append_left _ ht)
          obtain ⟨j, hj⟩ := List.getElem?_of_mem hm
          rw [List.getElem?_take] at hj
          split at hj
          · exact (pw_at (bf := bfE) (lt := fun _ _ => False) (U := l.zipIdx) ((zip_asc l 0).imp fun h => .inr ⟨fun e => e, h⟩) hj hz (by assumption)).elim (fun e => e.elim) (fun e => e.2)
          · cases hj
  obtain ⟨L, h1, h2⟩ := gen l.zipIdx.length
  rw [List.take_length] at h1
  exact ⟨L, h1, h2⟩
def histW (p : Pl) (M : Md) (l : List He) (O : List Int) (L : List EE) (O' : List Int) : Nat :=
  if (checkH p l M O).2 = 4 then 1 else if (checkH p (L.map Prod.fst) M O').2 = 10 then 2 else if 0 ≤ (replayM p l M O).2 then 3 else 0
/-- What is wrong with a history, as a number of its word. -/
structure HistW (p : Pl) (M : Md) (l : List He) (w : Nat) : Prop where
  holds : ∃ O L O', IsOrd l l.length O ∧ IsOrdE l L ∧ IsOrd (L.map Prod.fst) l.length O' ∧ w = histW p M l O L O'
theorem HistW.one {p : Pl} {M : Md} {l : List He} {w w' : Nat} (h : HistW p M l w) (h' : HistW p M l w') : w = w' := by
  obtain ⟨O, L, O', h1, h2, h3, rfl⟩ := h
  obtain ⟨U, K, U', k1, k2, k3, rfl⟩ := h'
  obtain rfl := h1.one k1
  obtain rfl := h2.one k2
  obtain rfl := h3.one k3
  rfl
theorem HistW.le {p : Pl} {M : Md} {l : List He} {w : Nat} (h : HistW p M l w) : w ≤ 3 := by
  obtain ⟨O, L, O', h1, h2, h3, rfl⟩ := h
  unfold histW
  split
  · decide
  · split
    · decide
    · split <;> decide
def rulesW (r : Rp) : Option Nat := (List.range 7).find? fun w => (List.range r.on).any (wrongM r w)
def judgeM (r : Rp) (hw : Nat) : Nat :=
  if hw ≠ 0 then hw else if doneM r.cn (idsD r) = false then 4 else match rulesW r with
    | some w => 5 + w
    | none => if allCM r = true then 0 else 12
theorem word_empty {w : Nat} (h : w ≤ 3) : ((wordS w).toList == ({ data := #[] } : ByteArray).toList) = decide (w = 0) := by
  rw [toList_data, toList_data]
  match w, h with
  | 0, _ => rfl
  | 1, _ => decide
  | 2, _ => decide
  | 3, _ => decide
theorem rule_word {w : Nat} {x : ByteArray × Nat} (hx : rulesL[w]? = some x) : x.1 = wordS (5 + w) := by
  have hw : w < 7 := (List.getElem?_eq_some_iff.1 hx).1
  match w, hw with
  | 0, _ => cases hx; rfl
  | 1, _ => cases hx; rfl
  | 2, _ => cases hx; rfl
  | 3, _ => cases hx; rfl
  | 4, _ => cases hx; rfl
  | 5, _ => cases hx; rfl
  | 6, _ => cases hx; rfl
section
variable {h : Heap}
set_option maxHeartbeats 1000000 in
theorem aHistory_spec {r : Rp} (R : RpOk h r) {A B : Option Addr} {na ca nb cb base : Nat} {rules : List Ru} {vls : List Vl} {P tries ring normal short : Int} {s : Sz}
    (ora : OwnA encRu 2 101 base h A ca (fixRules P rules)) (orb : OwnA encVl 3 147 base h B cb (fixVlans P vls)) (hna : (fixRules P rules).length = na) (hnb : (fixVlans P vls).length = nb) (wf : ∀ v ∈ vls, SetWf v.mem ∧ SetWf v.unt)
    (hp : r.plan = planV (fixPorts P) (.slice A na ca) (.slice B nb cb) (fixSz s) (fixTries tries) (fixRing ring) normal short) (wo : ∀ e ∈ r.log, e.op.Wf) :
    HCalls Tryz.prog 15 #[.agg (encRp r).toArray] h (fun v h' => ∃ w, v = .string (wordS w) ∧ HistW (fixPl P s tries ring normal short) (newM (fixPl P s tries ring normal short) (fixVlans P vls)) r.log w ∧ Ext h h') := by
  refine xcalls env_aHistory Tryz.func15 rfl (by kernel_rfl) rfl (by kernel_rfl) ?_
  intro rb h1 n1
  have hrb : h1[rb]? = some (.cells (encRp r).toArray 50 (0, 0)) := n1.this
  have rp : ∀ g : Heap, g[rb]? = some (.cells (encRp r).toArray 50 (0, 0)) → Reads g ⟨rb, 0, none⟩ (planV (fixPorts P) (.slice A na ca) (.slice B nb cb) (fixSz s) (fixTries tries) (fixRing ring) normal short) := fun g hg => by
    have : Reads g ⟨rb, 0, none⟩ r.plan := reads_at hg rfl
    rw [hp] at this; exact this
  have ll := R.logl
  have lc := R.logc
  have ls := R.logs
  obtain ⟨O, hO⟩ := ordJ_exists r.log r.log.length
  have hO' : IsOrd r.log r.ln O := by rw [← ll]; exact hO
  refine ⟨_, rfl, rp _ hrb, _, cell_blk hrb rfl, ?_⟩
  refine (hCheck_spec (ora.ext n1.ext) (orb.ext n1.ext) hna hnb wf (n1.ext.row R.log) ll (by omega) lc wo).mono ?_
  rintro v h2 ⟨i2, e2, rfl, k2, x2⟩
  have k2 := congrArg Prod.snd (k2 O hO')
  have x02 := n1.ext.trans x2
  have hrb2 := x2.blk hrb
  have mk : ∀ w, (∀ L O', IsOrdE r.log L → IsOrd (L.map Prod.fst) r.log.length O' → w = histW (fixPl P s tries ring normal short) (newM (fixPl P s tries ring normal short) (fixVlans P vls)) r.log O L O') → (∃ L, IsOrdE r.log L) → HistW (fixPl P s tries ring normal short) (newM (fixPl P s tries ring normal short) (fixVlans P vls)) r.log w := by
    rintro w hw ⟨L, hL⟩
    obtain ⟨O', hO2⟩ := ordJ_exists (L.map Prod.fst) r.log.length
    exact ⟨O, L, O', hO, hL, hO2, hw L O' hL hO2⟩
  have exE := ordE_exists r.log
  refine xif_of (fun q => ?_) (fun q => ?_)
  · have q : e2 = 4 := by simpa using q
    exact ⟨1, rfl, mk 1 (fun L O' _ _ => by unfold histW; rw [if_pos (by rw [← k2]; exact q)]) exE, x02⟩
  have q : ¬ e2 = 4 := by simpa using q
  have q1 : ¬ (checkH (fixPl P s tries ring normal short) r.log (newM (fixPl P s tries ring normal short) (fixVlans P vls)) O).2 = 4 := by rw [← k2]; exact q
  refine ⟨_, rfl, rp _ hrb2, _, cell_blk hrb2 rfl, ?_⟩
  refine (aOrdered_spec (x02.row R.log) ll (by omega)).mono ?_
  rintro v h3 ⟨A3, c3, L, rfl, hL, o3, x3⟩
  have x03 := x02.trans x3
  have hrb3 := x3.blk hrb2
  have lL : (L.map Prod.fst).length = r.ln := by rw [List.length_map, hL.len, ll]
  have hc3 : r.ln ≤ c3 := by have := o3.le; omega
  obtain ⟨O', hO2⟩ := ordJ_exists (L.map Prod.fst) r.log.length
  have hO2' : IsOrd (L.map Prod.fst) r.ln O' := by rw [← ll]; exact hO2
  have mk2 : ∀ w, w = histW (fixPl P s tries ring normal short) (newM (fixPl P s tries ring normal short) (fixVlans P vls)) r.log O L O' → HistW (fixPl P s tries ring normal short) (newM (fixPl P s tries ring normal short) (fixVlans P vls)) r.log w := fun w hw => ⟨O, L, O', hO, hL, hO2, hw⟩
  refine ⟨⟨rp _ hrb3, trivial⟩, ?_⟩
  refine (hCheck_spec (ora.ext x03) (orb.ext x03) hna hnb wf (o3.row encHe_len) lL (by omega) hc3 (hL.wf wo)).mono ?_
  rintro v h4 ⟨i4, e4, rfl, k4, x4⟩
  have k4 := congrArg Prod.snd (k4 O' hO2')
  have x04 := x03.trans x4
  have hrb4 := x4.blk hrb3
  refine xif_of (fun q2 => ?_) (fun q2 => ?_)
  · have q2 : e4 = 10 := by simpa using q2
    exact ⟨2, rfl, mk2 2 (by unfold histW; rw [if_neg q1, if_pos (by rw [← k4]; exact q2)]), x04⟩
  have q2 : ¬ e4 = 10 := by simpa using q2
  have q3 : ¬ (checkH (fixPl P s tries ring normal short) (L.map Prod.fst) (newM (fixPl P s tries ring normal short) (fixVlans P vls)) O').2 = 10 := by rw [← k4]; exact q2
  refine ⟨_, rfl, rp _ hrb4, _, cell_blk hrb4 rfl, ?_⟩
  refine (hReplay_spec (ora.ext x04) (orb.ext x04) hna hnb wf (x04.row R.log) ll (by omega) wo).mono ?_
  rintro v h5 ⟨m, D, F, O5, bm, rfl, hO5, _, _, _, x5⟩
  obtain rfl := hO5.one hO'
  have x05 := x04.trans x5
  refine xif_of (fun q4 => ?_) (fun q4 => ?_)
  · have q4 : (replayM (fixPl P s tries ring normal short) r.log (newM (fixPl P s tries ring normal short) (fixVlans P vls)) O5).2 ≥ 0 := of_decide_eq_true q4
    exact ⟨3, rfl, mk2 3 (by unfold histW; rw [if_neg q1, if_neg q3, if_pos q4]), x05⟩
  · have q4 : ¬ (replayM (fixPl P s tries ring normal short) r.log (newM (fixPl P s tries ring normal short) (fixVlans P vls)) O5).2 ≥ 0 := of_decide_eq_false q4
    exact ⟨0, rfl, mk2 0 (by unfold histW; rw [if_neg q1, if_neg q3, if_neg q4]), x05⟩
set_option maxHeartbeats 1000000 in
theorem aJudge_spec {r : Rp} (R : RpOk h r) {A B : Option Addr} {na ca nb cb base : Nat} {rules : List Ru} {vls : List Vl} {P tries ring normal short : Int} {s : Sz}
    (ora : OwnA encRu 2 101 base h A ca (fixRules P rules)) (orb : OwnA encVl 3 147 base h B cb (fixVlans P vls)) (hna : (fixRules P rules).length = na) (hnb : (fixVlans P vls).length = nb) (wf : ∀ v ∈ vls, SetWf v.mem ∧ SetWf v.unt)
    (hp : r.plan = planV (fixPorts P) (.slice A na ca) (.slice B nb cb) (fixSz s) (fixTries tries) (fixRing ring) normal short) (wo : ∀ e ∈ r.log, e.op.Wf) :
    HCalls Tryz.prog 8 #[.agg (encRp r).toArray] h (fun v h' => ∃ w, v = .string (wordS (judgeM r w)) ∧ HistW (fixPl P s tries ring normal short) (newM (fixPl P s tries ring normal short) (fixVlans P vls)) r.log w ∧ Ext h h') := by
  refine xcalls env0 Tryz.func8 rfl (by kernel_rfl) rfl (by kernel_rfl) ?_
  intro rb h1 n1
  have hrb : h1[rb]? = some (.cells (encRp r).toArray 50 (0, 0)) := n1.this
  have rp : ∀ g : Heap, g[rb]? = some (.cells (encRp r).toArray 50 (0, 0)) → Reads g ⟨rb, 0, none⟩ (planV (fixPorts P) (.slice A na ca) (.slice B nb cb) (fixSz s) (fixTries tries) (fixRing ring) normal short) := fun g hg => by
    have : Reads g ⟨rb, 0, none⟩ r.plan := reads_at hg rfl
    rw [hp] at this; exact this
  have wfv : ∀ v ∈ fixVlans P vls, SetWf v.mem ∧ SetWf v.unt := fun v hv => fixVl_wf _ _ (fun v hv => wf v (List.mem_of_mem_take hv)) v hv
  have hpr := fixPorts_range P
  have hvl := fixVlans_len P vls
  have hrl : (fixRules P rules).length = (fixPorts P).toNat := by unfold fixRules; simp
  have os := R.outss
  refine ⟨_, rfl, rp _ hrb, ?_⟩
  refine (mCheck_spec ((ora.ext n1.ext).row encRu_len) hna ((orb.ext n1.ext).row encVl_len) hnb (by omega) (by omega) wfv).mono ?_
  rintro v h2 ⟨hv, x2⟩
  rw [fix_check P rules vls s tries ring] at hv
  subst hv
  have x02 := n1.ext.trans x2
  have hrb2 := x2.blk hrb
  refine ⟨encRp r, rfl, reads_all hrb2, ?_⟩
  refine (aHistory_spec (R.ext x02) (ora.ext x02) (orb.ext x02) hna hnb wf hp wo).mono ?_
  rintro v h3 ⟨hw, rfl, hist, x3⟩
  have x03 := x02.trans x3
  have hrb3 := x3.blk hrb2
  refine xif_of (fun q => ?_) (fun q => ?_)
  · have q : ¬ hw = 0 := by
      intro e
      have : (!((wordS hw).toList == ({ data := #[] } : ByteArray).toList)) = true := q
      rw [word_empty hist.le, decide_eq_true e] at this
      cases this
    exact ⟨hw, congrArg Value.string (by unfold judgeM; rw [if_pos q]), hist, x03⟩
  have q : hw = 0 := by
    refine Classical.byContradiction fun e => ?_
    have : (!((wordS hw).toList == ({ data := #[] } : ByteArray).toList)) = false := q
    rw [word_empty hist.le, decide_eq_false e] at this
    cases this
  refine ⟨encRp r, rfl, reads_all hrb3, ?_⟩
  refine (aDone_spec (R.ext x03)).mono ?_
  rintro v h4 ⟨rfl, x4⟩
  have x04 := x03.trans x4
  have hrb4 := x4.blk hrb3
  refine xif_of (fun q2 => ?_) (fun q2 => ?_)
  · have q2 : doneM r.cn (idsD r) = false := by simpa using q2
    exact ⟨hw, congrArg (fun n => Value.string (wordS n)) (by unfold judgeM; rw [if_neg (by omega), if_pos q2] : (4 : Nat) = judgeM r hw), hist, x04⟩
  have q2 : doneM r.cn (idsD r) = true := by simpa using q2
  have j1 : judgeM r hw = match rulesW r with
    | some w => 5 + w
    | none => if allCM r = true then 0 else 12 := by
    unfold judgeM
    rw [if_neg (by omega), if_neg (by rw [q2]; decide)]
  refine aRules_spec.mono ?_
  rintro v h5 ⟨ub, rfl, hub, x5⟩
  have x05 := x04.trans x5
  have hrb5 := x5.blk hrb4
  refine ⟨Nat, fun w => [(1, .pointer (some ⟨rb, 0, none⟩)), (19, .slice (some ⟨ub, 0, none⟩) 7 7), (20, .int .i64 7), (21, .int .i64 w)],
    fun w h' => (w ≤ 7 ∧ ∀ w', w' < w → ∀ i, i < r.on → wrongM r w' i = false) ∧ h'[rb]? = some (.cells (encRp r).toArray 50 (0, 0)) ∧ h'[ub]? = some (.cells (rulesL.flatMap encRl ++ []).toArray 84 (0, 0)) ∧ Ext h h', fun w => 7 - w, 0, ⟨rfl, rfl, rfl, rfl, trivial⟩, ⟨⟨Nat.zero_le _, fun w' hw' => by omega⟩, hrb5, hub, x05⟩, ?_⟩
  rintro w h6 ⟨⟨hw7, hal⟩, hrb6, hub6, x6⟩
  refine xif_of (fun hlt => ?_) (fun hge => ?_)
  rotate_left
  · have hge : ¬ (w : Int) < 7 := of_decide_eq_false hge
    have hnone : rulesW r = none := by
      unfold rulesW
      rw [List.find?_eq_none]
      intro j hj
      rw [List.mem_range] at hj
      rw [List.any_eq_true]
      rintro ⟨i, hi, k⟩
      rw [List.mem_range] at hi
      rw [hal j (by omega) i hi] at k
      cases k
    rw [hnone] at j1
    refine ⟨encRp r, rfl, reads_all hrb6, ?_⟩
    refine (aAll_spec (R.ext x6)).mono ?_
    rintro v h7 ⟨rfl, x7⟩
    refine xif_of (fun q3 => ?_) (fun q3 => ?_)
    · have q3 : allCM r = false := by simpa using q3
      have j2 : judgeM r hw = 12 := j1.trans (by show (if allCM r = true then 0 else 12) = 12; rw [q3]; rfl)
      exact ⟨hw, by rw [j2]; rfl, hist, x6.trans x7⟩
    · have q3 : allCM r = true := by simpa using q3
      have j2 : judgeM r hw = 0 := j1.trans (by show (if allCM r = true then 0 else 12) = 0; rw [q3]; rfl)
      exact ⟨hw, by rw [j2]; rfl, hist, x6.trans x7⟩
  have hlt : (w : Int) < 7 := of_decide_eq_true hlt
  obtain ⟨x, hx⟩ : ∃ x, rulesL[w]? = some x := ⟨rulesL[w]'(by show w < 7; omega), List.getElem?_eq_getElem (by show w < 7; omega)⟩
  obtain ⟨ua, hUA, urd⟩ := (row_blk (enc := encRl) (sz := 2) hub6 fun x _ => encRl_len x) w x hx
  refine ⟨ua, hUA, by omega, hlt, encRl x, rfl, urd, ?_⟩
  intro xb h7 n7
  refine ⟨rfl, rfl, canset_blk n7.this rfl, fun h8 s8 => ?_⟩
  have hxb : h8[xb]? = some (.cells (encRl x).toArray 84 (0, 0)) := n7.fill rfl s8
  have x68 : Ext h6 h8 := n7.ext.stored s8 (n7.ge (Ext.refl _))
  have x8 := x6.trans x68
  have hrb8 := x68.blk hrb6
  have hub8 := x68.blk hub6
  refine ⟨_, cell_blk hrb8 rfl, ?_⟩
  refine ⟨Nat, fun i => [(1, .pointer (some ⟨rb, 0, none⟩)), (5, .pointer (some ⟨xb, 0, none⟩)), (19, .slice (some ⟨ub, 0, none⟩) 7 7), (20, .int .i64 7), (21, .int .i64 w), (27, .int .i64 r.on), (28, .int .i64 i)],
    fun i h' => (i ≤ r.on ∧ ∀ j, j < i → wrongM r w j = false) ∧ h'[rb]? = some (.cells (encRp r).toArray 50 (0, 0)) ∧ h'[ub]? = some (.cells (rulesL.flatMap encRl ++ []).toArray 84 (0, 0)) ∧ h'[xb]? = some (.cells (encRl x).toArray 84 (0, 0)) ∧ Ext h h', fun i => r.on - i, 0, ⟨rfl, rfl, rfl, rfl, rfl, rfl, rfl, trivial⟩, ⟨⟨Nat.zero_le _, fun j hj => by omega⟩, hrb8, hub8, hxb, x8⟩, ?_⟩
  rintro i h9 ⟨⟨hi, hil⟩, hrb9, hub9, hxb9, x9⟩
  refine xif_of (fun hlt2 => ?_) (fun hge2 => ?_)
  rotate_left
  · have hge2 : ¬ (i : Int) < r.on := of_decide_eq_false hge2
    refine ⟨w + 1, ⟨rfl, rfl, rfl, slot_inc (by omega), trivial⟩, ⟨⟨by omega, fun w' hw' j hj => ?_⟩, hrb9, hub9, x9⟩, by show 7 - (w + 1) < 7 - w; omega⟩
    by_cases e : w' = w
    · subst e; exact hil j (by omega)
    · exact hal w' (by omega) j hj
  have hlt2 : (i : Int) < r.on := of_decide_eq_true hlt2
  refine ⟨_, cell_blk hxb9 rfl, encRp r, rfl, reads_all hrb9, ?_⟩
  refine (aWrong_spec (R.ext x9) hx (by omega) (fun e => hal 0 (by omega) i (by omega))).mono ?_
  rintro v h10 ⟨rfl, x10⟩
  have hxb10 := x10.blk hxb9
  refine xif_of (fun q3 => ?_) (fun q3 => ?_)
  · have q3 : wrongM r w i = true := q3
    have hs : rulesW r = some w := by
      unfold rulesW
      refine List.find?_range_eq_some.2 ⟨?_, by rw [List.mem_range]; omega, fun j hj => ?_⟩
      · rw [List.any_eq_true]
        exact ⟨i, by rw [List.mem_range]; omega, q3⟩
      · rw [Bool.not_eq_true', List.any_eq_false]
        intro k hk
        rw [List.mem_range] at hk
        rw [hal j hj k hk]; decide
    rw [hs] at j1
    refine ⟨_, cell_blk hxb10 rfl, hw, congrArg Value.string ?_, hist, x9.trans x10⟩
    rw [j1]; exact rule_word hx
  · have q3 : wrongM r w i = false := q3
    refine ⟨i + 1, ⟨rfl, rfl, rfl, rfl, rfl, rfl, slot_inc (by omega), trivial⟩, ⟨⟨by omega, fun j hj => ?_⟩, x10.blk hrb9, x10.blk hub9, hxb10, x9.trans x10⟩, by show r.on - (i + 1) < r.on - i; omega⟩
    by_cases e : j = i
    · subst e; exact q3
    · exact hil j (by omega)
/-- A report of nothing at all. -/
theorem aJudge_bad {r : Rp} (hp : r.plan = planV 0 (.slice none 0 0) (.slice none 0 0) ⟨0, 0, 0⟩ 0 0 0 0) : HCalls Tryz.prog 8 #[.agg (encRp r).toArray] h (fun v h' => v = .string (wordS 13) ∧ Ext h h') := by
  refine xcalls env0 Tryz.func8 rfl (by kernel_rfl) rfl (by kernel_rfl) ?_
  intro rb h1 n1
  have hrb : h1[rb]? = some (.cells (encRp r).toArray 50 (0, 0)) := n1.this
  have rp : Reads h1 ⟨rb, 0, none⟩ (planV 0 (.slice none 0 0) (.slice none 0 0) ⟨0, 0, 0⟩ 0 0 0 0) := by
    have : Reads h1 ⟨rb, 0, none⟩ r.plan := reads_at hrb rfl
    rw [hp] at this; exact this
  refine ⟨_, rfl, rp, ?_⟩
  refine (mCheck_spec (rules := []) (vls := []) Row.nil rfl Row.nil rfl (by decide) (by decide) (fun v hv => by cases hv)).mono ?_
  rintro v h2 ⟨rfl, x2⟩
  exact ⟨rfl, n1.ext.trans x2⟩
end
end Go.Proofs.YtcjoenkpibhmoaaGreatE
