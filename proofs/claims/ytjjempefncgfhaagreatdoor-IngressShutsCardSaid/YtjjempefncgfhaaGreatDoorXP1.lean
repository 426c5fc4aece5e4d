/- A plan that is made out of any one may be, and its model: what is done to it keeps it in order. Conditions: the arguments are of their types. -/
import Derived.Test.YtjjempefncgfhaaGreatDoorXN8
set_option linter.unusedVariables false
set_option linter.unusedSimpArgs false
set_option maxRecDepth 100000
namespace Go.Proofs.YtjjempefncgfhaaGreatDoorE
open Go Go.Proofs
theorem within_and (a b : Int) : withinM (andM a b) b = true := by
  unfold withinM andM
  rw [Int.toNat_natCast, Nat.and_assoc, Nat.and_self]
  simp
theorem vChk_fix {all : Int} : ∀ (l : List Vl) (vid : Int), 0 ≤ vid → vid + 3 * l.length ≤ 4094 → vChk all (fixVl all l vid) vid = 0
  | [], _, _, _ => rfl
  | v :: l, vid, h0, h1 => by
    have m0 := Int.emod_nonneg (v.vid % 18446744073709551616) (show (3 : Int) ≠ 0 by decide)
    have m1 := Int.emod_lt_of_pos (v.vid % 18446744073709551616) (show (0 : Int) < 3 by decide)
    simp only [List.length_cons] at h1
    rw [fixVl, vChk, if_neg (by simp only; omega), within_and, if_neg (by decide), within_and, if_neg (by decide)]
    exact vChk_fix l _ (by omega) (by omega)
theorem fixVl_len (all : Int) : ∀ (l : List Vl) (vid : Int), (fixVl all l vid).length = l.length
  | [], _ => rfl
  | v :: l, vid => by rw [fixVl, List.length_cons, List.length_cons, fixVl_len all l]
theorem fixVl_wf {all : Int} : ∀ (l : List Vl) (vid : Int), (∀ v ∈ l, SetWf v.mem ∧ SetWf v.unt) → ∀ v ∈ fixVl all l vid, SetWf v.mem ∧ SetWf v.unt
  | [], _, _, v, hv => by cases hv
  | x :: l, vid, h, v, hv => by
    have hx := h x (List.mem_cons_self ..)
    rw [fixVl] at hv
    rcases List.mem_cons.1 hv with rfl | hv
    · exact ⟨andM_wf hx.1, andM_wf hx.2⟩
    · exact fixVl_wf l _ (fun v hv => h v (List.mem_cons_of_mem _ hv)) v hv
theorem fixVl_up {all : Int} : ∀ (l : List Vl) (vid : Int), ∀ v ∈ fixVl all l vid, vid < v.vid
  | [], _, v, hv => by cases hv
  | x :: l, vid, v, hv => by
    have m0 := Int.emod_nonneg (x.vid % 18446744073709551616) (show (3 : Int) ≠ 0 by decide)
    rw [fixVl] at hv
    rcases List.mem_cons.1 hv with rfl | hv
    · show vid < vid + 1 + x.vid % 18446744073709551616 % 3; omega
    · have := fixVl_up l _ v hv
      omega
theorem fixVl_nodup {all : Int} : ∀ (l : List Vl) (vid : Int), ((fixVl all l vid).map Vl.vid).Nodup
  | [], _ => List.nodup_nil
  | x :: l, vid => by
    rw [fixVl, List.map_cons]
    refine List.nodup_cons.2 ⟨fun hm => ?_, fixVl_nodup l _⟩
    obtain ⟨v, hv, e⟩ := List.mem_map.1 hm
    have := fixVl_up l _ v hv
    simp only at e
    omega
theorem fixRu_right (rules : List Ru) (i : Nat) : rightR (fixRu rules i) = true := by
  unfold fixRu rightR
  cases rules[i]? with
  | none => simp
  | some r =>
    have m0 := Int.emod_nonneg (r.pvid % 18446744073709551616) (show (4094 : Int) ≠ 0 by decide)
    have m1 := Int.emod_lt_of_pos (r.pvid % 18446744073709551616) (show (0 : Int) < 4094 by decide)
    have m2 := Int.emod_nonneg (r.acc % 18446744073709551616) (show (3 : Int) ≠ 0 by decide)
    have m3 := Int.emod_lt_of_pos (r.acc % 18446744073709551616) (show (0 : Int) < 3 by decide)
    simp only [Bool.and_eq_true, decide_eq_true_eq]
    omega
theorem fixPorts_range (P : Int) : 2 ≤ fixPorts P ∧ fixPorts P ≤ 8 := by unfold fixPorts; omega
theorem fixTries_range (n : Int) : 1 ≤ fixTries n ∧ fixTries n ≤ 8 := by unfold fixTries; omega
theorem fixRing_range (n : Int) : 1 ≤ fixRing n ∧ fixRing n ≤ 64 := by unfold fixRing; omega
def fixRules (P : Int) (rules : List Ru) : List Ru := (List.range (fixPorts P).toNat).map (fixRu rules)
def fixVlans (P : Int) (vls : List Vl) : List Vl := fixVl (allM (fixPorts P)) (vls.take 8) 0
theorem fixVlans_len (P : Int) (vls : List Vl) : (fixVlans P vls).length ≤ 8 := by
  unfold fixVlans
  rw [fixVl_len, List.length_take]
  omega
theorem fix_check (P : Int) (rules : List Ru) (vls : List Vl) (s : Sz) (tries ring : Int) : mCheckM (fixPorts P) (fixRules P rules) (fixVlans P vls) (fixSz s) (fixTries tries) (fixRing ring) = 0 := by
  have hp := fixPorts_range P
  have ht := fixTries_range tries
  have hg := fixRing_range ring
  have hl := fixVlans_len P vls
  have hv : vCheckM (fixVlans P vls) (fixPorts P) = 0 := by
    rw [vCheckM, if_neg (by omega), if_neg (by omega)]
    refine vChk_fix _ _ (by decide) ?_
    rw [List.length_take]
    omega
  have hr : ((fixRules P rules).any fun r => !rightR r) = false := by
    rw [List.any_eq_false]
    intro r hr
    obtain ⟨i, _, rfl⟩ := List.mem_map.1 hr
    simp [fixRu_right]
  have hn : ((fixRules P rules).length : Int) = fixPorts P := by
    unfold fixRules
    simp only [List.length_map, List.length_range]
    omega
  rw [mCheckM, hv, if_neg (by simp), if_neg, if_neg (by omega)]
  rintro (h | h | h)
  · exact h hn
  · rw [hr] at h; cases h
  · rw [rightM_ok.2 (fixSz_ok s)] at h; cases h
def fixPl (P : Int) (s : Sz) (tries ring normal short : Int) : Pl := ⟨fixPorts P, fixSz s, fixTries tries, fixRing ring, normal, short⟩
theorem fixPl_ok (P : Int) (s : Sz) (tries ring normal short : Int) : (fixPl P s tries ring normal short).Ok := by
  have hp := fixPorts_range P
  have hg := fixRing_range ring
  exact ⟨hp.1, Int.le_trans hp.2 (by decide), fixSz_ok s, hg.1, hg.2⟩
/-- A new model. -/
def newM (p : Pl) (vls : List Vl) : Md := ⟨List.replicate p.ports.toNat ⟨0, 0⟩, vls, List.replicate (p.size.sh * p.size.bk).toNat (List.replicate p.size.sl.toNat Place.none), fun _ _ => []⟩
/-- What is known of a model throughout. -/
structure Nice (p : Pl) (M : Md) : Prop where
  ok : MdOk p M
  few : M.vlans.length ≤ 8
  one : (M.vlans.map Vl.vid).Nodup
  st : ∀ x ∈ M.stands, rightSt x.st = true
theorem nice_new {p : Pl} (o : p.Ok) {vls : List Vl} (wf : ∀ v ∈ vls, SetWf v.mem ∧ SetWf v.unt) (hn : vls.length ≤ 8) (nd : (vls.map Vl.vid).Nodup) : Nice p (newM p vls) := by
  have h1 := o.lo
  have h2 := o.ring0
  refine ⟨⟨?_, good_new o.size, wf, fun a b => ?_⟩, hn, nd, fun x hx => ?_⟩
  · show ((List.replicate p.ports.toNat (⟨0, 0⟩ : Stn)).length : Int) = p.ports
    rw [List.length_replicate]; omega
  · show ((0 : Nat) : Int) ≤ p.ring; omega
  · rw [(List.mem_replicate.1 hx).2]; rfl
theorem ite_q {α β : Type} {Q : α → Prop} {c : Prop} {inst : Decidable c} {a b : α × β} (h1 : c → Q a.1) (h2 : ¬ c → Q b.1) : Q (@ite _ c inst a b).1 := by
  by_cases h : c
  · rw [if_pos h]; exact h1 h
  · rw [if_neg h]; exact h2 h
theorem set_vids {l : List Vl} {i : Nat} {v : Vl} (h : v.vid = (l.getD i ⟨0, 0, 0⟩).vid) : (l.set i v).map Vl.vid = l.map Vl.vid := by
  rw [List.map_set]
  by_cases hi : i < l.length
  · apply List.ext_getElem?
    intro j
    rw [List.getElem?_set]
    split
    · rename_i e
      subst e
      rw [List.getD_eq_getElem?_getD, List.getElem?_eq_getElem hi] at h
      rw [List.length_map, if_pos hi, List.getElem?_map, List.getElem?_eq_getElem hi, h]; rfl
    · rfl
  · rw [List.set_eq_of_length_le (by simp; omega)]
theorem do_vids (p : Pl) (M : Md) (x : Op17) : (do17 p M x).1.vlans.map Vl.vid = M.vlans.map Vl.vid := by
  have q := @ite_q Md Int (fun m => m.vlans.map Vl.vid = M.vlans.map Vl.vid)
  refine q (fun _ => rfl) fun _ => q (fun _ => rfl) fun _ => q (fun _ => rfl) fun _ => q (fun _ => rfl) fun _ => q (fun _ => rfl) fun _ => q (fun _ => rfl) fun _ => q (fun _ => rfl) fun _ => q (fun _ => rfl) fun _ => q (fun _ => rfl) fun _ => q (fun _ => q (fun _ => rfl) fun _ => rfl) fun _ => q (fun _ => q (fun _ => rfl) fun _ => ?_) fun _ => q (fun _ => q (fun _ => rfl) fun _ => rfl) fun _ => q (fun _ => ?_) fun _ => q (fun _ => rfl) fun _ => rfl
  · exact set_vids rfl
  · cases M.queues x.port x.to <;> rfl
theorem do_stands (p : Pl) (M : Md) (x : Op17) : (do17 p M x).1.stands = if mayO p x = true ∧ x.kind = 8 ∧ rightSt x.state = true then M.stands.set x.port.toNat ⟨x.state, IntKind.u32.wrap ((M.stands.getD x.port.toNat ⟨0, 0⟩).ep + 1)⟩ else M.stands := by
  have no : ∀ {m : Md}, m.stands = M.stands → (¬ (mayO p x = true ∧ x.kind = 8 ∧ rightSt x.state = true)) → m.stands = if mayO p x = true ∧ x.kind = 8 ∧ rightSt x.state = true then M.stands.set x.port.toNat ⟨x.state, IntKind.u32.wrap ((M.stands.getD x.port.toNat ⟨0, 0⟩).ep + 1)⟩ else M.stands := fun e h => by rw [if_neg h, e]
  have q := @ite_q Md Int (fun m => m.stands = if mayO p x = true ∧ x.kind = 8 ∧ rightSt x.state = true then M.stands.set x.port.toNat ⟨x.state, IntKind.u32.wrap ((M.stands.getD x.port.toNat ⟨0, 0⟩).ep + 1)⟩ else M.stands)
  refine q (fun h => no rfl (by rw [h]; simp)) fun hm => q (fun h => no rfl (by omega)) fun _ => q (fun h => no rfl (by omega)) fun _ => q (fun h => no rfl (by omega)) fun _ => q (fun h => no rfl (by omega)) fun _ => q (fun h => no rfl (by omega)) fun _ => q (fun h => no rfl (by omega)) fun _ => q (fun h => no rfl (by omega)) fun _ => q (fun h => no rfl (by omega)) fun _ => q (fun h8 => q (fun h => no rfl (by rw [h]; simp)) fun h => ?_) fun h8 => q (fun _ => q (fun _ => no rfl (by omega)) fun _ => no rfl (by omega)) fun _ => q (fun _ => q (fun _ => no rfl (by omega)) fun _ => no rfl (by omega)) fun _ => q (fun _ => no ?_ (by omega)) fun _ => q (fun _ => no rfl (by omega)) fun _ => no rfl (by omega)
  · rw [if_pos ⟨by simpa using hm, h8, by simpa using h⟩]
  · cases M.queues x.port x.to <;> rfl
theorem do_queues (p : Pl) (M : Md) (x : Op17) (a b : Int) : (do17 p M x).1.queues a b =
    if mayO p x = true ∧ x.kind = 10 ∧ x.port = a ∧ x.to = b ∧ ((M.queues a b).length : Int) < p.ring then M.queues a b ++ [x.id]
    else if mayO p x = true ∧ x.kind = 11 ∧ x.port = a ∧ x.to = b then (M.queues a b).tail else M.queues a b := by
  have no : ∀ {m : Md}, m.queues = M.queues → (¬ (mayO p x = true ∧ x.kind = 10 ∧ x.port = a ∧ x.to = b ∧ ((M.queues a b).length : Int) < p.ring)) → (¬ (mayO p x = true ∧ x.kind = 11 ∧ x.port = a ∧ x.to = b)) → m.queues a b =
    if mayO p x = true ∧ x.kind = 10 ∧ x.port = a ∧ x.to = b ∧ ((M.queues a b).length : Int) < p.ring then M.queues a b ++ [x.id]
    else if mayO p x = true ∧ x.kind = 11 ∧ x.port = a ∧ x.to = b then (M.queues a b).tail else M.queues a b := fun e h1 h2 => by rw [if_neg h1, if_neg h2, e]
  have q := @ite_q Md Int (fun m => m.queues a b = if mayO p x = true ∧ x.kind = 10 ∧ x.port = a ∧ x.to = b ∧ ((M.queues a b).length : Int) < p.ring then M.queues a b ++ [x.id] else if mayO p x = true ∧ x.kind = 11 ∧ x.port = a ∧ x.to = b then (M.queues a b).tail else M.queues a b)
  refine q (fun h => no rfl (by rw [h]; simp) (by rw [h]; simp)) fun hm => q (fun h => no rfl (by omega) (by omega)) fun _ => q (fun h => no rfl (by omega) (by omega)) fun _ => q (fun h => no rfl (by omega) (by omega)) fun _ => q (fun h => no rfl (by omega) (by omega)) fun _ => q (fun h => no rfl (by omega) (by omega)) fun _ => q (fun h => no rfl (by omega) (by omega)) fun _ => q (fun h => no rfl (by omega) (by omega)) fun _ => q (fun h => no rfl (by omega) (by omega)) fun _ => q (fun h8 => q (fun h => no rfl (by omega) (by omega)) fun h => no rfl (by omega) (by omega)) fun h8 => q (fun _ => q (fun _ => no rfl (by omega) (by omega)) fun _ => no rfl (by omega) (by omega)) fun _ => q (fun k => q (fun hr => no rfl ?_ (by omega)) fun hr => ?_) fun _ => q (fun k => ?_) fun _ => q (fun _ => no rfl (by omega) (by omega)) fun _ => no rfl (by omega) (by omega)
  · rintro ⟨_, _, rfl, rfl, h⟩
    omega
  · show setQ M.queues x.port x.to (M.queues x.port x.to ++ [x.id]) a b = _
    unfold setQ
    by_cases h : a = x.port ∧ b = x.to
    · obtain ⟨rfl, rfl⟩ := h
      rw [if_pos ⟨rfl, rfl⟩, if_pos ⟨by simpa using hm, k, rfl, rfl, by omega⟩]
    · rw [if_neg h, if_neg (fun q => h ⟨q.2.2.1.symm, q.2.2.2.1.symm⟩), if_neg (by omega)]
  · have hm : mayO p x = true := by simpa using hm
    rw [if_neg (c := mayO p x = true ∧ x.kind = 10 ∧ x.port = a ∧ x.to = b ∧ ((M.queues a b).length : Int) < p.ring) (by omega)]
    cases hq : M.queues x.port x.to with
    | nil =>
      by_cases h : a = x.port ∧ b = x.to
      · obtain ⟨rfl, rfl⟩ := h
        rw [if_pos ⟨hm, k, rfl, rfl⟩]; show M.queues x.port x.to = _; rw [hq]; rfl
      · rw [if_neg (fun q => h ⟨q.2.2.1.symm, q.2.2.2.symm⟩)]
    | cons z q =>
      show setQ M.queues x.port x.to q a b = _
      unfold setQ
      by_cases h : a = x.port ∧ b = x.to
      · obtain ⟨rfl, rfl⟩ := h
        rw [if_pos ⟨rfl, rfl⟩, if_pos ⟨hm, k, rfl, rfl⟩, hq]; rfl
      · rw [if_neg h, if_neg (fun q => h ⟨q.2.2.1.symm, q.2.2.2.symm⟩)]
theorem nice_do {p : Pl} (o : p.Ok) {M : Md} (H : Nice p M) {x : Op17} (w : x.Wf) : Nice p (do17 p M x).1 := by
  have e := do_vids p M x
  refine ⟨mdok_do o H.ok w, ?_, e ▸ H.one, fun y hy => ?_⟩
  · have := congrArg List.length e
    simp only [List.length_map] at this
    have := H.few
    omega
  · rw [do_stands] at hy
    split at hy
    · rename_i h
      rcases List.mem_or_eq_of_mem_set hy with h' | rfl
      · exact H.st y h'
      · exact h.2.2
    · exact H.st y hy
/-- What is put, and what is taken, is answered so. -/
theorem do_put {p : Pl} {M : Md} {x : Op17} (hm : mayO p x = true) (k : x.kind = 10) : (do17 p M x).2 = if p.ring ≤ (M.queues x.port x.to).length then 0 else 1 := by
  unfold do17
  rw [if_neg (by simp [hm]), if_neg (by omega), if_neg (by omega), if_neg (by omega), if_neg (by omega), if_neg (by omega), if_neg (by omega), if_neg (by omega), if_neg (by omega), if_neg (by omega), if_neg (by omega), if_pos k]
  simp only
  split <;> rfl
theorem do_get {p : Pl} {M : Md} {x : Op17} (hm : mayO p x = true) (k : x.kind = 11) : (do17 p M x).2 = (M.queues x.port x.to).head?.getD (-1) := by
  unfold do17
  rw [if_neg (by simp [hm]), if_neg (by omega), if_neg (by omega), if_neg (by omega), if_neg (by omega), if_neg (by omega), if_neg (by omega), if_neg (by omega), if_neg (by omega), if_neg (by omega), if_neg (by omega), if_neg (by omega), if_pos k]
  cases M.queues x.port x.to <;> rfl
theorem do_state {p : Pl} {M : Md} {x : Op17} (hm : inP p x.port) (k : x.kind = 0) : do17 p M x = (M, (M.stands.getD x.port.toNat ⟨0, 0⟩).st) := by
  have : mayO p x = true := by unfold mayO; rw [if_pos (by omega)]; exact decide_eq_true hm
  unfold do17
  rw [if_neg (by simp [this]), if_pos k]
theorem do_send {p : Pl} {M : Md} {x : Op17} (hm : inP p x.to) (k : x.kind = 12) : do17 p M x = (M, sendM M x.to x.vid) := by
  have : mayO p x = true := by unfold mayO; rw [if_neg (by omega), if_neg (by omega), if_pos k]; exact decide_eq_true hm
  unfold do17
  rw [if_neg (by simp [this]), if_neg (by omega), if_neg (by omega), if_neg (by omega), if_neg (by omega), if_neg (by omega), if_neg (by omega), if_neg (by omega), if_neg (by omega), if_neg (by omega), if_neg (by omega), if_neg (by omega), if_neg (by omega), if_pos k]
end Go.Proofs.YtjjempefncgfhaaGreatDoorE
/- What is asked of the program's model, and helpers of the laws. Conditions: the arguments are of their types. -/
set_option linter.unusedVariables false
set_option linter.unusedSimpArgs false
set_option maxRecDepth 100000
namespace Go.Proofs.YtjjempefncgfhaaGreatDoorE
open Go Go.Proofs
def env_l3Ints : Nat → Ann
  | 6 => ⟨.op 0 [] <| .op 1 [] <| .op 2 [] <| .op 3 [] <| .op 4 [] <| .op 5 [] <| .op 6 [] <| .op 7 [] <| .op 8 [] <| .nil, [0, 0, 3, 7, 0, 0, 48, 112, 255], false⟩
  | 8 => ⟨.nil, [], true⟩
  | _ => ⟨.nil, [], false⟩
section
variable {base : Nat} {F : Nat → Prop} {h h1 h' : Heap} {m : Nat} {D : Dat} {p : Pl} {M M' : Md}
theorem r16Right_spec (s : Int) : HCalls Tryz.prog 181 #[.int .i64 s] h (fun v h' => v = .bool (rightSt s) ∧ h' = h) := by
  refine xcalls env0 Tryz.func181 rfl (by kernel_rfl) rfl (by kernel_rfl) ?_
  refine xif_of (fun q => ?_) (fun q => ?_)
  · have q : s ≥ 0 := of_decide_eq_true q
    refine ⟨congrArg Value.bool ?_, rfl⟩
    unfold rightSt
    rw [Bool.eq_iff_iff, decide_eq_true_iff, decide_eq_true_iff]; omega
  · have q : ¬ s ≥ 0 := of_decide_eq_false q
    exact ⟨congrArg Value.bool (decide_eq_false fun hh => q hh.1).symm, rfl⟩
theorem l3Ints_spec {A B : Option Addr} {na ca nb cb : Nat} {l k : List Int} (hr : Row encI 1 h A l) (hs : Row encI 1 h B k) (hl : l.length = na) (hk : k.length = nb) (hn : na ≤ 1000000) (hn2 : nb ≤ 1000000) : HCalls Tryz.prog 60 #[.slice A na ca, .slice B nb cb] h (fun v h' => v = .bool (decide (l = k)) ∧ Ext h h') := by
  subst hl hk
  refine xcalls env_l3Ints Tryz.func60 rfl (by kernel_rfl) rfl (by kernel_rfl) ?_
  refine xif_of (fun q => ?_) (fun q => ?_)
  · have q : (l.length : Int) ≠ k.length := by simpa using q
    exact ⟨congrArg Value.bool (decide_eq_false fun e => q (by rw [e])).symm, Ext.refl _⟩
  have q : (l.length : Int) = k.length := by simpa using q
  have q : l.length = k.length := by omega
  refine ⟨Unit, fun _ => [], fun _ h' => l = k ∧ Ext h h', ?_, ?_⟩
  · refine ⟨Nat, fun i => [(0, .slice A l.length ca), (1, .slice B k.length cb), (5, .int .i64 i)], fun i h' => (i ≤ l.length ∧ ∀ j < i, l[j]? = k[j]?) ∧ Ext h h', fun i => l.length - i, 0, ⟨rfl, rfl, rfl, trivial⟩, ⟨⟨Nat.zero_le _, fun j hj => absurd hj (Nat.not_lt_zero _)⟩, Ext.refl _⟩, ?_⟩
    rintro i h2 ⟨⟨hi, he⟩, x2⟩
    refine xif_of (fun hlt => ?_) (fun hge => ?_)
    · have hlt : (i : Int) < l.length := of_decide_eq_true hlt
      have h1 : l[i]? = some (l[i]'(by omega)) := List.getElem?_eq_getElem (by omega)
      have h2' : k[i]? = some (k[i]'(by omega)) := List.getElem?_eq_getElem (by omega)
      obtain ⟨x, hx⟩ : ∃ x, l[i]? = some x := ⟨_, h1⟩
      obtain ⟨y, hy⟩ : ∃ y, k[i]? = some y := ⟨_, h2'⟩
      obtain ⟨a, rfl, ra⟩ := (x2.row hr) i x hx
      obtain ⟨b, rfl, rb⟩ := (x2.row hs) i y hy
      have q0 : (0 : Int) ≤ i := by omega
      refine ⟨_, rfl, q0, by omega, _, ra.get 0 rfl, _, rfl, q0, by omega, _, rb.get 0 rfl, ?_⟩
      refine xif_of (fun d => ?_) (fun d => ?_)
      · have d : x ≠ y := by simpa using d
        exact ⟨congrArg Value.bool (decide_eq_false fun e => d (by rw [e, hy] at hx; exact (Option.some.inj hx).symm)).symm, x2⟩
      · have d : x = y := by simpa using d
        exact ⟨i + 1, ⟨rfl, rfl, slot_inc (by omega), trivial⟩, ⟨⟨by omega, fun j hj => by rcases Nat.lt_succ_iff_lt_or_eq.1 hj with h | rfl; exact he j h; rw [hx, hy, d]⟩, x2⟩, by show l.length - (i + 1) < l.length - i; omega⟩
    · have hge : ¬ (i : Int) < l.length := of_decide_eq_false hge
      refine ⟨(), trivial, List.ext_getElem? fun j => ?_, x2⟩
      by_cases hj : j < i
      · exact he j hj
      · rw [List.getElem?_eq_none (by omega), List.getElem?_eq_none (by omega)]
  · rintro _ h2 ⟨rfl, x2⟩
    exact ⟨congrArg Value.bool (decide_eq_true rfl).symm, x2⟩
theorem fixVlans_nice {P tries ring normal short : Int} {s : Sz} {vls : List Vl} (wf : ∀ v ∈ vls, SetWf v.mem ∧ SetWf v.unt) : Nice (fixPl P s tries ring normal short) (newM (fixPl P s tries ring normal short) (fixVlans P vls)) :=
  nice_new (fixPl_ok ..) (fun v hv => fixVl_wf _ _ (fun v hv => wf v (List.mem_of_mem_take hv)) v hv) (fixVlans_len P vls) (fixVl_nodup _ _)
def opZ (kind port to vid state : Int) : Op17 := ⟨kind, port, to, vid, state, 0, 0, 0, 0, 0, 0, 0, 0, 0⟩
theorem opZ_wf (kind port to vid state : Int) : (opZ kind port to vid state).Wf := by
  refine ⟨⟨?_, ?_, ?_, ?_⟩, ⟨?_, ?_⟩, ⟨?_, ?_⟩, ?_, ?_⟩ <;> simp [opZ]
def toldP : Pl := fixPl 0 ⟨0, 0, 0⟩ 0 0 0 0
def toldM : Md := newM toldP (fixVlans 0 [⟨0, 2, 0⟩])
theorem told17_1 : (do17 toldP toldM (opZ 8 1 0 0 4)).2 = 1 := by decide +kernel
theorem told17_2 : (do17 toldP (do17 toldP toldM (opZ 8 1 0 0 4)).1 (opZ 12 0 1 1 0)).2 = 3 := by decide +kernel
theorem told17_3 : (do17 toldP (do17 toldP toldM (opZ 8 1 0 0 4)).1 (opZ 12 0 0 1 0)).2 = 0 := by decide +kernel
theorem told17_4 : (do17 toldP (do17 toldP toldM (opZ 8 1 0 0 4)).1 (opZ 13 0 0 0 0)).2 = -1 := by decide +kernel
theorem told17_5 {x : Op17} (h : x.kind = 12 ∨ x.kind = 13) (p : Pl) (M : Md) : (do17 p M x).1 = M := by
  refine ite_q (Q := fun m : Md => m = M) (α := Md) (β := Int) (fun _ => rfl) fun _ => ?_
  rw [if_neg (by omega), if_neg (by omega), if_neg (by omega), if_neg (by omega), if_neg (by omega), if_neg (by omega), if_neg (by omega), if_neg (by omega), if_neg (by omega), if_neg (by omega), if_neg (by omega), if_neg (by omega)]
  split <;> rfl
end
end Go.Proofs.YtjjempefncgfhaaGreatDoorE
/- What the laws ModelQueues and ModelStands answer: yes. Conditions: the arguments are of their types. -/
set_option linter.unusedVariables false
set_option linter.unusedSimpArgs false
set_option maxRecDepth 100000
namespace Go.Proofs.YtjjempefncgfhaaGreatDoorE
open Go Go.Proofs
section
variable {tM tS tV tB tT tP : TypeId} {base : Nat} {F : Nat → Prop} {h h' : Heap} {m : Nat} {D : Dat} {p : Pl} {M : Md}
theorem MdAt.frX {X : Nat → Prop} (H : MdAt tM tS tV tB tT tP base F h m D p M) (f : Fr X h h') (oM : Off X h tM) (oS : Off X h tS) (oV : Off X h tV) (oB : Off X h tB) (oT : Off X h tT) (oP : Off X h tP) (hmb : ¬ X D.mb) (hF : ∀ b, F b → ¬ X b) : MdAt tM tS tV tB tT tP base F h' m D p M := by
  obtain ⟨es, ⟨E, cl, hb, r⟩, hq⟩ := H.queues
  exact ⟨H.ge, H.geF, fun b hb => let ⟨c, g, e⟩ := H.tyF b hb; ⟨c, g, f.blk e (hF b hb)⟩, H.geM, f.blk H.blk (oM.not H.blk), H.stands.frT f oS, H.vlans.frT f oV, H.book.frT f oB oT oP, es, ⟨E, cl, f.blk hb hmb, r⟩, hq.fr f hF⟩
/-- A list of one's own beside a model. -/
theorem MdAt.notX (H : MdAt tM tS tV tB tT tP base F h m D p M) (h1 : tS ≠ 3) (h2 : tV ≠ 3) (h3 : tT ≠ 3) {b' c : Nat} {C : Option Addr} {l : List Int} (o : OwnA encI 1 3 b' h C c l) (hF : ∀ b, C = some ⟨b, 0, none⟩ → ¬ F b) : ∀ b, C = some ⟨b, 0, none⟩ → ¬ D.X F b := by
  rintro b rfl hk
  obtain ⟨cx, hc⟩ := own_blk o
  rcases hk with rfl | hk | rfl | rfl | hk
  · obtain ⟨cy, hy⟩ := own_blk H.stands
    exact h1 (ty_eq hy hc)
  · have := H.vlans
    rw [hk] at this
    obtain ⟨cy, hy⟩ := own_blk this
    exact h2 (ty_eq hy hc)
  · obtain ⟨_, cy, hy⟩ := H.book.table
    exact h3 (ty_eq hy hc)
  · exact H.mapNe hc rfl
  · exact hF _ rfl hk
theorem MdAt.keepA (H : MdAt tM tS tV tB tT tP base F h m D p M) (h0 : tM ≠ 3) (h1 : tS ≠ 3) (h2 : tV ≠ 3) (h3 : tT ≠ 3) (h4 : tB ≠ 3) (h5 : tP ≠ 3) {b' c : Nat} {C : Option Addr} {l : List Int} (o : OwnA encI 1 3 b' h C c l) (hF : ∀ b, C = some ⟨b, 0, none⟩ → ¬ F b) (k : KeepA C h h') : MdAt tM tS tV tB tT tP base F h' m D p M := by
  have off : ∀ T : TypeId, T ≠ 3 → Off (fun k => C = some ⟨k, 0, none⟩) h T := by
    rintro T hT k c e g rfl hk
    obtain ⟨cx, hc⟩ := own_blk o
    rw [ty_eq hk hc]
    exact hT.symm
  refine H.frX (k.fr' (X := fun k => C = some ⟨k, 0, none⟩) fun _ e => e) (off _ h0) (off _ h1) (off _ h2) (off _ h4) (off _ h3) (off _ h5) ?_ fun b hb e => hF b e hb
  rintro rfl
  obtain ⟨cx, hc⟩ := own_blk o
  exact H.mapNe hc rfl
end
section
variable {base : Nat} {F : Nat → Prop} {h h1 h' : Heap} {m : Nat} {D : Dat} {p : Pl} {M M' : Md}
theorem modp_eq (x N : Int) (h1 : 1 ≤ N) (h2 : N ≤ 64) : IntKind.i64.wrap ((IntKind.u64.wrap x).tmod (IntKind.u64.wrap N)) = x % 18446744073709551616 % N := by
  have h3 := Int.emod_lt_of_pos (x % 18446744073709551616) (show 0 < N by omega)
  have h4 := Int.emod_nonneg (x % 18446744073709551616) (show N ≠ 0 by omega)
  rw [IntKind.wrap_u64, IntKind.wrap_u64, Int.emod_eq_of_lt (show 0 ≤ N by omega) (by omega), Int.tmod_eq_emod_of_nonneg (by omega), wrap_i64 (by omega) (by omega)]
end
end Go.Proofs.YtjjempefncgfhaaGreatDoorE
