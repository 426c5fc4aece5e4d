/- What is said of a report hangs on what it tells alone, not on where it stands. Conditions: none. -/
import Derived.Test.YtcjoenkpibhmoaaGreatXJ5
set_option linter.unusedVariables false
set_option linter.unusedSimpArgs false
namespace Go.Proofs.YtcjoenkpibhmoaaGreatE
open Go
def eraC (c : Cm) : Cm := ⟨c.port, 0, none, c.n, 0, c.bs⟩
def eraD (d : Dn) : Dn := ⟨d.id, d.why, 0, 0, d.found, none, 0, 0, none, 0, 0⟩
def eraO (o : Ot) : Ot := ⟨o.id, o.frm, o.to, o.mark, none, o.n, 0, o.bs⟩
def eraR (x : Cr) : Cr := ⟨none, x.n, 0, x.l⟩
def era (r : Rp) : Rp := ⟨r.ports, .nilIface, .nilIface, .nilIface, .nilIface, .nilIface, .nilIface, .nilIface, .nilIface, .nilIface, none, r.ln, 0, r.log, none, r.cn, 0, r.came.map eraC, none, r.dn, 0, r.don.map eraD, none, r.on, 0, r.outs.map eraO, none, r.kn, 0, r.cnts.map eraR⟩
theorem era_cameM (r : Rp) (id : Int) : cameM (era r) id = cameM r id := rfl
theorem era_cameAt (r : Rp) (id : Int) : cameAt (era r) id = (cameAt r id).map eraC := by
  unfold cameAt
  split
  · show (r.came.map eraC)[id.toNat]? = _
    rw [List.getElem?_map]
  · rfl
theorem era_find (l : List Dn) (id : Int) : findD (l.map eraD) id = (findD l id).map eraD := by
  unfold findD
  rw [List.find?_map]; rfl
theorem era_stranger (r : Rp) (o : Ot) : strangerM (era r) (eraO o) = strangerM r o := by
  unfold strangerM
  rw [show (eraO o).id = o.id from rfl, era_cameAt]
  cases cameAt r o.id <;> rfl
theorem era_refused (r : Rp) (o : Ot) : refusedM (era r) (eraO o) = refusedM r o := by
  unfold refusedM
  rw [show (eraO o).id = o.id from rfl, show (era r).don = r.don.map eraD from rfl, era_find]
  cases findD r.don o.id <;> rfl
theorem era_found (r : Rp) (o : Ot) : foundM (era r) (eraO o) = foundM r o := by
  unfold foundM
  rw [show (eraO o).id = o.id from rfl, show (era r).don = r.don.map eraD from rfl, era_find]
  cases findD r.don o.id <;> rfl
theorem era_bytes (r : Rp) (o : Ot) : bytesM (era r) (eraO o) = bytesM r o := by
  unfold bytesM
  rw [show sendQ (eraO o) = sendQ o from rfl, show (era r).log = r.log from rfl, show (eraO o).id = o.id from rfl, era_cameAt]
  cases r.log.find? (sendQ o) with
  | none => rfl
  | some e =>
    simp only
    split
    · rfl
    · cases cameAt r o.id <;> rfl
theorem era_any (l : List Ot) (P Q : Ot → Bool) (h : ∀ x, P (eraO x) = Q x) : (l.map eraO).any P = l.any Q := by
  rw [List.any_map]
  congr 1
  funext x
  exact h x
theorem era_wrong (r : Rp) (w i : Nat) : wrongM (era r) w i = wrongM r w i := by
  unfold wrongM
  rw [show (era r).outs = r.outs.map eraO from rfl, List.getElem?_map]
  cases r.outs[i]? with
  | none => rfl
  | some o =>
    show wrongO (era r) (eraO o) w i = wrongO r o w i
    unfold wrongO
    split
    · exact era_stranger r o
    · rfl
    · exact era_refused r o
    · exact era_found r o
    · show ((r.outs.map eraO).take i).any (twiceM (eraO o)) = _
      rw [← List.map_take]
      exact era_any _ _ _ fun x => rfl
    · show ((r.outs.map eraO).take i).any (orderQ (eraO o)) = _
      rw [← List.map_take]
      exact era_any _ _ _ fun x => rfl
    · exact era_bytes r o
theorem era_pair (r : Rp) (c : Cn) (a b : Int) : pairM (era r) c a b = pairM r c a b := by
  unfold pairM
  rw [show (era r).log = r.log from rfl, show (era r).ln = r.ln from rfl, show (era r).on = r.on from rfl, show (era r).ports = r.ports from rfl]
  have : cnt (kSent a b) (era r).outs r.on = cnt (kSent a b) r.outs r.on := by
    unfold cnt
    rw [show (era r).outs = r.outs.map eraO from rfl, ← List.map_take, List.countP_map]
    rfl
  rw [this]
theorem era_pairAt (r : Rp) (a b : Nat) : pairAt (era r) a b = pairAt r a b := by
  unfold pairAt
  rw [show (era r).cnts = r.cnts.map eraR from rfl, List.getElem?_map]
  cases r.cnts[a]? with
  | none => rfl
  | some row =>
    simp only [Option.map_some]
    rw [show (eraR row).l = row.l from rfl]
    cases row.l[b]? with
    | none => rfl
    | some c => exact era_pair r c a b
theorem era_square (r : Rp) : squareM (era r) = squareM r := by
  unfold squareM
  rw [show (era r).cnts = r.cnts.map eraR from rfl, List.any_map]
  rfl
theorem era_all (r : Rp) : allCM (era r) = allCM r := by
  unfold allCM
  rw [era_square, show (era r).ports = r.ports from rfl]
  simp only [era_pairAt]
theorem era_judge (r : Rp) (hw : Nat) : judgeM (era r) hw = judgeM r hw := by
  have e1 : rulesW (era r) = rulesW r := by
    unfold rulesW
    rw [show (era r).on = r.on from rfl]
    congr 1
    funext w
    congr 1
    funext i
    exact era_wrong r w i
  have e2 : idsD (era r) = idsD r := by
    unfold idsD
    rw [show (era r).don = r.don.map eraD from rfl, List.map_map]; rfl
  unfold judgeM
  rw [e1, e2, era_all, show (era r).cn = r.cn from rfl]
theorem judge_same {r r' : Rp} (h : era r = era r') (hw : Nat) : judgeM r hw = judgeM r' hw := by
  rw [← era_judge r, h, era_judge]
theorem hist_nil {p : Pl} {M : Md} {w : Nat} (h : HistW p M [] w) : w = 0 := by
  obtain ⟨O, L, O', h1, h2, h3, rfl⟩ := h
  have e1 : O = [] := List.length_eq_zero_iff.1 (by have := h1.len; simpa using this)
  have e2 : L = [] := List.length_eq_zero_iff.1 (by have := h2.len; simpa using this)
  subst e1; subst e2
  have e3 : O' = [] := List.length_eq_zero_iff.1 (by have := h3.len; simpa using this)
  subst e3
  rfl
def cn0 : Cn := ⟨0, 0, 0, 0, 0, 0⟩
def toldR1 : Rp := ⟨2, .nilIface, .nilIface, .nilIface, .nilIface, .nilIface, .nilIface, .nilIface, .nilIface, .nilIface, none, 0, 0, [], none, 0, 0, [], none, 0, 0, [], none, 0, 0, [], none, 2, 0, [⟨none, 2, 0, [cn0, cn0]⟩, ⟨none, 2, 0, [cn0, cn0]⟩]⟩
def toldR2 : Rp := ⟨2, .nilIface, .nilIface, .nilIface, .nilIface, .nilIface, .nilIface, .nilIface, .nilIface, .nilIface, none, 0, 0, [], none, 1, 0, [⟨0, 0, none, 0, 0, []⟩], none, 0, 0, [], none, 1, 0, [⟨0, 0, 0, 1, none, 0, 0, []⟩], none, 2, 0, [⟨none, 2, 0, [cn0, cn0]⟩, ⟨none, 2, 0, [cn0, cn0]⟩]⟩
theorem told_judge1 : judgeM toldR1 0 = 0 := by decide +kernel
theorem told_judge2 : judgeM toldR2 0 = 6 := by decide +kernel
/-! ### Lists of the call's own, while others are written -/
section
variable {α β : Type} {enc : α → List Value} {enc' : β → List Value} {sz sz' : Nat} {T T' : TypeId} {base base' : Nat} {h h' : Heap} {A A' : Option Addr} {c c' : Nat} {xs : List α} {ys : List β}
theorem OwnA.keepT (o : OwnA enc sz T base h A c xs) (p : OwnA enc' sz' T' base' h A' c' ys) (k : KeepA A' h h') (ne : T ≠ T') : OwnA enc sz T base h' A c xs := by
  rcases o with ⟨a, b, d⟩ | ⟨b, rest, rfl, hg, hb, hr, hc⟩
  · exact .inl ⟨a, b, d⟩
  · refine .inr ⟨b, rest, rfl, hg, k.blk hb fun e => ?_, hr, hc⟩
    rcases p with ⟨e', _, _⟩ | ⟨b2, rest2, e', _, hb2, _, _⟩
    · rw [e'] at e; cases e
    · rw [e'] at e; cases e
      rw [hb] at hb2
      injection hb2 with e1
      injection e1 with _ e2
      exact ne e2
theorem OwnA.storeT {a : Addr} {vs : List Value} {cs : Array Value} {f : Nat × Nat} (o : OwnA enc sz T base h A c xs) (s : Stored h a vs h') (hb0 : h[a.block]? = some (.cells cs T' f)) (ne : T ≠ T') : OwnA enc sz T base h' A c xs :=
  o.other s fun b e w => by
    rcases o with ⟨e', _, _⟩ | ⟨b2, rest2, e', _, hb2, _, _⟩
    · rw [e'] at e; cases e
    · rw [e'] at e; cases e
      subst w
      rw [hb0] at hb2
      injection hb2 with e1
      injection e1 with _ e2
      exact ne e2.symm
theorem OwnA.blkKeep {b : Nat} (p : OwnA enc' sz' T' base' h A' c' ys) (k : KeepA A' h h') {cs : Array Value} {f : Nat × Nat} (hb : h[b]? = some (.cells cs T f)) (ne : T ≠ T') : h'[b]? = some (.cells cs T f) := by
  refine k.blk hb fun e => ?_
  rcases p with ⟨e', _, _⟩ | ⟨b2, rest2, e', _, hb2, _, _⟩
  · rw [e'] at e; cases e
  · rw [e'] at e; cases e
    rw [hb] at hb2
    injection hb2 with e1
    injection e1 with _ e2
    exact ne e2
end
end Go.Proofs.YtcjoenkpibhmoaaGreatE
