/- The plain laws behind BookKnows and BookApart. Conditions: none. -/
import Derived.Test.YtgiofdiifkahoaaGreatXM11
set_option linter.unusedVariables false
set_option linter.unusedSimpArgs false
namespace Go.Proofs.YtgiofdiifkahoaaGreatE
open Go
def Pn (l : List Place) : Prop := ∀ p ∈ l, 0 ≤ p.port
theorem pn_clean {l : List Place} (h : Pn l) : Pn (l.map cleanP) := by
  intro p hp
  obtain ⟨q, hq, rfl⟩ := List.mem_map.1 hp
  unfold cleanP
  split
  · exact h q hq
  · exact Int.le_refl 0
theorem pn_set {l : List Place} {i : Nat} {e : Place} (h : Pn l) (he : 0 ≤ e.port) : Pn (l.set i e) := fun p hp => (List.mem_or_eq_of_mem_set hp).elim (h p) (fun e' => e' ▸ he)
theorem pn_put {l : List Place} {e : Place} {now : Int} (h : Pn l) (he : 0 ≤ e.port) : Pn (putM l e now).1 := by
  unfold putM
  split
  · exact pn_set h he
  · exact h
theorem pn_learn {l : List Place} (h : Pn l) (vid mac port now : Int) : Pn (learnM l vid mac port now).1 := by
  have hc := pn_clean h
  unfold learnM
  simp only
  split
  · exact hc
  · rename_i hm
    have hm := may_port (by simpa using hm)
    split
    · exact pn_put hc hm.1
    · split
      · exact hc
      · exact pn_set hc hm.1
theorem pn_order {l : List Place} (h : Pn l) (vid mac port now : Int) : Pn (orderM l vid mac port now).1 := by
  have hc := pn_clean h
  unfold orderM
  simp only
  split
  · exact hc
  · rename_i hm
    have hm := may_port (by simpa using hm)
    split
    · exact pn_put hc hm.1
    · split
      · exact hc
      · exact pn_set hc hm.1
theorem pn_drop {l : List Place} (h : Pn l) (vid mac : Int) : Pn (dropM l vid mac).1 := by
  have hc := pn_clean h
  unfold dropM
  simp only
  split
  · exact hc
  · split
    · exact hc
    · exact pn_set hc (Int.le_refl 0)
theorem pn_without {l : List Place} (h : Pn l) (gone : Place → Bool) : Pn (withoutM gone l).1 := by
  intro p hp
  obtain ⟨q, hq, rfl⟩ := List.mem_map.1 hp
  split
  · exact Int.le_refl 0
  · exact pn_clean h q hq
def Pns (L : List (List Place)) : Prop := ∀ l ∈ L, Pn l
theorem pns_get {L : List (List Place)} (h : Pns L) (i : Nat) : Pn (L.getD i []) := by
  rw [List.getD_eq_getElem?_getD]
  cases hi : L[i]? with
  | none => intro p hp; cases hp
  | some w => exact h w (List.mem_of_getElem? hi)
theorem pns_upd {β : Type} {L : List (List Place)} {i : Int} {f : List Place → List Place × β} (h : Pns L) (hf : ∀ l, Pn l → Pn (f l).1) : Pns (updB L i f).1 := fun l hl => (List.mem_or_eq_of_mem_set hl).elim (h l) (fun e => e ▸ hf _ (pns_get h _))
theorem pns_do {s : Sz} {L : List (List Place)} (h : Pns L) (x : OpR) : Pns (doB s L x).1 := by
  unfold doB
  split
  · exact h
  split
  · exact pns_upd h fun l hl => pn_order hl _ _ _ _
  split
  · exact pns_upd h fun l hl => pn_drop hl _ _
  split
  · unfold ageB
    split
    · exact h
    · exact pns_upd h fun l hl => pn_without hl _
  split
  · intro l hl
    obtain ⟨q, hq, rfl⟩ := List.mem_map.1 hl
    exact pn_without (h q hq) _
  · exact pns_upd h fun l hl => pn_learn hl _ _ _ _
theorem pns_new (n m : Nat) : Pns (List.replicate n (List.replicate m Place.none)) := by
  intro l hl p hp
  obtain ⟨_, rfl⟩ := List.mem_replicate.1 hl
  obtain ⟨_, rfl⟩ := List.mem_replicate.1 hp
  exact Int.le_refl 0
theorem findN_skip {vid mac : Int} : ∀ {l : List Place} {k m : Nat} {e : Place}, (∀ p ∈ l, hasKey vid mac p = false) → m < l.length → hasKey vid mac e = true → findN vid mac (l.set m e) k = ((k + m : Nat) : Int)
  | [], _, _, _, _, hm, _ => by simp at hm
  | q :: qs, k, 0, e, _, _, he => by simp [findN, he]
  | q :: qs, k, m + 1, e, h, hm, he => by
    simp only [List.set_cons_succ, findN, h q (by simp)]
    rw [if_neg (by simp), findN_skip (fun p hp => h p (by simp [hp])) (by simpa using hm) he]
    congr 1
    omega
theorem findN_none' {vid mac : Int} : ∀ {xs : List Place} {k : Nat}, findN vid mac xs k = -1 → ∀ p ∈ xs, hasKey vid mac p = false
  | [], _, _ => by simp
  | q :: qs, k, h => by
    simp only [findN] at h
    split at h
    · omega
    · rename_i hq
      intro p hp
      rcases List.mem_cons.1 hp with rfl | hp
      · simpa using hq
      · exact findN_none' h p hp
theorem findN_first {vid mac : Int} : ∀ {l : List Place} {k j : Nat} {e : Place}, findN vid mac l k = ((k + j : Nat) : Int) → hasKey vid mac e = true → findN vid mac (l.set j e) k = ((k + j : Nat) : Int)
  | [], k, j, _, h, _ => by simp [findN] at h; omega
  | q :: qs, k, 0, e, _, he => by simp [findN, he]
  | q :: qs, k, j + 1, e, h, he => by
    simp only [findN] at h
    split at h
    · omega
    · rename_i hq
      simp only [List.set_cons_succ, findN]
      rw [if_neg hq]
      have e1 : ((k + (j + 1) : Nat) : Int) = ((k + 1 + j : Nat) : Int) := by omega
      rw [e1] at h ⊢
      exact findN_first h he
theorem look_at {vid mac : Int} {l : List Place} {j : Nat} {w : Place} (h : findN vid mac l 0 = j) (hw : l[j]? = some w) : lookM l vid mac = w.port := by
  rw [lookM, h, if_neg (by omega), Int.toNat_natCast, List.getD_eq_getElem?_getD, hw]; rfl
/-- Of one bucket: whoever is learned is known at that port, unless there is no room or it was ordered. -/
theorem knows_bucket {l : List Place} (hc : Cl l) (hp : Pn l) {vid mac port now : Int} (hm : mayM vid mac port = true) {was did now' : Int} (h1 : was = lookM l vid mac) (h2 : did = (learnM l vid mac port now).2) (h3 : now' = lookM (learnM l vid mac port now).1 vid mac) :
    (did = 5 → was = -1 ∧ now' = -1) ∧ (did = 0 → now' = was ∧ was ≥ 0) ∧ (did = 1 → now' = port ∧ was = port) ∧ (did = 2 → now' = port ∧ was ≥ 0 ∧ was ≠ port) ∧ (did ≠ 5 → did ≠ 0 → did ≠ 1 → did ≠ 2 → now' = port ∧ was = -1 ∧ (did = 3 ∨ did = 4)) := by
  have ec := cl_eq hc
  rcases findN_range (vid := vid) (mac := mac) l 0 with hf | ⟨hf0, hf1⟩
  · have hw : was = -1 := by rw [h1, lookM, if_pos (by omega)]
    have hnk := findN_none' hf
    rw [learnM_new hm (by rw [ec]; exact hf), ec] at h2 h3
    have hr := roomM_range l now
    have hcode : (0 ≤ (roomM l now).1 → (roomM l now).2 = 3 ∨ (roomM l now).2 = 4) ∧ ((roomM l now).1 < 0 → (roomM l now).2 = 5) := by
      have gen : ∀ (xs : List Place) (k : Nat) (best did g : Int), ((0 ≤ best → did = 4) ∧ (best < 0 → did = 5)) → (0 ≤ (roomP now xs k best did g).1 → (roomP now xs k best did g).2 = 3 ∨ (roomP now xs k best did g).2 = 4) ∧ ((roomP now xs k best did g).1 < 0 → (roomP now xs k best did g).2 = 5) := by
        intro xs
        induction xs with
        | nil => intro k best did g h; exact ⟨fun h1 => .inr (h.1 h1), h.2⟩
        | cons p ps ih =>
          intro k best did g h
          simp only [roomP]
          split
          · exact ⟨fun _ => .inl rfl, fun h1 => absurd h1 (by simp <;> omega)⟩
          · split
            · exact ih _ _ _ _ h
            · split
              · exact ih _ _ _ _ ⟨fun _ => rfl, fun h1 => absurd h1 (by omega)⟩
              · exact ih _ _ _ _ h
      exact gen l 0 (-1) 5 0 ⟨fun h => absurd h (by omega), fun _ => rfl⟩
    unfold putM at h2 h3
    by_cases hge : 0 ≤ (roomM l now).1
    · rw [if_pos hge] at h2 h3
      have hk : hasKey vid mac ⟨true, vid, mac, port, false, now⟩ = true := by simp [hasKey]
      have hlt : (roomM l now).1.toNat < l.length := by omega
      have hn : now' = port := by
        have := findN_skip (k := 0) hnk hlt hk
        rw [h3]
        exact look_at (by rw [this, Nat.zero_add]) (List.getElem?_set_self hlt)
      have hd := hcode.1 hge
      simp only at h2
      refine ⟨by omega, by omega, by omega, by omega, fun _ _ _ _ => ⟨hn, hw, by omega⟩⟩
    · rw [if_neg hge] at h2 h3
      have hd := hcode.2 (by omega)
      simp only at h2 h3
      have hn : now' = -1 := by rw [h3, lookM, if_pos (by omega)]
      refine ⟨fun _ => ⟨hw, hn⟩, by omega, by omega, by omega, by omega⟩
  · obtain ⟨j, hj⟩ : ∃ j : Nat, findN vid mac l 0 = j := ⟨(findN vid mac l 0).toNat, by omega⟩
    obtain ⟨w, hw, hk⟩ := findN_hit _ _ _ hj
    rw [Nat.sub_zero] at hw
    have hwas : was = w.port := by rw [h1]; exact look_at hj hw
    have h0 := hp w (List.mem_of_getElem? hw)
    rw [learnM_hit hm (by rw [ec]; exact hj) (by rw [ec]; exact hw), ec] at h2 h3
    by_cases hs : w.static = true
    · rw [if_pos hs] at h2 h3
      simp only at h2 h3
      have hn : now' = w.port := by rw [h3]; exact look_at hj hw
      refine ⟨by omega, by omega, by omega, by omega, by omega⟩
    · rw [if_neg hs] at h2 h3
      simp only at h2 h3
      have hlt : j < l.length := by omega
      have hk' : hasKey vid mac { w with port := port, stamp := now } = true := by simpa [hasKey] using hk
      have hn : now' = port := by
        have := findN_first (k := 0) (j := j) (l := l) (by rw [hj, Nat.zero_add]) hk'
        rw [h3]
        exact look_at (by rw [this, Nat.zero_add]) (List.getElem?_set_self hlt)
      by_cases hpt : w.port = port
      · by_cases hst : w.stamp = now
        · rw [if_neg (by simpa using hpt), if_neg (by simpa using hst)] at h2
          refine ⟨by omega, by omega, by omega, by omega, by omega⟩
        · rw [if_neg (by simpa using hpt), if_pos hst] at h2
          refine ⟨by omega, by omega, by omega, by omega, by omega⟩
      · rw [if_pos hpt] at h2
        refine ⟨by omega, by omega, by omega, by omega, by omega⟩
/-- What is done to a key changes nothing but its bucket. -/
theorem apart_do {s : Sz} {L : List (List Place)} {x : OpR} (h5 : x.k ≠ 5) (h6 : x.k ≠ 6) {i : Nat} (hi : (i : Int) ≠ ixM s x.vid x.mac) (h0 : 0 ≤ ixM s x.vid x.mac) : (doB s L x).1[i]? = L[i]? := by
  have hu : ∀ {β : Type} (f : List Place → List Place × β), (updB L (ixM s x.vid x.mac) f).1[i]? = L[i]? := by
    intro β f
    unfold updB
    rw [List.getElem?_set_ne (by omega)]
  unfold doB
  rw [if_neg h5, if_neg h6]
  split
  · rfl
  split
  · exact hu _
  split
  · exact hu fun l => dropM l x.vid x.mac
  · exact hu _
theorem knows_book {s : Sz} (o : s.Ok) {L : List (List Place)} (B : Bok s L) (hc : Cls L) (hp : Pns L) {vid mac port now : Int} (hm : mayM vid mac port = true) {was did now' : Int} (h1 : lookB s L vid mac = was) (h2 : (learnB s L vid mac port now).2 = did) (h3 : lookB s (learnB s L vid mac port now).1 vid mac = now') :
    (did = 5 → was = -1 ∧ now' = -1) ∧ (did = 0 → now' = was ∧ was ≥ 0) ∧ (did = 1 → now' = port ∧ was = port) ∧ (did = 2 → now' = port ∧ was ≥ 0 ∧ was ≠ port) ∧ (did ≠ 5 → did ≠ 0 → did ≠ 1 → did ≠ 2 → now' = port ∧ was = -1 ∧ (did = 3 ∨ did = 4)) := by
  have r := ixM_range o vid mac
  obtain ⟨k, l, hk, hkl, hl, hgd, _, _⟩ := B.get r.1 r.2
  have hm' := List.mem_of_getElem? hl
  have hu : learnB s L vid mac port now = (L.set k (learnM l vid mac port now).1, (learnM l vid mac port now).2) := by rw [learnB, hk]; exact updB_at hl _
  rw [hu] at h2 h3
  refine knows_bucket (hc l hm') (hp l hm') (now := now) hm ?_ h2.symm ?_
  · rw [← h1, lookB, hgd]
  · rw [← h3, lookB, hk, Int.toNat_natCast, List.getD_eq_getElem?_getD, List.getElem?_set_self hkl]; rfl
/-- What is known of a book throughout. -/
structure Good (s : Sz) (L : List (List Place)) : Prop where
  bok : Bok s L
  cls : Cls L
  pns : Pns L
theorem good_new {s : Sz} (o : s.Ok) : Good s (List.replicate (s.sh * s.bk).toNat (List.replicate s.sl.toNat Place.none)) := ⟨bok_new o, cls_new _ _, pns_new _ _⟩
theorem good_do {s : Sz} (o : s.Ok) {L : List (List Place)} (g : Good s L) {x : OpR} (w : x.Wf) : Good s (doB s L x).1 := ⟨bok_do o g.bok w, cls_do g.cls x, pns_do g.pns x⟩
end Go.Proofs.YtgiofdiifkahoaaGreatE
