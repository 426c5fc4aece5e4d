/- The plain laws behind BookKnows and BookApart. Conditions: none. -/
import Derived.Test.YtjjempefncgfhaaGreatDoorXM11
set_option linter.unusedVariables false
set_option linter.unusedSimpArgs false
namespace Go.Proofs.YtjjempefncgfhaaGreatDoorE
open Go
def Pn (l : List Place) : Prop := ∀ p ∈ l, 0 ≤ p.port
theorem pn_clean {l : List Place} (h : Pn l) : Pn (l.map cleanP) := by
  intro p hp
  obtain ⟨q, hq, rfl⟩ := List.mem_map.1 hp
  unfold cleanP
  split
  · exact h q hq
  · exact Int.le_refl 0
theorem pn_set {l : List Place} {i : Nat} {e : Place} (h : Pn l) (he : 0 ≤ e.port) : Pn (l.set i e) := fun p hp => (List.mem_or_eq_of_mem_set hp).elim (h p) (fun e' => e' ▸ he)
theorem pn_put {l : List Place} {e : Place} {now : Int} (h : Pn l) (he : 0 ≤ e.port) : Pn (putM l e now).1 := by
  unfold putM
  split
  · exact pn_set h he
  · exact h
theorem pn_learn {l : List Place} (h : Pn l) (vid mac port now : Int) : Pn (learnM l vid mac port now).1 := by
  have hc := pn_clean h
  unfold learnM
  simp only
  split
  · exact hc
  · rename_i hm
    have hm := may_port (by simpa using hm)
    split
    · exact pn_put hc hm.1
    · split
      · exact hc
      · exact pn_set hc hm.1
theorem pn_order {l : List Place} (h : Pn l) (vid mac port now : Int) : Pn (orderM l vid mac port now).1 := by
  have hc := pn_clean h
  unfold orderM
  simp only
  split
  · exact hc
  · rename_i hm
    have hm := may_port (by simpa using hm)
    split
    · exact pn_put hc hm.1
    · split
      · exact hc
      · exact pn_set hc hm.1
theorem pn_drop {l : List Place} (h : Pn l) (vid mac : Int) : Pn (dropM l vid mac).1 := by
  have hc := pn_clean h
  unfold dropM
  simp only
  split
  · exact hc
  · split
    · exact hc
    · exact pn_set hc (Int.le_refl 0)
theorem pn_without {l : List Place} (h : Pn l) (gone : Place → Bool) : Pn (withoutM gone l).1 := by
  intro p hp
  obtain ⟨q, hq, rfl⟩ := List.mem_map.1 hp
  split
  · exact Int.le_refl 0
  · exact pn_clean h q hq
def Pns (L : List (List Place)) : Prop := ∀ l ∈ L, Pn l
theorem pns_get {L : List (List Place)} (h : Pns L) (i : Nat) : Pn (L.getD i []) := by
  rw [List.getD_eq_getElem?_getD]
  cases hi : L[i]? with
  | none => intro p hp; cases hp
  | some w => exact h w (List.mem_of_getElem? hi)
theorem pns_upd {β : Type} {L : List (List Place)} {i : Int} {f : List Place → List Place × β} (h : Pns L) (hf : ∀ l, Pn l → Pn (f l).1) : Pns (updB L i f).1 := fun l hl => (List.mem_or_eq_of_mem_set hl).elim (h l) (fun e => e ▸ hf _ (pns_get h _))
theorem pns_do {s : Sz} {L : List (List Place)} (h : Pns L) (x : OpR) : Pns (doB s L x).1 := by
  unfold doB
  split
  · exact h
  split
  · exact pns_upd h fun l hl => pn_order hl _ _ _ _
  split
  · exact pns_upd h fun l hl => pn_drop hl _ _
  split
  · unfold ageB
    split
    · exact h
    · exact pns_upd h fun l hl => pn_without hl _
  split
  · intro l hl
    obtain ⟨q, hq, rfl⟩ := List.mem_map.1 hl
    exact pn_without (h q hq) _
  · exact pns_upd h fun l hl => pn_learn hl _ _ _ _
theorem pns_new (n m : Nat) : Pns (List.replicate n (List.replicate m Place.none)) := by
  intro l hl p hp
  obtain ⟨_, rfl⟩ := List.mem_replicate.1 hl
  obtain ⟨_, rfl⟩ := List.mem_replicate.1 hp
  exact Int.le_refl 0
theorem findN_skip {vid mac : Int} : ∀ {l : List Place} {k m : Nat} {e : Place}, (∀ p ∈ l, hasKey vid mac p = false) → m < l.length → hasKey vid mac e = true → findN vid mac (l.set m e) k = ((k + m : Nat) : Int)
  | [], _, _, _, _, hm, _ => by simp at hm
  | q :: qs, k, 0, e, _, _, he => by simp [findN, he]
  | q :: qs, k, m + 1, e, h, hm, he => by
    simp only [List.set_cons_succ, findN, h q (by simp)]
    rw [if_neg (by simp), findN_skip (fun p hp => h p (by simp [hp])) (by simpa using hm) he]
    congr 1
    omega
theorem findN_none' {vid mac : Int} : ∀ {xs : List Place} {k : Nat}, findN vid mac xs k = -1 → ∀ p ∈ xs, hasKey vid mac p = false
  | [], _, _ => by simp
  | q :: qs, k, h => by
    simp only [findN] at h
    split at h
    · omega
    · rename_i hq
      intro p hp
      rcases List.mem_cons.1 hp with rfl | hp
      · simpa using hq
      · exact findN_none' h p hp
theorem findN_first {vid mac : Int} : ∀ {l : List Place} {k j : Nat} {e : Place}, findN vid mac l k = ((k + j : Nat) : Int) → hasKey vid mac e = true → findN vid mac (l.set j e) k = ((k + j : Nat) : Int)
  | [], k, j, _, h, _ => by simp [findN] at h; omega
  | q :: qs, k, 0, e, _, he => by simp [findN, he]
  | q :: qs, k, j + 1, e, h, he => by
    simp only [findN] at h
    split at h
    · omega
    · rename_i hq
      simp only [List.set_cons_succ, findN]
      rw [if_neg hq]
      have e1 : ((k + (j + 1) : Nat) : Int) = ((k + 1 + j : Nat) : Int) := by omega
      rw [e1] at h ⊢
      exact findN_first h he
theorem look_at {vid mac : Int} {l : List Place} {j : Nat} {w : Place} (h : findN vid mac l 0 = j) (hw : l[j]? = some w) : lookM l vid mac = w.port := by
  rw [lookM, h, if_neg (by omega), Int.toNat_natCast, List.getD_eq_getElem?_getD, hw]; rfl
/-- Of one bucket: whoever is learned is known at that port, unless there is no room or it was ordered. -/
theorem knows_bucket {l : List Place} (hc : Cl l) (hp : Pn l) {vid mac port now : Int} (hm : mayM vid mac port = true) {was did now' : Int} (h1 : was = lookM l vid mac) (h2 : did = (learnM l vid mac port now).2) (h3 : now' = lookM (learnM l vid mac port now).1 vid mac) :
    (did = 5 → was = -1 ∧ now' = -1) ∧ (did = 0 → now' = was ∧ was ≥ 0) ∧ (did = 1 → now' = port ∧ was = port) ∧ (did = 2 → now' = port ∧ was ≥ 0 ∧ was ≠ port) ∧ (did ≠ 5 → did ≠ 0 → did ≠ 1 → did ≠ 2 → now' = port ∧ was = -1 ∧ (did = 3 ∨ did = 4)) := by
  have ec := cl_eq hc
  rcases findN_range (vid := vid) (mac := mac) l 0 with hf | ⟨hf0, hf1⟩
  · have hw : was = -1 := by rw [h1, lookM, if_pos (by omega)]
    have hnk := findN_none' hf
    rw [learnM_new hm (by rw [ec]; exact hf), ec] at h2 h3
    have hr := roomM_range l now
    have hcode : (0 ≤ (roomM l now).1 → (roomM l now).2 = 3 ∨ (roomM l now).2 = 4) ∧ ((roomM l now).1 < 0 → (roomM l now).2 = 5) := by
      have gen : ∀ (xs : List Place) (k : Nat) (best did g : Int), ((0 ≤ best → did = 4) ∧ (best < 0 → did = 5)) → (0 ≤ (roomP now xs k best did g).1 → (roomP now xs k best did g).2 = 3 ∨ (roomP now xs k best did g).2 = 4) ∧ ((roomP now xs k best did g).1 < 0 → (roomP now xs k best did g).2 = 5) := by
        intro xs
        induction xs with
        | nil => intro k best did g h; exact ⟨fun h1 => .inr (h.1 h1), h.2⟩
        | cons p ps ih =>
          intro k best did g h
          simp only [roomP]
          split
          · exact ⟨fun _ => .inl rfl, fun h1 => absurd h1 (by simp <;> omega)⟩
          · split
            · exact ih _ _ _ _ h
            · split
              · exact ih _ _ _ _ ⟨fun _ => rfl, fun h1 => absurd h1 (by omega)⟩
              · exact ih _ _ _ _ h
      exact gen l 0 (-1) 5 0 ⟨fun h => absurd h (by omega), fun _ => rfl⟩
    unfold putM at h2 h3
    by_cases hge : 0 ≤ (roomM l now).1
    · rw [if_pos hge] at h2 h3
      have hk : hasKey vid mac ⟨true, vid, mac, port, false, now⟩ = true := by simp [hasKey]
      have hlt : (roomM l now).1.toNat < l.length := by omega
      have hn : now' = port := by
        have := findN_skip (k := 0) hnk hlt hk
        rw [h3]
        exact look_at (by rw [this, Nat.zero_add]) (List.getElem?_set_self hlt)
      have hd := hcode.1 hge
      simp only at h2
      refine ⟨by omega, by omega, by omega, by omega, fun _ _ _ _ => ⟨hn, hw, by omega⟩⟩
    · rw [if_neg hge] at h2 h3
      have hd := hcode.2 (by omega)
      simp only at h2 h3
      have hn : now' = -1 := by rw [h3, lookM, if_pos (by omega)]
      refine ⟨fun _ => ⟨hw, hn⟩, by omega, by omega, by omega, by omega⟩
  · obtain ⟨j, hj⟩ : ∃ j : Nat, findN vid mac l 0 = j := ⟨(findN vid mac l 0).toNat, by omega⟩
    obtain ⟨w, hw, hk⟩ := findN_hit _ _ _ hj
    rw [Nat.sub_zero] at hw
    have hwas : was = w.port := by rw [h1]; exact look_at hj hw
    have h0 := hp w (List.mem_of_getElem? hw)
    rw [learnM_hit hm (by rw [ec]; exact hj) (by rw [ec]; exact hw), ec] at h2 h3
    by_cases hs : w.static = true
    · rw [if_pos hs] at h2 h3
      simp only at h2 h3
      have hn : now' = w.port := by rw [h3]; exact look_at hj hw
      refine ⟨by omega, by omega, by omega, by omega, by omega⟩
    · rw [if_neg hs] at h2 h3
      simp only at h2 h3
      have hlt : j < l.length := by omega
      have hk' : hasKey vid mac { w with port := port, stamp := now } = true := by simpa [hasKey] using hk
      have hn : now' = port := by
        have := findN_first (k := 0) (j := j) (l := l) (by rw [hj, Nat.zero_add]) hk'
        rw [h3]
        exact look_at (by rw [this, Nat.zero_add]) (List.getElem?_set_self hlt)
      by_cases hpt : w.port = port
      · by_cases hst : w.stamp = now
        · rw [if_neg (by simpa using hpt), if_neg (by simpa using hst)] at h2
          refine ⟨by omega, by omega, by omega, by omega, by omega⟩
        · rw [if_neg (by simpa using hpt), if_pos hst] at h2
          refine ⟨by omega, by omega, by omega, by omega, by omega⟩
      · rw [if_pos hpt] at h2
        refine ⟨by omega, by omega, by omega, by omega, by omega⟩
/-- What is done to a key changes nothing but its bucket. -/
theorem apart_do {s : Sz} {L : List (List Place)} {x : OpR} (h5 : x.k ≠ 5) (h6 : x.k ≠ 6) {i : Nat} (hi : (i : Int) ≠ ixM s x.vid x.mac) (h0 : 0 ≤ ixM s x.vid x.mac) : (doB s L x).1[i]? = L[i]? := by
  have hu : ∀ {β : Type} (f : List Place → List Place × β), (updB L (ixM s x.vid x.mac) f).1[i]? = L[i]? := by
    intro β f
    unfold updB
    rw [List.getElem?_set_ne (by omega)]
  unfold doB
  rw [if_neg h5, if_neg h6]
  split
  · rfl
  split
  · exact hu _
  split
  · exact hu fun l => dropM l x.vid x.mac
  · exact hu _
theorem knows_book {s : Sz} (o : s.Ok) {L : List (List Place)} (B : Bok s L) (hc : Cls L) (hp : Pns L) {vid mac port now : Int} (hm : mayM vid mac port = true) {was did now' : Int} (h1 : lookB s L vid mac = was) (h2 : (learnB s L vid mac port now).2 = did) (h3 : lookB s (learnB s L vid mac port now).1 vid mac = now') :
    (did = 5 → was = -1 ∧ now' = -1) ∧ (did = 0 → now' = was ∧ was ≥ 0) ∧ (did = 1 → now' = port ∧ was = port) ∧ (did = 2 → now' = port ∧ was ≥ 0 ∧ was ≠ port) ∧ (did ≠ 5 → did ≠ 0 → did ≠ 1 → did ≠ 2 → now' = port ∧ was = -1 ∧ (did = 3 ∨ did = 4)) := by
  have r := ixM_range o vid mac
  obtain ⟨k, l, hk, hkl, hl, hgd, _, _⟩ := B.get r.1 r.2
  have hm' := List.mem_of_getElem? hl
  have hu : learnB s L vid mac port now = (L.set k (learnM l vid mac port now).1, (learnM l vid mac port now).2) := by rw [learnB, hk]; exact updB_at hl _
  rw [hu] at h2 h3
  refine knows_bucket (hc l hm') (hp l hm') (now := now) hm ?_ h2.symm ?_
  · rw [← h1, lookB, hgd]
  · rw [← h3, lookB, hk, Int.toNat_natCast, List.getD_eq_getElem?_getD, List.getElem?_set_self hkl]; rfl
/-- What is known of a book throughout. -/
structure Good (s : Sz) (L : List (List Place)) : Prop where
  bok : Bok s L
  cls : Cls L
  pns : Pns L
theorem good_new {s : Sz} (o : s.Ok) : Good s (List.replicate (s.sh * s.bk).toNat (List.replicate s.sl.toNat Place.none)) := ⟨bok_new o, cls_new _ _, pns_new _ _⟩
theorem good_do {s : Sz} (o : s.Ok) {L : List (List Place)} (g : Good s L) {x : OpR} (w : x.Wf) : Good s (doB s L x).1 := ⟨bok_do o g.bok w, cls_do g.cls x, pns_do g.pns x⟩
end Go.Proofs.YtjjempefncgfhaaGreatDoorE
/- Sets of ports as numbers, VLANs, and the document's model over lists. Conditions: none. -/
set_option linter.unusedVariables false
set_option linter.unusedSimpArgs false
namespace Go.Proofs.YtjjempefncgfhaaGreatDoorE
open Go
/-! ### Sets of ports -/
def hasM (s p : Int) : Bool := decide (0 ≤ p ∧ p < 64) && s.toNat.testBit p.toNat
def andM (a b : Int) : Int := ((a.toNat &&& b.toNat : Nat) : Int)
def allM (n : Int) : Int := if n ≤ 0 then 0 else if 64 ≤ n then 18446744073709551615 else 2 ^ n.toNat - 1
def withinM (a b : Int) : Bool := (a.toNat &&& b.toNat) == a.toNat
structure SetWf (s : Int) : Prop where
  lo : 0 ≤ s
  hi : s < 18446744073709551616
theorem andM_wf {a b : Int} (h : SetWf a) : SetWf (andM a b) := by
  unfold andM
  have h0 := h.lo
  have h1 := h.hi
  have : a.toNat &&& b.toNat ≤ a.toNat := Nat.and_le_left
  exact ⟨by omega, by omega⟩
theorem two_pow_lt {n : Nat} (h : n < 64) : (2 : Nat) ^ n < 18446744073709551616 := by
  have := Nat.pow_lt_pow_right (a := 2) (by omega) h
  simpa using this
theorem two_pow_le {n : Nat} (h : n < 64) : (2 : Nat) ^ n ≤ 9223372036854775808 := by
  have := Nat.pow_le_pow_right (n := 2) (by omega) (show n ≤ 63 by omega)
  simpa using this
theorem int_pow (n : Nat) : ((2 ^ n : Nat) : Int) = (2 : Int) ^ n := by simp
theorem allM_nat {n : Int} (h0 : 0 < n) (h1 : n < 64) : (allM n).toNat = 2 ^ n.toNat - 1 := by
  have : 0 < 2 ^ n.toNat := Nat.pow_pos (by omega)
  rw [allM, if_neg (by omega), if_neg (by omega), ← int_pow]
  omega
theorem allM_wf (n : Int) : SetWf (allM n) := by
  unfold allM
  split
  · exact ⟨by decide, by decide⟩
  · split
    · exact ⟨by decide, by decide⟩
    · have h1 : 0 < 2 ^ n.toNat := Nat.pow_pos (by omega)
      have h2 := two_pow_lt (n := n.toNat) (by omega)
      rw [← int_pow]
      exact ⟨by omega, by omega⟩
theorem allM_bit {n : Int} {p : Nat} (hp : p < 64) : (allM n).toNat.testBit p = decide ((p : Int) < n) := by
  by_cases h0 : n ≤ 0
  · have h2 : ¬ (p : Int) < n := by omega
    rw [allM, if_pos h0, decide_eq_false h2]; exact Nat.zero_testBit p
  by_cases h1 : 64 ≤ n
  · rw [allM, if_neg h0, if_pos h1]
    have e : (18446744073709551615 : Int).toNat = 2 ^ 64 - 1 := by decide
    rw [e, Nat.testBit_two_pow_sub_one, decide_eq_true hp, decide_eq_true (by omega)]
  · rw [allM_nat (by omega) (by omega), Nat.testBit_two_pow_sub_one]
    by_cases h : (p : Int) < n
    · rw [decide_eq_true h, decide_eq_true (by omega)]
    · rw [decide_eq_false h, decide_eq_false (by omega)]
/-- One bit more. -/
theorem mod_next (x p : Nat) : x % 2 ^ (p + 1) = if x.testBit p = true then x % 2 ^ p + 2 ^ p else x % 2 ^ p := by
  rw [Nat.pow_succ, Nat.mod_mul, Nat.testBit_eq_decide_div_mod_eq]
  have h2 : x / 2 ^ p % 2 = 0 ∨ x / 2 ^ p % 2 = 1 := by omega
  rcases h2 with h | h
  · rw [h]; simp
  · rw [h]; simp
theorem bit_low {x p : Nat} (h : x < 2 ^ p) : x.testBit p = false := Nat.testBit_lt_two_pow h
theorem sub_bits {a b : Nat} (ha : a < 2 ^ 64) : (a &&& b = a) ↔ ∀ p, p < 64 → a.testBit p = true → b.testBit p = true := by
  constructor
  · intro h p _ hp
    rw [← h, Nat.testBit_and] at hp
    simp at hp
    exact hp.2
  · intro h
    apply Nat.eq_of_testBit_eq
    intro p
    rw [Nat.testBit_and]
    by_cases hp : p < 64
    · cases ha' : a.testBit p with
      | false => simp
      | true => simp [h p hp ha']
    · have : a.testBit p = false := Nat.testBit_lt_two_pow (Nat.lt_of_lt_of_le ha (Nat.pow_le_pow_right (by omega) (by omega)))
      simp [this]
/-! ### VLANs, rules, stands -/
structure Vl where
  vid : Int
  mem : Int
  unt : Int
  deriving DecidableEq
def encVl (v : Vl) : List Value := [.int .i64 v.vid, .int .u64 v.mem, .int .u64 v.unt]
theorem encVl_len (v : Vl) : (encVl v).length = 3 := rfl
theorem encVl_one (v : Vl) : (encVl v).all Value.oneCell' = true := rfl
structure Vl.Wf (v : Vl) : Prop where
  vid0 : -9223372036854775808 ≤ v.vid
  vid1 : v.vid ≤ 9223372036854775807
  mem : SetWf v.mem
  unt : SetWf v.unt
structure Ru where
  pvid : Int
  acc : Int
def encRu (r : Ru) : List Value := [.int .i64 r.pvid, .int .i64 r.acc]
theorem encRu_len (r : Ru) : (encRu r).length = 2 := rfl
theorem encRu_one (r : Ru) : (encRu r).all Value.oneCell' = true := rfl
structure Stn where
  st : Int
  ep : Int
  deriving DecidableEq
def encSn (s : Stn) : List Value := [.int .i64 s.st, .int .u32 s.ep]
theorem encSn_len (s : Stn) : (encSn s).length = 2 := rfl
theorem encSn_one (s : Stn) : (encSn s).all Value.oneCell' = true := rfl
def encI (n : Int) : List Value := [.int .i64 n]
theorem encI_len (n : Int) : (encI n).length = 1 := rfl
theorem encI_one (n : Int) : (encI n).all Value.oneCell' = true := rfl
def findV (vid : Int) : List Vl → Nat → Int
  | [], _ => -1
  | v :: l, i => if v.vid = vid then (i : Int) else findV vid l (i + 1)
theorem findV_drop {vid : Int} {l : List Vl} {i : Nat} {v : Vl} (h : l[i]? = some v) : findV vid (l.drop i) i = if v.vid = vid then (i : Int) else findV vid (l.drop (i + 1)) (i + 1) := by
  obtain ⟨hi, rfl⟩ := List.getElem?_eq_some_iff.1 h
  rw [List.drop_eq_getElem_cons hi]
  rfl
theorem findV_range {vid : Int} : ∀ (l : List Vl) (i : Nat), findV vid l i = -1 ∨ ((i : Int) ≤ findV vid l i ∧ findV vid l i < i + l.length)
  | [], i => .inl rfl
  | v :: l, i => by
    simp only [findV, List.length_cons]
    split
    · right; omega
    · rcases findV_range (vid := vid) l (i + 1) with h | h
      · exact .inl h
      · right; omega
/-! ### What is done -/
structure Op17 where
  kind : Int
  port : Int
  to : Int
  vid : Int
  state : Int
  kvid : Int
  mac : Int
  mem : Int
  unt : Int
  now : Int
  limit : Int
  shard : Int
  bucket : Int
  id : Int
def encO17 (o : Op17) : List Value := [.int .i64 o.kind, .int .i64 o.port, .int .i64 o.to, .int .i64 o.vid, .int .i64 o.state, .int .i64 o.kvid, .int .u64 o.mac, .int .u64 o.mem, .int .u64 o.unt, .int .u32 o.now, .int .u32 o.limit, .int .i64 o.shard, .int .i64 o.bucket, .int .i64 o.id]
theorem encO17_len (o : Op17) : (encO17 o).length = 14 := rfl
structure Op17.Wf (o : Op17) : Prop where
  key : KeyWf o.kvid o.mac
  mem : SetWf o.mem
  unt : SetWf o.unt
  now0 : 0 ≤ o.now
  now1 : o.now < 4294967296
/-- What a model is: how its ports stand, its VLANs, the entries, what waits. -/
structure Md where
  stands : List Stn
  vlans : List Vl
  book : List (List Place)
  queues : Int → Int → List Int
def setQ (q : Int → Int → List Int) (a b : Int) (l : List Int) : Int → Int → List Int := fun x y => if x = a ∧ y = b then l else q x y
structure Pl where
  ports : Int
  size : Sz
  tries : Int
  ring : Int
  normal : Int
  short : Int
def inP (p : Pl) (n : Int) : Prop := 0 ≤ n ∧ n < p.ports
instance (p : Pl) (n : Int) : Decidable (inP p n) := inferInstanceAs (Decidable (_ ∧ _))
def mayO (p : Pl) (o : Op17) : Bool :=
  if o.kind = 0 ∨ o.kind = 2 ∨ o.kind = 4 ∨ o.kind = 8 then decide (inP p o.port)
  else if o.kind = 10 ∨ o.kind = 11 then decide (inP p o.port) && decide (inP p o.to)
  else if o.kind = 12 then decide (inP p o.to)
  else true
def sendM (m : Md) (p vid : Int) : Int :=
  let i := findV vid m.vlans 0
  if (m.stands.getD p.toNat ⟨0, 0⟩).st ≠ 4 then 0
  else if i < 0 then 1
  else let v := m.vlans.getD i.toNat ⟨0, 0, 0⟩
    if hasM v.mem p = false then 1 else if hasM v.unt p = true then 2 else 3
def setVlanM (p : Pl) (m : Md) (o : Op17) : Md × Int :=
  let i := findV o.vid m.vlans 0
  if i < 0 then (m, 0) else
  let v := m.vlans.getD i.toNat ⟨0, 0, 0⟩
  let inn := andM o.mem (allM p.ports)
  ({ m with vlans := m.vlans.set i.toNat { v with mem := inn, unt := andM o.unt inn } }, 1)
def rightSt (s : Int) : Bool := decide (0 ≤ s ∧ s ≤ 4)
def do17 (p : Pl) (m : Md) (o : Op17) : Md × Int :=
  if mayO p o = false then (m, -1)
  else if o.kind = 0 then (m, (m.stands.getD o.port.toNat ⟨0, 0⟩).st)
  else if o.kind = 1 then (m, if findV o.vid m.vlans 0 < 0 then 0 else IntKind.i64.wrap (m.vlans.getD (findV o.vid m.vlans 0).toNat ⟨0, 0, 0⟩).mem)
  else if o.kind = 2 then let r := learnB p.size m.book o.kvid o.mac o.port o.now; ({ m with book := r.1 }, r.2)
  else if o.kind = 3 then (m, lookB p.size m.book o.kvid o.mac)
  else if o.kind = 4 then let r := orderB p.size m.book o.kvid o.mac o.port o.now; ({ m with book := r.1 }, r.2)
  else if o.kind = 5 then let r := dropB p.size m.book o.kvid o.mac; ({ m with book := r.1 }, if r.2 = true then 1 else 0)
  else if o.kind = 6 then let r := ageB p.size m.book o.shard o.bucket o.now o.limit; ({ m with book := r.1 }, r.2)
  else if o.kind = 7 then let r := flushB m.book o.port o.vid; ({ m with book := r.1 }, r.2)
  else if o.kind = 8 then if rightSt o.state = false then (m, -1) else
    let e := IntKind.u32.wrap ((m.stands.getD o.port.toNat ⟨0, 0⟩).ep + 1)
    ({ m with stands := m.stands.set o.port.toNat ⟨o.state, e⟩ }, IntKind.i64.wrap e)
  else if o.kind = 9 then setVlanM p m o
  else if o.kind = 10 then
    let q := m.queues o.port o.to
    if p.ring ≤ q.length then (m, 0) else ({ m with queues := setQ m.queues o.port o.to (q ++ [o.id]) }, 1)
  else if o.kind = 11 then
    match m.queues o.port o.to with
    | [] => (m, -1)
    | x :: q => ({ m with queues := setQ m.queues o.port o.to q }, x)
  else if o.kind = 12 then (m, sendM m o.to o.vid)
  else (m, -1)
/-! ### What is done keeps a model as it may be -/
structure Pl.Ok (p : Pl) : Prop where
  lo : 2 ≤ p.ports
  hi : p.ports ≤ 64
  size : p.size.Ok
  ring0 : 1 ≤ p.ring
  ring1 : p.ring ≤ 64
structure MdOk (p : Pl) (M : Md) : Prop where
  st : (M.stands.length : Int) = p.ports
  book : Good p.size M.book
  vl : ∀ v ∈ M.vlans, SetWf v.mem ∧ SetWf v.unt
  q : ∀ a b, ((M.queues a b).length : Int) ≤ p.ring
theorem good_learn {s : Sz} (o : s.Ok) {L : List (List Place)} (g : Good s L) {vid mac port now : Int} (k : KeyWf vid mac) (a0 : 0 ≤ now) (a1 : now < 4294967296) : Good s (learnB s L vid mac port now).1 := by
  have r := ixM_range o vid mac
  exact ⟨bok_upd g.bok r.1 r.2 (fun l => learnM_len _ _ _ _ _) fun l h => learnM_wf h k a0 a1, cls_upd g.cls fun l => learnM_cl _ _ _ _ _, pns_upd g.pns fun l hl => pn_learn hl _ _ _ _⟩
theorem good_order {s : Sz} (o : s.Ok) {L : List (List Place)} (g : Good s L) {vid mac port now : Int} (k : KeyWf vid mac) : Good s (orderB s L vid mac port now).1 := by
  have r := ixM_range o vid mac
  exact ⟨bok_upd g.bok r.1 r.2 (fun l => orderM_len _ _ _ _ _) fun l h => orderM_wf h k, cls_upd g.cls fun l => orderM_cl _ _ _ _ _, pns_upd g.pns fun l hl => pn_order hl _ _ _ _⟩
theorem good_drop {s : Sz} (o : s.Ok) {L : List (List Place)} (g : Good s L) (vid mac : Int) : Good s (dropB s L vid mac).1 := by
  have r := ixM_range o vid mac
  exact ⟨bok_upd g.bok r.1 r.2 (fun l => dropM_len _ _ _) fun l h => dropM_wf h, cls_upd g.cls fun l => dropM_cl _ _ _, pns_upd g.pns fun l hl => pn_drop hl _ _⟩
theorem good_age {s : Sz} (o : s.Ok) {L : List (List Place)} (g : Good s L) (a n now old : Int) : Good s (ageB s L a n now old).1 := by
  unfold ageB
  split
  · exact g
  · have := atM_range o a n
    exact ⟨bok_upd g.bok (by omega) (by omega) (fun l => withoutM_len _ _) fun l h => withoutM_wf h, cls_upd g.cls fun l => withoutM_cl _ _, pns_upd g.pns fun l hl => pn_without hl _⟩
theorem good_flush {s : Sz} {L : List (List Place)} (g : Good s L) (port vid : Int) : Good s (flushB L port vid).1 := by
  refine ⟨⟨by unfold flushB; rw [List.length_map]; exact g.bok.len, fun l hl => ?_, fun l hl => ?_⟩, fun l hl => ?_, fun l hl => ?_⟩
  all_goals obtain ⟨q, hq, rfl⟩ := List.mem_map.1 hl
  · rw [withoutM_len]; exact g.bok.each q hq
  · exact withoutM_wf (g.bok.wf q hq)
  · exact withoutM_cl _ _
  · exact pn_without (g.pns q hq) _
theorem setQ_len {q : Int → Int → List Int} {n : Int} (h : ∀ a b, ((q a b).length : Int) ≤ n) (x y : Int) {l : List Int} (hl : (l.length : Int) ≤ n) : ∀ a b, ((setQ q x y l a b).length : Int) ≤ n := by
  intro a b
  unfold setQ
  split
  · exact hl
  · exact h a b
theorem ite_mdok {p : Pl} {c : Prop} {inst : Decidable c} {a b : Md × Int} (h1 : c → MdOk p a.1) (h2 : ¬ c → MdOk p b.1) : MdOk p (@ite _ c inst a b).1 := by
  by_cases h : c
  · rw [if_pos h]; exact h1 h
  · rw [if_neg h]; exact h2 h
theorem mdok_do {p : Pl} (o : p.Ok) {M : Md} (H : MdOk p M) {x : Op17} (w : x.Wf) : MdOk p (do17 p M x).1 := by
  refine ite_mdok (fun _ => H) fun _ => ?_
  refine ite_mdok (fun _ => H) fun _ => ?_
  refine ite_mdok (fun _ => H) fun _ => ?_
  refine ite_mdok (fun _ => ⟨H.st, good_learn o.size H.book w.key w.now0 w.now1, H.vl, H.q⟩) fun _ => ?_
  refine ite_mdok (fun _ => H) fun _ => ?_
  refine ite_mdok (fun _ => ⟨H.st, good_order o.size H.book w.key, H.vl, H.q⟩) fun _ => ?_
  refine ite_mdok (fun _ => ⟨H.st, good_drop o.size H.book _ _, H.vl, H.q⟩) fun _ => ?_
  refine ite_mdok (fun _ => ⟨H.st, good_age o.size H.book _ _ _ _, H.vl, H.q⟩) fun _ => ?_
  refine ite_mdok (fun _ => ⟨H.st, good_flush H.book _ _, H.vl, H.q⟩) fun _ => ?_
  refine ite_mdok (fun _ => ite_mdok (fun _ => H) fun _ => ⟨by simpa using H.st, H.book, H.vl, H.q⟩) fun _ => ?_
  refine ite_mdok (fun _ => ite_mdok (fun _ => H) fun _ => ?_) fun _ => ?_
  · refine ⟨H.st, H.book, fun v hv => ?_, H.q⟩
    rcases List.mem_or_eq_of_mem_set hv with h | rfl
    · exact H.vl v h
    · exact ⟨andM_wf w.mem, andM_wf w.unt⟩
  refine ite_mdok (fun _ => ite_mdok (fun _ => H) fun hlt => ?_) fun _ => ?_
  · exact ⟨H.st, H.book, H.vl, setQ_len H.q _ _ (by simp; omega)⟩
  refine ite_mdok (fun _ => ?_) fun _ => ite_mdok (fun _ => H) fun _ => H
  have hq := H.q x.port x.to
  cases hc : M.queues x.port x.to with
  | nil => exact H
  | cons z q =>
    rw [hc] at hq
    exact ⟨H.st, H.book, H.vl, setQ_len H.q _ _ (by simp at hq; omega)⟩
structure He where
  who : Int
  beg : Int
  mark : Int
  fin : Int
  op : Op17
  ans : Int
def encHe (e : He) : List Value := [.int .i64 e.who, .int .i64 e.beg, .int .i64 e.mark, .int .i64 e.fin, .int .i64 e.op.kind, .int .i64 e.op.port, .int .i64 e.op.to, .int .i64 e.op.vid, .int .i64 e.op.state, .int .i64 e.op.kvid, .int .u64 e.op.mac, .int .u64 e.op.mem, .int .u64 e.op.unt, .int .u32 e.op.now, .int .u32 e.op.limit, .int .i64 e.op.shard, .int .i64 e.op.bucket, .int .i64 e.op.id, .int .i64 e.ans]
theorem encHe_len (e : He) : (encHe e).length = 19 := rfl
theorem encHe_one (e : He) : (encHe e).all Value.oneCell' = true := rfl
def op0 : Op17 := ⟨0, 0, 0, 0, 0, 0, 0, 0, 0, 0, 0, 0, 0, 0⟩
def he0 : He := ⟨0, 0, 0, 0, op0, 0⟩
end Go.Proofs.YtjjempefncgfhaaGreatDoorE
/- Numbers that are put in turn at rings and taken so: how many of each ring, where they lie. Conditions: none; plain law. -/
set_option linter.unusedVariables false
set_option linter.unusedSimpArgs false
namespace Go.Proofs.YtjjempefncgfhaaGreatDoorE
open Go
/-! ### Numbers that are put in turn at P rings, and taken so -/
/-- How many of the first n numbers are of ring j. -/
def cN (P j n : Nat) : Nat := n / P + if j < n % P then 1 else 0
theorem cN_zero (P j : Nat) : cN P j 0 = 0 := by simp [cN]
theorem cN_at (P n : Nat) : cN P (n % P) n = n / P := by simp [cN]
theorem cN_succ {P j : Nat} (hj : j < P) (n : Nat) : cN P j (n + 1) = cN P j n + if j = n % P then 1 else 0 := by
  have hP : 0 < P := by omega
  have hm := Nat.mod_lt n hP
  have e := Nat.div_add_mod n P
  rcases Nat.lt_or_ge (n % P + 1) P with h | h
  · have e1 : (n + 1) / P = n / P := by
      rw [Nat.div_eq_iff hP]
      have : P * (n / P) = n / P * P := Nat.mul_comm ..
      omega
    have e2 : (n + 1) % P = n % P + 1 := by rw [Nat.add_mod, Nat.mod_eq_of_lt (show 1 < P by omega)]; exact Nat.mod_eq_of_lt h
    unfold cN
    rw [e1, e2]
    repeat' split
    all_goals omega
  · have e1 : (n + 1) / P = n / P + 1 := by
      rw [Nat.div_eq_iff hP]
      have : P * (n / P) = n / P * P := Nat.mul_comm ..
      have : (n / P + 1) * P = n / P * P + P := by rw [Nat.add_mul, Nat.one_mul]
      omega
    have e2 : (n + 1) % P = 0 := by
      have e3 := Nat.div_add_mod (n + 1) P
      rw [e1, Nat.mul_add] at e3
      omega
    unfold cN
    rw [e1, e2]
    repeat' split
    all_goals omega
theorem cN_le {P j n k : Nat} (hP : 0 < P) (h : n ≤ k * P) : cN P j n ≤ k := by
  unfold cN
  have e := Nat.div_add_mod n P
  have h1 : n / P ≤ k := Nat.div_le_of_le_mul (by rw [Nat.mul_comm]; exact h)
  split
  · rcases Nat.lt_or_ge (n / P) k with h2 | h2
    · omega
    · have : n / P = k := by omega
      rw [this, Nat.mul_comm] at e
      omega
  · omega
theorem cN_mono {P j : Nat} (hj : j < P) {n : Nat} : ∀ {m : Nat}, n ≤ m → cN P j n ≤ cN P j m := by
  intro m h
  induction m with
  | zero => rw [Nat.le_zero.1 h]; exact Nat.le_refl _
  | succ m ih =>
    rcases Nat.lt_or_ge n (m + 1) with h2 | h2
    · have := ih (by omega); have := cN_succ hj m; omega
    · rw [show n = m + 1 by omega]; exact Nat.le_refl _
theorem cN_lt {P t N : Nat} (hP : 0 < P) (h : t < N) : cN P (t % P) t < cN P (t % P) N := by
  have hm := Nat.mod_lt t hP
  have := cN_succ hm t
  rw [if_pos rfl] at this
  have := cN_mono hm (show t + 1 ≤ N from h)
  omega
theorem cN_bound {P j n : Nat} (hP : 0 < P) : cN P j n ≤ n := cN_le hP (Nat.le_mul_of_pos_right n hP)
/-- Where ring j's cells begin (to port q). -/
def bs (b0 P S q j : Nat) : Nat := b0 + (j * P + q) * (S + 2)
theorem bs_in {b0 P S q j o : Nat} (hj : j < P) (hq : q < P) (ho : o < S + 2) : bs b0 P S q j + o < b0 + P * P * (S + 2) := by
  unfold bs
  have h1 : (j + 1) * P ≤ P * P := Nat.mul_le_mul_right _ hj
  rw [Nat.add_mul, Nat.one_mul] at h1
  have h2 : (j * P + q + 1) * (S + 2) ≤ P * P * (S + 2) := Nat.mul_le_mul_right _ (by omega)
  rw [Nat.add_mul, Nat.one_mul] at h2
  omega
theorem bs_ne {b0 P S q j j' o o' : Nat} (hq : q < P) (h : j ≠ j') (ho : o < S + 2) (ho' : o' < S + 2) : bs b0 P S q j + o ≠ bs b0 P S q j' + o' := by
  unfold bs
  have key : ∀ a b : Nat, a < b → (a * P + q) * (S + 2) + (S + 2) ≤ (b * P + q) * (S + 2) := by
    intro a b hab
    have h1 : (a + 1) * P ≤ b * P := Nat.mul_le_mul_right _ hab
    rw [Nat.add_mul, Nat.one_mul] at h1
    have h2 : (a * P + q + 1) * (S + 2) ≤ (b * P + q) * (S + 2) := Nat.mul_le_mul_right _ (by omega)
    rw [Nat.add_mul, Nat.one_mul] at h2
    exact h2
  rcases Nat.lt_or_gt_of_ne h with h1 | h1
  · have := key _ _ h1; omega
  · have := key _ _ h1; omega
/-- A ticket of number i, with VLAN v. -/
def tik (v i : Nat) : Int := (i : Int) * 4096 + v
/-- The cells when n numbers were put at port q, and t taken. -/
structure CellsOk (b0 P S q v : Nat) (L : List Int) (n t : Nat) : Prop where
  len : b0 + P * P * (S + 2) ≤ L.length
  low : P ≤ b0
  fit : n ≤ S * P
  st : ∀ p, p < P → L[p]? = some 0
  put : ∀ j, j < P → L[bs b0 P S q j]? = some ((cN P j n : Nat) : Int)
  tak : ∀ j, j < P → L[bs b0 P S q j + 1]? = some ((cN P j t : Nat) : Int)
  val : ∀ i, i < n → L[bs b0 P S q (i % P) + (2 + i / P)]? = some (tik v i)
section
variable {b0 P S q v n t : Nat} {L : List Int}
theorem CellsOk.place (C : CellsOk b0 P S q v L n t) (hP : 0 < P) (hq : q < P) {k : Nat} (hk : k < S) {j : Nat} (hj : j < P) : bs b0 P S q j + (2 + k) < L.length :=
  Nat.lt_of_lt_of_le (bs_in hj hq (by omega)) C.len
/-- A number is laid in its place. -/
theorem CellsOk.lay (C : CellsOk b0 P S q v L n t) (hP : 0 < P) (hq : q < P) (hS : n / P < S) (x : Int) : CellsOk b0 P S q v (L.set (bs b0 P S q (n % P) + (2 + n / P)) x) n t := by
  have hm := Nat.mod_lt n hP
  have ne : ∀ j o, j < P → o < S + 2 → (j = n % P → o ≠ 2 + n / P) → bs b0 P S q (n % P) + (2 + n / P) ≠ bs b0 P S q j + o := by
    intro j o hj ho h e
    by_cases e' : j = n % P
    · subst e'; have := h rfl; omega
    · exact bs_ne hq (Ne.symm e') (by omega) ho e
  have lo : ∀ p, p < P → bs b0 P S q (n % P) + (2 + n / P) ≠ p := by intro p hp; have := C.low; have := Nat.zero_le (n / P); unfold bs; omega
  refine ⟨by rw [List.length_set]; exact C.len, C.low, C.fit, fun p hp => ?_, fun j hj => ?_, fun j hj => ?_, fun i hi => ?_⟩
  · rw [List.getElem?_set_ne (lo p hp)]; exact C.st p hp
  · rw [List.getElem?_set_ne (by have := ne j 0 hj (by omega) (fun _ => by have := Nat.zero_le (n / P); omega); simpa using this)]; exact C.put j hj
  · rw [List.getElem?_set_ne (ne j 1 hj (by omega) (fun _ => by have := Nat.zero_le (n / P); omega))]; exact C.tak j hj
  · have h1 : i / P ≤ n / P := Nat.div_le_div_right (by omega)
    have e1 := Nat.div_add_mod i P
    have e2 := Nat.div_add_mod n P
    rw [List.getElem?_set_ne (ne _ _ (Nat.mod_lt i hP) (by omega) ?_)]
    · exact C.val i hi
    · intro e e3
      have : i / P = n / P := by omega
      rw [this, e] at e1
      omega
/-- It is told that one more was put. -/
theorem CellsOk.tell (C : CellsOk b0 P S q v L n t) (hP : 0 < P) (hq : q < P) (hF : n + 1 ≤ S * P) (hx : L[bs b0 P S q (n % P) + (2 + n / P)]? = some (tik v n)) :
    CellsOk b0 P S q v (L.set (bs b0 P S q (n % P)) ((cN P (n % P) n + 1 : Nat) : Int)) (n + 1) t := by
  have hS : n / P < S := (Nat.div_lt_iff_lt_mul hP).2 hF
  have hm := Nat.mod_lt n hP
  have lo : ∀ p, p < P → bs b0 P S q (n % P) ≠ p := by intro p hp; have := C.low; unfold bs; omega
  have ne : ∀ j o, j < P → o < S + 2 → (j = n % P → o ≠ 0) → bs b0 P S q (n % P) ≠ bs b0 P S q j + o := by
    intro j o hj ho h e
    by_cases e' : j = n % P
    · subst e'; have := h rfl; omega
    · exact bs_ne (o := 0) hq (Ne.symm e') (by omega) ho e
  have hl : bs b0 P S q (n % P) < L.length := Nat.lt_of_lt_of_le (bs_in (o := 0) hm hq (by omega)) C.len
  refine ⟨by rw [List.length_set]; exact C.len, C.low, hF, fun p hp => ?_, fun j hj => ?_, fun j hj => ?_, fun i hi => ?_⟩
  · rw [List.getElem?_set_ne (lo p hp)]; exact C.st p hp
  · rw [cN_succ hj]
    by_cases e : j = n % P
    · subst e; rw [if_pos rfl, List.getElem?_set_self hl]
    · rw [if_neg e, List.getElem?_set_ne (by have := ne j 0 hj (by omega) (fun h => absurd h e); simpa using this)]; exact C.put j hj
  · rw [List.getElem?_set_ne (ne j 1 hj (by omega) (fun _ => by omega))]; exact C.tak j hj
  · have h1 : i / P ≤ n / P := Nat.div_le_div_right (by omega)
    rw [List.getElem?_set_ne (ne _ _ (Nat.mod_lt i hP) (by omega) (fun _ => by have := Nat.zero_le (i / P); omega))]
    rcases Nat.lt_or_ge i n with h | h
    · exact C.val i h
    · rw [show i = n by omega]; exact hx
/-- It is told that one more was taken. -/
theorem CellsOk.leave (C : CellsOk b0 P S q v L n t) (hP : 0 < P) (hq : q < P) :
    CellsOk b0 P S q v (L.set (bs b0 P S q (t % P) + 1) ((cN P (t % P) t + 1 : Nat) : Int)) n (t + 1) := by
  have hm := Nat.mod_lt t hP
  have lo : ∀ p, p < P → bs b0 P S q (t % P) + 1 ≠ p := by intro p hp; have := C.low; unfold bs; omega
  have ne : ∀ j o, j < P → (j = t % P → o ≠ 1) → o < S + 2 → bs b0 P S q (t % P) + 1 ≠ bs b0 P S q j + o := by
    intro j o hj h ho e
    by_cases e' : j = t % P
    · subst e'; have := h rfl; omega
    · exact bs_ne (o := 1) hq (Ne.symm e') (by omega) ho e
  have hl : bs b0 P S q (t % P) + 1 < L.length := Nat.lt_of_lt_of_le (bs_in (o := 1) hm hq (by omega)) C.len
  refine ⟨by rw [List.length_set]; exact C.len, C.low, C.fit, fun p hp => ?_, fun j hj => ?_, fun j hj => ?_, fun i hi => ?_⟩
  · rw [List.getElem?_set_ne (lo p hp)]; exact C.st p hp
  · rw [List.getElem?_set_ne (by have := ne j 0 hj (by omega) (by omega); simpa using this)]; exact C.put j hj
  · rw [cN_succ hj]
    by_cases e : j = t % P
    · subst e; rw [if_pos rfl, List.getElem?_set_self hl]
    · rw [if_neg e, List.getElem?_set_ne (ne j 1 hj (fun h => absurd h e) (by omega))]; exact C.tak j hj
  · have hs : i / P < S := (Nat.div_lt_iff_lt_mul hP).2 (Nat.lt_of_lt_of_le hi C.fit)
    rw [List.getElem?_set_ne (ne _ _ (Nat.mod_lt i hP) (fun _ => by have := Nat.zero_le (i / P); omega) (by omega))]
    exact C.val i hi
end
end Go.Proofs.YtjjempefncgfhaaGreatDoorE
