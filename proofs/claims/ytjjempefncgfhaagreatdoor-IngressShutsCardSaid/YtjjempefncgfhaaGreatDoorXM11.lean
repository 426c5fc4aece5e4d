/- The document's book over lists. Conditions: none. -/
import Derived.Test.YtjjempefncgfhaaGreatDoorXA4
import Derived.Test.YtjjempefncgfhaaGreatDoorXA1
set_option linter.unusedVariables false
set_option linter.unusedSimpArgs false
namespace Go.Proofs.YtjjempefncgfhaaGreatDoorE
open Go
structure Sz where
  sh : Int
  bk : Int
  sl : Int
structure Sz.Ok (s : Sz) : Prop where
  sh1 : 1 ≤ s.sh
  sh2 : s.sh ≤ 8
  bk1 : 1 ≤ s.bk
  bk2 : s.bk ≤ 16
  sl1 : 1 ≤ s.sl
  sl2 : s.sl ≤ 8
theorem mul_in {a b m n : Int} (h0 : 0 ≤ a) (h1 : a < m) (h2 : 0 ≤ b) (h3 : b < n) : 0 ≤ a * n + b ∧ a * n + b < m * n := by
  have hn : 0 ≤ n := by omega
  have e := Int.mul_le_mul_of_nonneg_right (show a ≤ m - 1 by omega) hn
  rw [Int.sub_mul] at e
  have := Int.mul_nonneg h0 hn
  omega
theorem Sz.Ok.many {s : Sz} (o : s.Ok) : 1 ≤ s.sh * s.bk ∧ s.sh * s.bk ≤ 128 := by
  have h0 := o.bk1
  have h1 := o.bk2
  have h2 := o.sh2
  have h3 := o.sh1
  have e := Int.mul_le_mul_of_nonneg_right h2 (show 0 ≤ s.bk by omega)
  have e2 := Int.mul_le_mul_of_nonneg_right h3 (show 0 ≤ s.bk by omega)
  omega
def atM (s : Sz) (a n : Int) : Int := if a < 0 ∨ s.sh ≤ a ∨ n < 0 ∨ s.bk ≤ n then -1 else a * s.bk + n
theorem atM_range {s : Sz} (o : s.Ok) (a n : Int) : atM s a n = -1 ∨ (0 ≤ atM s a n ∧ atM s a n < s.sh * s.bk ∧ 0 ≤ a ∧ a < s.sh ∧ 0 ≤ n ∧ n < s.bk ∧ atM s a n = a * s.bk + n) := by
  unfold atM
  split
  · exact .inl rfl
  · have := mul_in (a := a) (b := n) (m := s.sh) (n := s.bk) (by omega) (by omega) (by omega) (by omega)
    exact .inr ⟨this.1, this.2, by omega, by omega, by omega, by omega, rfl⟩
def ixM (s : Sz) (vid mac : Int) : Int := (placeM vid mac s.sh s.bk).1 * s.bk + (placeM vid mac s.sh s.bk).2
theorem ixM_range {s : Sz} (o : s.Ok) (vid mac : Int) : 0 ≤ ixM s vid mac ∧ ixM s vid mac < s.sh * s.bk := by
  have := placeM_range (vid := vid) (mac := mac) o.sh1 o.bk1
  exact mul_in this.1 this.2.1 this.2.2.1 this.2.2.2
theorem atM_place {s : Sz} (o : s.Ok) (vid mac : Int) : atM s (placeM vid mac s.sh s.bk).1 (placeM vid mac s.sh s.bk).2 = ixM s vid mac := by
  have := placeM_range (vid := vid) (mac := mac) o.sh1 o.bk1
  unfold atM ixM
  rw [if_neg (by omega)]
structure Bok (s : Sz) (L : List (List Place)) : Prop where
  len : (L.length : Int) = s.sh * s.bk
  each : ∀ l ∈ L, (l.length : Int) = s.sl
  wf : ∀ l ∈ L, ∀ p ∈ l, p.Wf
theorem bok_new {s : Sz} (o : s.Ok) : Bok s (List.replicate (s.sh * s.bk).toNat (List.replicate s.sl.toNat Place.none)) := by
  have := o.many
  have := o.sl1
  refine ⟨by simp; omega, fun l hl => ?_, fun l hl p hp => ?_⟩
  · obtain ⟨_, rfl⟩ := List.mem_replicate.1 hl
    simp; omega
  · obtain ⟨_, rfl⟩ := List.mem_replicate.1 hl
    obtain ⟨_, rfl⟩ := List.mem_replicate.1 hp
    exact none_wf
theorem bok_set {s : Sz} {L : List (List Place)} (B : Bok s L) {i : Nat} {l l' : List Place} (hl : L[i]? = some l) (h1 : l'.length = l.length) (h2 : ∀ p ∈ l', p.Wf) : Bok s (L.set i l') := by
  have hm := List.mem_of_getElem? hl
  refine ⟨by rw [List.length_set]; exact B.len, fun k hk => ?_, fun k hk => ?_⟩
  · rcases List.mem_or_eq_of_mem_set hk with h | rfl
    · exact B.each k h
    · rw [h1]; exact B.each l hm
  · rcases List.mem_or_eq_of_mem_set hk with h | rfl
    · exact B.wf k h
    · exact h2
theorem Bok.get {s : Sz} {L : List (List Place)} (B : Bok s L) {i : Int} (h0 : 0 ≤ i) (h1 : i < s.sh * s.bk) : ∃ (k : Nat) (l : List Place), i = (k : Int) ∧ k < L.length ∧ L[k]? = some l ∧ L.getD i.toNat [] = l ∧ (l.length : Int) = s.sl ∧ ∀ p ∈ l, p.Wf := by
  have := B.len
  have hk : i.toNat < L.length := by omega
  have hg : L[i.toNat]? = some L[i.toNat] := List.getElem?_eq_getElem hk
  have hm := List.mem_of_getElem? hg
  exact ⟨i.toNat, L[i.toNat], by omega, hk, hg, by rw [List.getD_eq_getElem?_getD, hg]; rfl, B.each _ hm, B.wf _ hm⟩
/-! ### What is done keeps places as they may be -/
theorem set_wf {l : List Place} {i : Nat} {e : Place} (h : ∀ p ∈ l, p.Wf) (he : e.Wf) : ∀ p ∈ l.set i e, p.Wf := fun p hp => (List.mem_or_eq_of_mem_set hp).elim (h p) (fun e' => e' ▸ he)
theorem map_clean_wf {l : List Place} (h : ∀ p ∈ l, p.Wf) : ∀ p ∈ l.map cleanP, p.Wf := by
  intro p hp
  obtain ⟨q, hq, rfl⟩ := List.mem_map.1 hp
  unfold cleanP
  split
  · exact h q hq
  · exact none_wf
theorem putM_wf {l : List Place} {e : Place} {now : Int} (h : ∀ p ∈ l, p.Wf) (he : e.Wf) : ∀ p ∈ (putM l e now).1, p.Wf := by
  unfold putM
  split
  · exact set_wf h ⟨he.key, he.port0, he.port1, he.stamp0, he.stamp1⟩
  · exact h
theorem may_port {vid mac port : Int} (h : mayM vid mac port = true) : 0 ≤ port ∧ port < 64 := by
  simp only [mayM, Bool.and_eq_true, decide_eq_true_eq] at h
  exact h.2
theorem getD_wf {l : List Place} {i : Nat} (h : ∀ p ∈ l, p.Wf) : (l.getD i Place.none).Wf := by
  rw [List.getD_eq_getElem?_getD]
  cases hi : l[i]? with
  | none => exact none_wf
  | some w => exact h w (List.mem_of_getElem? hi)
theorem learnM_wf {l : List Place} {vid mac port now : Int} (h : ∀ p ∈ l, p.Wf) (k : KeyWf vid mac) (a0 : 0 ≤ now) (a1 : now < 4294967296) : ∀ p ∈ (learnM l vid mac port now).1, p.Wf := by
  have hc := map_clean_wf h
  unfold learnM
  simp only
  split
  · exact hc
  · rename_i hm
    have hm := may_port (by simpa using hm)
    split
    · exact putM_wf hc ⟨k, (by show _ ≤ port; omega), (by show port ≤ _; omega), a0, a1⟩
    · split
      · exact hc
      · have w := getD_wf (i := (findN vid mac (l.map cleanP) 0).toNat) hc
        exact set_wf hc ⟨w.key, (by show _ ≤ port; omega), (by show port ≤ _; omega), a0, a1⟩
theorem orderM_wf {l : List Place} {vid mac port now : Int} (h : ∀ p ∈ l, p.Wf) (k : KeyWf vid mac) : ∀ p ∈ (orderM l vid mac port now).1, p.Wf := by
  have hc := map_clean_wf h
  unfold orderM
  simp only
  split
  · exact hc
  · rename_i hm
    have hm := may_port (by simpa using hm)
    have he : Place.Wf ⟨true, vid, mac, port, true, 0⟩ := ⟨k, (by show _ ≤ port; omega), (by show port ≤ _; omega), (by show (0 : Int) ≤ 0; decide), (by show (0 : Int) < 4294967296; decide)⟩
    split
    · exact putM_wf hc he
    · split
      · exact hc
      · exact set_wf hc he
theorem dropM_wf {l : List Place} {vid mac : Int} (h : ∀ p ∈ l, p.Wf) : ∀ p ∈ (dropM l vid mac).1, p.Wf := by
  have hc := map_clean_wf h
  unfold dropM
  simp only
  split
  · exact hc
  · split
    · exact hc
    · exact set_wf hc none_wf
theorem withoutM_wf {l : List Place} {gone : Place → Bool} (h : ∀ p ∈ l, p.Wf) : ∀ p ∈ (withoutM gone l).1, p.Wf := by
  intro p hp
  obtain ⟨q, hq, rfl⟩ := List.mem_map.1 hp
  split
  · exact none_wf
  · exact map_clean_wf h q hq
/-! ### The book -/
def updB {β : Type} (L : List (List Place)) (i : Int) (f : List Place → List Place × β) : List (List Place) × β := (L.set i.toNat (f (L.getD i.toNat [])).1, (f (L.getD i.toNat [])).2)
theorem updB_at {β : Type} {L : List (List Place)} {k : Nat} {l : List Place} (h : L[k]? = some l) (f : List Place → List Place × β) : updB L k f = (L.set k (f l).1, (f l).2) := by
  unfold updB
  rw [Int.toNat_natCast, List.getD_eq_getElem?_getD, h]; rfl
def lookM (l : List Place) (vid mac : Int) : Int := if findN vid mac l 0 < 0 then -1 else (l.getD (findN vid mac l 0).toNat Place.none).port
def lookB (s : Sz) (L : List (List Place)) (vid mac : Int) : Int := lookM (L.getD (ixM s vid mac).toNat []) vid mac
def learnB (s : Sz) (L : List (List Place)) (vid mac port now : Int) := updB L (ixM s vid mac) fun l => learnM l vid mac port now
def orderB (s : Sz) (L : List (List Place)) (vid mac port now : Int) := updB L (ixM s vid mac) fun l => orderM l vid mac port now
def dropB (s : Sz) (L : List (List Place)) (vid mac : Int) := updB L (ixM s vid mac) fun l => dropM l vid mac
def ageB (s : Sz) (L : List (List Place)) (a n now limit : Int) : List (List Place) × Int := if atM s a n < 0 then (L, 0) else updB L (atM s a n) fun l => withoutM (oldM now limit) l
def goneN (port vid : Int) (l : List Place) : Int := (withoutM (hitM port vid) l).2
def flushB (L : List (List Place)) (port vid : Int) : List (List Place) × Int := (L.map fun l => (withoutM (hitM port vid) l).1, (L.map (goneN port vid)).sum)
def listB (L : List (List Place)) : List Place := L.flatMap fun l => l.filter fun p => p.used
structure OpR where
  kind : Int
  vid : Int
  mac : Int
  port : Int
  vlan : Int
  now : Int
  old : Int
def encO7 (o : OpR) : List Value := [.int .i64 o.kind, .int .i64 o.vid, .int .u64 o.mac, .int .i64 o.port, .int .i64 o.vlan, .int .u32 o.now, .int .u32 o.old]
theorem encO7_len (o : OpR) : (encO7 o).length = 7 := rfl
structure OpR.Wf (o : OpR) : Prop where
  key : KeyWf o.vid o.mac
  now0 : 0 ≤ o.now
  now1 : o.now < 4294967296
def OpR.k (o : OpR) : Int := o.kind % 18446744073709551616 % 7
def doB (s : Sz) (L : List (List Place)) (o : OpR) : List (List Place) × Int :=
  if o.k = 0 then (L, lookB s L o.vid o.mac)
  else if o.k = 3 then orderB s L o.vid o.mac o.port o.now
  else if o.k = 4 then ((dropB s L o.vid o.mac).1, if (dropB s L o.vid o.mac).2 = true then 1 else 0)
  else if o.k = 5 then ageB s L o.port o.vlan o.now o.old
  else if o.k = 6 then flushB L o.port o.vlan
  else learnB s L o.vid o.mac o.port o.now
theorem bok_upd {β : Type} {s : Sz} {L : List (List Place)} (B : Bok s L) {i : Int} (h0 : 0 ≤ i) (h1 : i < s.sh * s.bk) {f : List Place → List Place × β} (hl : ∀ l, (f l).1.length = l.length) (hw : ∀ l, (∀ p ∈ l, p.Wf) → ∀ p ∈ (f l).1, p.Wf) : Bok s (updB L i f).1 := by
  obtain ⟨k, l, rfl, hk, hg, _, _, hwf⟩ := B.get h0 h1
  rw [updB_at hg]
  exact bok_set B hg (hl l) (hw l hwf)
theorem bok_do {s : Sz} (o : s.Ok) {L : List (List Place)} (B : Bok s L) {x : OpR} (w : x.Wf) : Bok s (doB s L x).1 := by
  have r := ixM_range o x.vid x.mac
  unfold doB
  split
  · exact B
  split
  · exact bok_upd B r.1 r.2 (fun l => orderM_len _ _ _ _ _) fun l h => orderM_wf h w.key
  split
  · exact bok_upd B r.1 r.2 (fun l => dropM_len _ _ _) fun l h => dropM_wf h
  split
  · unfold ageB
    split
    · exact B
    · have := atM_range o x.port x.vlan
      exact bok_upd B (by omega) (by omega) (fun l => withoutM_len _ _) fun l h => withoutM_wf h
  split
  · refine ⟨by unfold flushB; rw [List.length_map]; exact B.len, fun l hl => ?_, fun l hl => ?_⟩
    · obtain ⟨q, hq, rfl⟩ := List.mem_map.1 hl
      rw [withoutM_len]; exact B.each q hq
    · obtain ⟨q, hq, rfl⟩ := List.mem_map.1 hl
      exact withoutM_wf (B.wf q hq)
  · exact bok_upd B r.1 r.2 (fun l => learnM_len _ _ _ _ _) fun l h => learnM_wf h w.key w.now0 w.now1
/-! ### What is done leaves nothing where there is no entry -/
def Cl (l : List Place) : Prop := ∀ p ∈ l, cleanP p = p
theorem cleanP_twice (p : Place) : cleanP (cleanP p) = cleanP p := by
  unfold cleanP
  by_cases h : p.used = true
  · simp [h]
  · simp [h, Place.none]
theorem cl_map (l : List Place) : Cl (l.map cleanP) := by
  intro p hp
  obtain ⟨q, hq, rfl⟩ := List.mem_map.1 hp
  exact cleanP_twice q
theorem cl_eq {l : List Place} (h : Cl l) : l.map cleanP = l := (List.map_congr_left h).trans (List.map_id' l)
theorem cl_used {p : Place} (h : p.used = true) : cleanP p = p := by simp [cleanP, h]
theorem cl_set {l : List Place} {i : Nat} {e : Place} (h : Cl l) (he : cleanP e = e) : Cl (l.set i e) := fun p hp => (List.mem_or_eq_of_mem_set hp).elim (h p) (fun e' => e' ▸ he)
theorem putM_cl {l : List Place} {e : Place} {now : Int} (h : Cl l) : Cl (putM l e now).1 := by
  unfold putM
  split
  · exact cl_set h (cl_used rfl)
  · exact h
theorem learnM_cl (l : List Place) (vid mac port now : Int) : Cl (learnM l vid mac port now).1 := by
  have hc := cl_map l
  cases hm : mayM vid mac port with
  | false => rw [learnM_no hm]; exact hc
  | true =>
    rcases findN_range (vid := vid) (mac := mac) (l.map cleanP) 0 with hf | ⟨h0, h1⟩
    · rw [learnM_new hm hf]; exact putM_cl hc
    · obtain ⟨i, hi⟩ : ∃ i : Nat, findN vid mac (l.map cleanP) 0 = i := ⟨_, (Int.toNat_of_nonneg (by omega)).symm⟩
      obtain ⟨w, hw, hk⟩ := findN_hit _ _ _ hi
      rw [Nat.sub_zero] at hw
      rw [learnM_hit hm hi hw]
      split
      · exact hc
      · refine cl_set hc (cl_used ?_)
        simp only [hasKey, Bool.and_eq_true] at hk
        exact hk.1
theorem orderM_cl (l : List Place) (vid mac port now : Int) : Cl (orderM l vid mac port now).1 := by
  have hc := cl_map l
  unfold orderM
  simp only
  split
  · exact hc
  · split
    · exact putM_cl hc
    · split
      · exact hc
      · exact cl_set hc (cl_used rfl)
theorem dropM_cl (l : List Place) (vid mac : Int) : Cl (dropM l vid mac).1 := by
  have hc := cl_map l
  unfold dropM
  simp only
  split
  · exact hc
  · split
    · exact hc
    · exact cl_set hc rfl
theorem withoutM_cl (gone : Place → Bool) (l : List Place) : Cl (withoutM gone l).1 := by
  intro p hp
  obtain ⟨q, hq, rfl⟩ := List.mem_map.1 hp
  split
  · rfl
  · exact cl_map l q hq
def Cls (L : List (List Place)) : Prop := ∀ l ∈ L, Cl l
theorem cls_upd {β : Type} {L : List (List Place)} {i : Int} {f : List Place → List Place × β} (h : Cls L) (hf : ∀ l, Cl (f l).1) : Cls (updB L i f).1 := fun l hl => (List.mem_or_eq_of_mem_set hl).elim (h l) (fun e => e ▸ hf _)
theorem cls_do {s : Sz} {L : List (List Place)} (h : Cls L) (x : OpR) : Cls (doB s L x).1 := by
  unfold doB
  split
  · exact h
  split
  · exact cls_upd h fun l => orderM_cl _ _ _ _ _
  split
  · exact cls_upd h fun l => dropM_cl _ _ _
  split
  · unfold ageB
    split
    · exact h
    · exact cls_upd h fun l => withoutM_cl _ _
  split
  · intro l hl
    obtain ⟨q, hq, rfl⟩ := List.mem_map.1 hl
    exact withoutM_cl _ _
  · exact cls_upd h fun l => learnM_cl _ _ _ _ _
theorem cls_new (n m : Nat) : Cls (List.replicate n (List.replicate m Place.none)) := by
  intro l hl p hp
  obtain ⟨_, rfl⟩ := List.mem_replicate.1 hl
  obtain ⟨_, rfl⟩ := List.mem_replicate.1 hp
  rfl
theorem goneN_range (port vid : Int) (l : List Place) : 0 ≤ goneN port vid l ∧ goneN port vid l ≤ l.length := by
  unfold goneN withoutM
  simp only
  have := List.countP_le_length (p := fun p => p.used && hitM port vid p) (l := l.map cleanP)
  rw [List.length_map] at this
  omega
end Go.Proofs.YtjjempefncgfhaaGreatDoorE
