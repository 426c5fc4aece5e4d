/- The plain law behind BucketOnce: each key once, the ordered ones stand with their ports. Conditions: none. -/
import Derived.Test.YtkppagdjakllpaaXA6
import Derived.Test.YtkppagdjakllpaaXMap
set_option linter.unusedVariables false
set_option linter.unusedSimpArgs false
namespace Go.Proofs.YtkppagdjakllpaaE
open Go
abbrev Ky := Int × Int
def usE (p : Place) : List Ky := if p.used = true then [(p.vid, p.mac)] else []
def stE (p : Place) : List (Ky × Int) := if p.used = true ∧ p.static = true then [((p.vid, p.mac), p.port)] else []
theorem set_flat {α β : Type} (f : α → List β) {l : List α} {i : Nat} {w : α} (h : l[i]? = some w) : l.flatMap f = (l.take i).flatMap f ++ (f w ++ (l.drop (i + 1)).flatMap f) ∧ ∀ e, (l.set i e).flatMap f = (l.take i).flatMap f ++ (f e ++ (l.drop (i + 1)).flatMap f) := by
  obtain ⟨hi, rfl⟩ := List.getElem?_eq_some_iff.1 h
  constructor
  · have e : l = l.take i ++ l[i] :: l.drop (i + 1) := by rw [← List.drop_eq_getElem_cons hi, List.take_append_drop]
    have e2 := congrArg (List.flatMap f) e
    rw [List.flatMap_append, List.flatMap_cons] at e2
    exact e2
  · intro e
    rw [List.set_eq_take_append_cons_drop, if_pos hi]
    simp
theorem flat_twice {α β : Type} {f : α → List β} {l : List α} (hn : (l.flatMap f).Nodup) {a b : Nat} {p q : α} {x : β} (hab : b < a) (hp : l[a]? = some p) (hq : l[b]? = some q) (h1 : x ∈ f p) (h2 : x ∈ f q) : False := by
  rw [(set_flat f hp).1, List.nodup_append] at hn
  refine hn.2.2 x ?_ x (by simp [h1]) rfl
  refine List.mem_flatMap.2 ⟨q, ?_, h2⟩
  have : (l.take a)[b]? = some q := by rw [List.getElem?_take, if_pos hab]; exact hq
  exact List.mem_of_getElem? this
structure Inv (l : List Place) (ord : List (Ky × Int)) : Prop where
  clean : l.map cleanP = l
  once : (l.flatMap usE).Nodup
  perm : (l.flatMap stE).Perm ord
theorem st_sub : ∀ (l : List Place), ((l.flatMap stE).map (·.1)).Sublist (l.flatMap usE)
  | [] => List.Sublist.slnil
  | p :: l => by
    simp only [List.flatMap_cons, List.map_append]
    refine List.Sublist.append ?_ (st_sub l)
    unfold stE usE
    by_cases hu : p.used = true
    · by_cases hs : p.static = true
      · simp [hu, hs]
      · simp [hu, hs]
    · simp [hu]
theorem Inv.keys {l : List Place} {ord : List (Ky × Int)} (I : Inv l ord) : (ord.map (·.1)).Nodup := by
  have h1 : ((l.flatMap stE).map (·.1)).Nodup := I.once.sublist (st_sub l)
  exact (I.perm.map _).nodup_iff.1 h1
theorem getE_mem {k : Ky} {v : Int} : ∀ {ord : List (Ky × Int)}, (ord.map (·.1)).Nodup → ((k, v) ∈ ord ↔ getE k ord = some v)
  | [], _ => by simp [getE]
  | e :: es, hn => by
    simp only [List.map_cons, List.nodup_cons] at hn
    simp only [getE, List.mem_cons]
    by_cases hk : k = e.1
    · rw [if_pos hk]
      constructor
      · rintro (h | h)
        · rw [← h]
        · exact absurd (List.mem_map.2 ⟨_, h, hk⟩) hn.1
      · intro h
        left
        simp only [Option.some.injEq] at h
        rw [hk, ← h]
    · rw [if_neg hk, ← getE_mem hn.2]
      constructor
      · rintro (h | h)
        · exact absurd (by rw [← h]) hk
        · exact h
      · exact Or.inr
theorem getE_none {k : Ky} : ∀ {ord : List (Ky × Int)}, getE k ord = none ↔ k ∉ ord.map (·.1)
  | [] => by simp [getE]
  | e :: es => by
    simp only [getE, List.map_cons, List.mem_cons, not_or]
    by_cases hk : k = e.1
    · simp [hk]
    · simp [hk, getE_none]
theorem put_some {k : Ky} {v0 : Int} : ∀ {ord : List (Ky × Int)}, getE k ord = some v0 → ∃ C D, ord = C ++ (k, v0) :: D ∧ (∀ v, putE k v ord = C ++ (k, v) :: D) ∧ delE k ord = C ++ D
  | [], h => by simp [getE] at h
  | e :: es, h => by
    simp only [getE] at h
    by_cases hk : k = e.1
    · rw [if_pos hk] at h
      simp only [Option.some.injEq] at h
      refine ⟨[], es, ?_, fun v => ?_, ?_⟩
      · rw [hk, ← h]; rfl
      · simp only [putE, if_pos hk, List.nil_append]
      · simp only [delE, if_pos hk, List.nil_append]
    · rw [if_neg hk] at h
      obtain ⟨C, D, h1, h2, h3⟩ := put_some h
      refine ⟨e :: C, D, by rw [h1]; rfl, fun v => ?_, ?_⟩
      · simp only [putE, if_neg hk, h2, List.cons_append]
      · simp only [delE, if_neg hk, h3, List.cons_append]
theorem put_new {k : Ky} {v : Int} : ∀ {ord : List (Ky × Int)}, getE k ord = none → putE k v ord = ord ++ [(k, v)] ∧ delE k ord = ord
  | [], _ => ⟨rfl, rfl⟩
  | e :: es, h => by
    simp only [getE] at h
    by_cases hk : k = e.1
    · rw [if_pos hk] at h; cases h
    · rw [if_neg hk] at h
      have := put_new (v := v) h
      simp only [putE, delE, if_neg hk, this.1, this.2, List.cons_append, and_self]
theorem perm_put {A B ord : List (Ky × Int)} {k : Ky} {v0 v : Int} (hp : (A ++ ([(k, v0)] ++ B)).Perm ord) (hn : (ord.map (·.1)).Nodup) : (A ++ ([(k, v)] ++ B)).Perm (putE k v ord) ∧ (A ++ ([] ++ B)).Perm (delE k ord) ∧ getE k ord = some v0 := by
  have hg : getE k ord = some v0 := (getE_mem hn).1 (hp.mem_iff.1 (by simp))
  obtain ⟨C, D, rfl, h2, h3⟩ := put_some hg
  have hc : (A ++ B).Perm (C ++ D) := by
    have h4 : ((k, v0) :: (A ++ B)).Perm ((k, v0) :: (C ++ D)) := by
      refine List.Perm.trans ?_ (hp.trans List.perm_middle)
      exact List.perm_middle.symm
    exact h4.cons_inv
  refine ⟨?_, by rw [h3]; simpa using hc, hg⟩
  rw [h2]
  refine List.Perm.trans (l₂ := (k, v) :: (A ++ B)) ?_ (List.Perm.trans (hc.cons _) List.perm_middle.symm)
  exact List.perm_middle
theorem perm_new {A B ord : List (Ky × Int)} {k : Ky} {v : Int} (hp : (A ++ ([] ++ B)).Perm ord) (hg : getE k ord = none) : (A ++ ([(k, v)] ++ B)).Perm (putE k v ord) ∧ delE k ord = ord := by
  have h := put_new (v := v) hg
  refine ⟨?_, h.2⟩
  rw [h.1]
  refine List.Perm.trans (l₂ := (k, v) :: (A ++ B)) List.perm_middle ?_
  refine List.Perm.trans ((show (A ++ B).Perm ord by simpa using hp).cons _) ?_
  exact (List.perm_append_singleton _ _).symm
theorem inv_set {l : List Place} {ord ord' : List (Ky × Int)} (I : Inv l ord) {i : Nat} {w e : Place} (hw : l[i]? = some w) (hc : cleanP e = e)
    (hu : usE e = usE w ∨ usE e = [] ∨ ∃ k, usE e = [k] ∧ k ∉ l.flatMap usE)
    (hp : ((l.take i).flatMap stE ++ (stE w ++ (l.drop (i + 1)).flatMap stE)).Perm ord → ((l.take i).flatMap stE ++ (stE e ++ (l.drop (i + 1)).flatMap stE)).Perm ord') : Inv (l.set i e) ord' := by
  have hs := set_flat stE hw
  have hus := set_flat usE hw
  refine ⟨by rw [List.map_set, I.clean, hc], ?_, by rw [hs.2]; exact hp (by rw [← hs.1]; exact I.perm)⟩
  rw [hus.2]
  have hn := I.once
  rw [hus.1] at hn
  rcases hu with h | h | ⟨k, h, hk⟩
  · rw [h]; exact hn
  · rw [h]
    refine hn.sublist ?_
    exact (List.Sublist.refl _).append (by rw [List.nil_append]; exact List.sublist_append_right _ _)
  · rw [h]
    rw [hus.1] at hk
    have h1 : (List.flatMap usE (l.take i) ++ List.flatMap usE (l.drop (i + 1))).Nodup := hn.sublist ((List.Sublist.refl _).append (List.sublist_append_right _ _))
    have h2 : (k :: (List.flatMap usE (l.take i) ++ List.flatMap usE (l.drop (i + 1)))).Nodup := by
      refine List.nodup_cons.2 ⟨fun hm => hk ?_, h1⟩
      simp only [List.mem_append] at hm ⊢
      rcases hm with hm | hm
      · exact .inl hm
      · exact .inr (.inr hm)
    exact (List.perm_middle.nodup_iff).2 h2
theorem findN_miss {vid mac : Int} : ∀ {xs : List Place} {k : Nat}, findN vid mac xs k = -1 → ∀ p ∈ xs, hasKey vid mac p = false
  | [], _, _ => by simp
  | q :: qs, k, h => by
    simp only [findN] at h
    split at h
    · omega
    · rename_i hq
      intro p hp
      rcases List.mem_cons.1 hp with rfl | hp
      · simpa using hq
      · exact findN_miss h p hp
theorem us_key {l : List Place} {vid mac : Int} (h : ∀ p ∈ l, hasKey vid mac p = false) : (vid, mac) ∉ l.flatMap usE := by
  intro hm
  obtain ⟨p, hp, hk⟩ := List.mem_flatMap.1 hm
  unfold usE at hk
  split at hk
  · rename_i hu
    simp only [List.mem_singleton, Prod.mk.injEq] at hk
    have := h p hp
    simp [hasKey, hu, ← hk.1, ← hk.2] at this
  · simp at hk
theorem Inv.unknown {l : List Place} {ord : List (Ky × Int)} (I : Inv l ord) {k : Ky} (h : k ∉ l.flatMap usE) : getE k ord = none := by
  refine getE_none.2 fun hm => h ?_
  have : k ∈ (l.flatMap stE).map (·.1) := (I.perm.map _).mem_iff.2 hm
  exact (st_sub l).subset this
theorem roomM_code (xs : List Place) (now : Int) : (0 ≤ (roomM xs now).1 → (roomM xs now).2 = 3 ∨ (roomM xs now).2 = 4) ∧ ((roomM xs now).1 < 0 → (roomM xs now).2 = 5) := by
  have gen : ∀ (xs : List Place) (k : Nat) (best did g : Int), ((0 ≤ best → did = 4) ∧ (best < 0 → did = 5)) → (0 ≤ (roomP now xs k best did g).1 → (roomP now xs k best did g).2 = 3 ∨ (roomP now xs k best did g).2 = 4) ∧ ((roomP now xs k best did g).1 < 0 → (roomP now xs k best did g).2 = 5) := by
    intro xs
    induction xs with
    | nil => intro k best did g h; exact ⟨fun h1 => .inr (h.1 h1), h.2⟩
    | cons p ps ih =>
      intro k best did g h
      simp only [roomP]
      split
      · exact ⟨fun _ => .inl rfl, fun h1 => absurd h1 (by simp <;> omega)⟩
      · split
        · exact ih _ _ _ _ h
        · split
          · exact ih _ _ _ _ ⟨fun _ => rfl, fun h1 => absurd h1 (by omega)⟩
          · exact ih _ _ _ _ h
  exact gen xs 0 (-1) 5 0 ⟨fun h => absurd h (by omega), fun _ => rfl⟩
theorem roomM_spot {xs : List Place} {now : Int} (h : 0 ≤ (roomM xs now).1) : ∃ (m : Nat) (p : Place), (roomM xs now).1 = (m : Int) ∧ xs[m]? = some p ∧ (p.used = false ∨ p.static = false) := by
  rcases roomP_spot (now := now) xs 0 (-1) 5 0 with h1 | ⟨m, p, h1, h2, h3⟩
  · rw [roomM, h1] at h; omega
  · exact ⟨m, p, by rw [roomM, h1, Nat.zero_add], h2, h3⟩
theorem stE_none {p : Place} (h : p.used = false ∨ p.static = false) : stE p = [] := by
  unfold stE
  rcases h with h | h <;> simp [h]
/-- A new entry whose key is nowhere. -/
theorem inv_putM {l : List Place} {ord : List (Ky × Int)} (I : Inv l ord) {e : Place} {now : Int} (hu : e.used = true) (hk : (e.vid, e.mac) ∉ l.flatMap usE) :
    Inv (putM l e now).1 (if (putM l e now).2 = 5 ∨ e.static = false then ord else putE (e.vid, e.mac) e.port ord) ∧ 0 ≤ (putM l e now).2 ∧ (putM l e now).2 ≤ 5 := by
  have hc := roomM_code l now
  unfold putM
  split
  · rename_i hge
    obtain ⟨m, w, h1, h2, h3⟩ := roomM_spot hge
    have hcode := hc.1 hge
    refine ⟨?_, by rcases hcode with h | h <;> simp [h], by rcases hcode with h | h <;> simp [h]⟩
    have he : ({ e with used := true } : Place) = e := by cases e; simp_all
    simp only
    rw [he, h1, Int.toNat_natCast]
    refine inv_set I h2 (cleanP_used hu) (.inr (.inr ⟨(e.vid, e.mac), by simp [usE, hu], hk⟩)) fun hp => ?_
    rw [stE_none h3] at hp
    have hne : ¬ (roomM l now).2 = 5 := by omega
    cases hs : e.static with
    | false => rw [stE_none (.inr hs)]; simpa using hp
    | true =>
      rw [if_neg (by simp [hne])]
      have : stE e = [((e.vid, e.mac), e.port)] := by simp [stE, hu, hs]
      rw [this]
      exact (perm_new hp (I.unknown hk)).1
  · rename_i hlt
    have hcode := hc.2 (by omega)
    simp only [hcode]
    exact ⟨by simpa using I, by decide, by decide⟩
theorem hasKey_us {vid mac : Int} {w : Place} (h : hasKey vid mac w = true) : usE w = [(vid, mac)] ∧ w.used = true ∧ w.vid = vid ∧ w.mac = mac := by
  simp only [hasKey, Bool.and_eq_true, beq_iff_eq] at h
  exact ⟨by simp [usE, h.1, h.2.1, h.2.2], h.1, h.2.1, h.2.2⟩
theorem inv_learn {l : List Place} {ord : List (Ky × Int)} (I : Inv l ord) {vid mac port now : Int} (hm : mayM vid mac port = true) : Inv (learnM l vid mac port now).1 ord ∧ 0 ≤ (learnM l vid mac port now).2 ∧ (learnM l vid mac port now).2 ≤ 5 := by
  rcases findN_range (vid := vid) (mac := mac) l 0 with hf | ⟨hf0, hf1⟩
  · rw [learnM_new hm (by rw [I.clean]; exact hf), I.clean]
    have := inv_putM (e := ⟨true, vid, mac, port, false, now⟩) (now := now) I rfl (us_key (findN_miss hf))
    rw [if_pos (.inr rfl)] at this
    exact this
  · obtain ⟨j, hj⟩ : ∃ j : Nat, findN vid mac l 0 = j := ⟨(findN vid mac l 0).toNat, by omega⟩
    obtain ⟨w, hw, hk⟩ := findN_hit _ _ _ hj
    rw [Nat.sub_zero] at hw
    obtain ⟨u1, u2, u3, u4⟩ := hasKey_us hk
    rw [learnM_hit hm (by rw [I.clean]; exact hj) (by rw [I.clean]; exact hw), I.clean]
    split
    · exact ⟨I, by simp, by simp⟩
    · rename_i hs
      refine ⟨inv_set I hw (cleanP_used (by exact u2)) (.inl (by simp [usE, u2])) fun hp => ?_, ?_, ?_⟩
      · have e1 : stE w = [] := stE_none (.inr (by simpa using hs))
        have e2 : stE { w with port := port, stamp := now } = [] := stE_none (.inr (by simpa using hs))
        rw [e1] at hp
        rw [e2]; exact hp
      · simp only; split; omega; split <;> omega
      · simp only; split; omega; split <;> omega
theorem putE_same {k : Ky} {v : Int} {ord : List (Ky × Int)} (h : getE k ord = some v) : putE k v ord = ord := by
  obtain ⟨C, D, h1, h2, _⟩ := put_some h
  rw [h2]; exact h1.symm
theorem inv_order {l : List Place} {ord : List (Ky × Int)} (I : Inv l ord) {vid mac port now : Int} (hm : mayM vid mac port = true) :
    Inv (orderM l vid mac port now).1 (if (orderM l vid mac port now).2 = 5 then ord else putE (vid, mac) port ord) ∧ 0 ≤ (orderM l vid mac port now).2 ∧ (orderM l vid mac port now).2 ≤ 5 := by
  rcases findN_range (vid := vid) (mac := mac) l 0 with hf | ⟨hf0, hf1⟩
  · rw [orderM_new hm (by rw [I.clean]; exact hf), I.clean]
    have := inv_putM (e := ⟨true, vid, mac, port, true, 0⟩) (now := now) I rfl (us_key (findN_miss hf))
    simpa using this
  · obtain ⟨j, hj⟩ : ∃ j : Nat, findN vid mac l 0 = j := ⟨(findN vid mac l 0).toNat, by omega⟩
    obtain ⟨w, hw, hk⟩ := findN_hit _ _ _ hj
    rw [Nat.sub_zero] at hw
    obtain ⟨u1, u2, u3, u4⟩ := hasKey_us hk
    rw [orderM_hit hm (by rw [I.clean]; exact hj) (by rw [I.clean]; exact hw), I.clean]
    have fl := set_flat stE hw
    have pm := I.perm
    rw [fl.1] at pm
    split
    · rename_i he
      have e1 : stE w = [((vid, mac), port)] := by rw [he]; rfl
      rw [e1] at pm
      have hp := perm_put (v := port) pm I.keys
      refine ⟨?_, by simp, by simp⟩
      simp only
      rw [if_neg (by decide), putE_same hp.2.2]
      exact I
    · refine ⟨?_, by simp, by simp⟩
      simp only
      rw [if_neg (by decide)]
      refine inv_set I hw rfl (.inl ?_) fun hp => ?_
      · rw [u1]; rfl
      · have e2 : stE ⟨true, vid, mac, port, true, 0⟩ = [((vid, mac), port)] := rfl
        rw [e2]
        cases hs : w.static with
        | true =>
          have e1 : stE w = [((vid, mac), w.port)] := by simp [stE, u2, hs, u3, u4]
          rw [e1] at hp
          exact (perm_put hp I.keys).1
        | false =>
          rw [stE_none (.inr hs)] at hp
          refine (perm_new hp ?_).1
          refine getE_none.2 fun hmem => ?_
          obtain ⟨⟨k', v⟩, h1, h2⟩ := List.mem_map.1 hmem
          simp only at h2
          subst h2
          have h3 := (I.perm.mem_iff).2 h1
          obtain ⟨q, hq, hqs⟩ := List.mem_flatMap.1 h3
          unfold stE at hqs
          split at hqs
          · rename_i hc
            simp only [List.mem_singleton, Prod.mk.injEq] at hqs
            obtain ⟨i, hi⟩ := List.getElem?_of_mem hq
            have uq : (vid, mac) ∈ usE q := by simp [usE, hc.1, ← hqs.1.1, ← hqs.1.2]
            have uw : (vid, mac) ∈ usE w := by rw [u1]; simp
            rcases Nat.lt_trichotomy i j with hlt | heq | hgt
            · exact flat_twice I.once hlt hw hi uw uq
            · subst heq
              rw [hw] at hi
              cases hi
              rw [hs] at hc
              exact absurd hc.2 (by simp)
            · exact flat_twice I.once hgt hi hw uq uw
          · simp at hqs
/-- Who is ordered is the one used place of its key, and static. -/
theorem Inv.known {l : List Place} {ord : List (Ky × Int)} (I : Inv l ord) {j : Nat} {w : Place} (hw : l[j]? = some w) (hu : w.used = true) : (getE (w.vid, w.mac) ord) = if w.static = true then some w.port else none := by
  have pm := I.perm
  rw [(set_flat stE hw).1] at pm
  split
  · rename_i hs
    have e1 : stE w = [((w.vid, w.mac), w.port)] := by simp [stE, hu, hs]
    rw [e1] at pm
    exact (perm_put (v := 0) pm I.keys).2.2
  · rename_i hs
    refine getE_none.2 fun hmem => ?_
    obtain ⟨⟨k', v⟩, h1, h2⟩ := List.mem_map.1 hmem
    simp only at h2
    subst h2
    have h3 := (I.perm.mem_iff).2 h1
    obtain ⟨q, hq, hqs⟩ := List.mem_flatMap.1 h3
    unfold stE at hqs
    split at hqs
    · rename_i hc
      simp only [List.mem_singleton, Prod.mk.injEq] at hqs
      obtain ⟨i, hi⟩ := List.getElem?_of_mem hq
      have uq : (w.vid, w.mac) ∈ usE q := by simp [usE, hc.1, ← hqs.1.1, ← hqs.1.2]
      have uw : (w.vid, w.mac) ∈ usE w := by simp [usE, hu]
      rcases Nat.lt_trichotomy i j with hlt | heq | hgt
      · exact flat_twice I.once hlt hw hi uw uq
      · subst heq
        rw [hw] at hi
        cases hi
        exact hs hc.2
      · exact flat_twice I.once hgt hi hw uq uw
    · simp at hqs
theorem inv_drop {l : List Place} {ord : List (Ky × Int)} (I : Inv l ord) (vid mac : Int) : Inv (dropM l vid mac).1 (delE (vid, mac) ord) ∧ (dropM l vid mac).2 = (getE (vid, mac) ord).isSome := by
  rcases findN_range (vid := vid) (mac := mac) l 0 with hf | ⟨hf0, hf1⟩
  · rw [dropM_no (by rw [I.clean]; exact hf), I.clean]
    have hg := I.unknown (us_key (findN_miss hf))
    rw [hg, (put_new (v := 0) hg).2]
    exact ⟨I, rfl⟩
  · obtain ⟨j, hj⟩ : ∃ j : Nat, findN vid mac l 0 = j := ⟨(findN vid mac l 0).toNat, by omega⟩
    obtain ⟨w, hw, hk⟩ := findN_hit _ _ _ hj
    rw [Nat.sub_zero] at hw
    obtain ⟨u1, u2, u3, u4⟩ := hasKey_us hk
    have hkn := I.known hw u2
    rw [u3, u4] at hkn
    rw [dropM_hit (by rw [I.clean]; exact hj) (by rw [I.clean]; exact hw), I.clean]
    split
    · rename_i hs
      rw [if_neg (by simp [hs])] at hkn
      rw [hkn, (put_new (v := 0) hkn).2]
      exact ⟨I, rfl⟩
    · rename_i hs
      have hs : w.static = true := by simpa using hs
      rw [if_pos hs] at hkn
      rw [hkn]
      refine ⟨inv_set I hw rfl (.inr (.inl rfl)) fun hp => ?_, rfl⟩
      have e1 : stE w = [((vid, mac), w.port)] := by simp [stE, u2, hs, u3, u4]
      rw [e1] at hp
      exact (perm_put (v := 0) hp I.keys).2.1
/-- How many of the first places are ordered. -/
def statics (l : List Place) (a : Nat) : Nat := ((l.take a).flatMap stE).length
theorem statics_next {l : List Place} {a : Nat} {p : Place} (h : l[a]? = some p) : statics l (a + 1) = statics l a + (if p.used = true ∧ p.static = true then 1 else 0) := by
  obtain ⟨hi, rfl⟩ := List.getElem?_eq_some_iff.1 h
  unfold statics
  rw [List.take_succ_eq_append_getElem hi]
  simp only [List.flatMap_append, List.flatMap_cons, List.flatMap_nil, List.append_nil, List.length_append, stE]
  split <;> rfl
theorem Inv.count {l : List Place} {ord : List (Ky × Int)} (I : Inv l ord) {a : Nat} (h : l.length ≤ a) : statics l a = ord.length := by
  unfold statics
  rw [List.take_of_length_le h]
  exact I.perm.length_eq
theorem inv_start (n : Nat) : Inv (List.replicate n Place.none) [] := by
  have h1 : ∀ n, (List.replicate n Place.none).flatMap usE = [] := fun n => by simp [List.flatMap_replicate, usE, Place.none]
  have h2 : ∀ n, (List.replicate n Place.none).flatMap stE = [] := fun n => by simp [List.flatMap_replicate, stE, Place.none]
  exact ⟨by simp [cleanP, Place.none], by rw [h1]; simp, by rw [h2]⟩
end Go.Proofs.YtkppagdjakllpaaE
