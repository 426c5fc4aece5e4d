/- Lists of numbers by port, kept by a law; how many wait in all rings but a port's. Conditions: none. -/
import Derived.Test.YthoikbogkhpciaaGreatXGE
set_option linter.unusedVariables false
set_option linter.unusedSimpArgs false
set_option maxRecDepth 100000
namespace Go.Proofs.YthoikbogkhpciaaGreatE
open Go Go.Proofs
def rowO (L : Nat → Nat → List Int) (q i : Nat) : Nat → Nat
  | 0 => 0
  | m + 1 => rowO L q i m + (if m = q then 0 else (L i m).length)
def cntO (L : Nat → Nat → List Int) (q P : Nat) : Nat → Nat
  | 0 => 0
  | m + 1 => cntO L q P m + rowO L q m P
theorem rowO_congr {L L' : Nat → Nat → List Int} {q i : Nat} (h : ∀ a b, b ≠ q → L a b = L' a b) : ∀ m, rowO L q i m = rowO L' q i m
  | 0 => rfl
  | m + 1 => by
    unfold rowO
    rw [rowO_congr h m]
    by_cases e : m = q
    · rw [if_pos e, if_pos e]
    · rw [if_neg e, if_neg e, h i m e]
theorem cntO_congr {L L' : Nat → Nat → List Int} {q P : Nat} (h : ∀ a b, b ≠ q → L a b = L' a b) : ∀ m, cntO L q P m = cntO L' q P m
  | 0 => rfl
  | m + 1 => by
    unfold cntO
    rw [cntO_congr h m, rowO_congr h P]
theorem rowO_up {L : Nat → Nat → List Int} {q i a b : Nat} {y : Int} : ∀ m, rowO (up2 L a b (L a b ++ [y])) q i m = rowO L q i m + (if i = a ∧ b < m ∧ b ≠ q then 1 else 0)
  | 0 => by unfold rowO; rw [if_neg (by omega)]
  | m + 1 => by
    unfold rowO
    rw [rowO_up m]
    by_cases e : m = q
    · rw [if_pos e, if_pos e]
      by_cases g : i = a ∧ b < m ∧ b ≠ q
      · rw [if_pos g, if_pos (by omega)]
      · rw [if_neg g, if_neg (by omega)]
    · rw [if_neg e, if_neg e]
      by_cases k : i = a ∧ m = b
      · obtain ⟨rfl, rfl⟩ := k
        rw [up2_self, List.length_append, List.length_singleton, if_neg (by omega), if_pos (by omega)]
        omega
      · rw [up2_ne k]
        by_cases g : i = a ∧ b < m ∧ b ≠ q
        · rw [if_pos g, if_pos (by omega)]
          omega
        · rw [if_neg g, if_neg (by omega)]
          omega
theorem cntO_up {L : Nat → Nat → List Int} {q P a b : Nat} {y : Int} : ∀ m, cntO (up2 L a b (L a b ++ [y])) q P m = cntO L q P m + (if a < m ∧ b < P ∧ b ≠ q then 1 else 0)
  | 0 => by unfold cntO; rw [if_neg (by omega)]
  | m + 1 => by
    unfold cntO
    rw [cntO_up m, rowO_up P]
    by_cases g : a < m ∧ b < P ∧ b ≠ q
    · rw [if_pos g, if_neg (by omega), if_pos (by omega)]
      omega
    · rw [if_neg g]
      by_cases k : m = a ∧ b < P ∧ b ≠ q
      · rw [if_pos k, if_pos (by omega)]
        omega
      · rw [if_neg k, if_neg (by omega)]
        omega
theorem rowO_le {L : Nat → Nat → List Int} {q i P : Nat} (h : ∀ b, b < P → (L i b).length ≤ 64) : ∀ m, m ≤ P → rowO L q i m ≤ 64 * m
  | 0, _ => Nat.zero_le _
  | m + 1, hm => by
    unfold rowO
    have h1 := rowO_le (q := q) h m (by omega)
    have h2 := h m (by omega)
    split <;> omega
theorem cntO_le {L : Nat → Nat → List Int} {q P : Nat} (h : ∀ a b, a < P → b < P → (L a b).length ≤ 64) : ∀ m, m ≤ P → cntO L q P m ≤ 64 * P * m
  | 0, _ => Nat.zero_le _
  | m + 1, hm => by
    unfold cntO
    have h1 := cntO_le (q := q) h m (by omega)
    have h2 := rowO_le (q := q) (fun b hb => h m b (by omega) hb) P (Nat.le_refl _)
    rw [Nat.mul_succ]
    omega
theorem cntO_nil {q P : Nat} : ∀ m, cntO (fun _ _ => []) q P m = 0 := by
  have hr : ∀ i m, rowO (fun _ _ => []) q i m = 0 := by
    intro i m
    induction m with
    | zero => rfl
    | succ m ih => unfold rowO; rw [ih]; split <;> rfl
  intro m
  induction m with
  | zero => rfl
  | succ m ih => unfold cntO; rw [ih, hr]
theorem pendK_len {L : Nat → Nat → List Int} {q P : Nat} (h : ∀ a, a < P → (L a q).length ≤ 64) : ∀ m j, j + m ≤ P → (pendK L q m j).length ≤ 64 * m
  | 0, _, _ => Nat.zero_le _
  | m + 1, j, hm => by
    unfold pendK
    rw [List.length_append, List.length_map]
    have h1 := pendK_len (q := q) h m (j + 1) (by omega)
    have h2 := h j (by omega)
    omega
theorem remE_le {L : Nat → Nat → List Int} {q P S : Nat} (h : ∀ a, a < P → (L a q).length ≤ S) : ∀ m j, j + m ≤ P → remE L q m j ≤ (3 * S + 1) * m
  | 0, _, _ => Nat.zero_le _
  | m + 1, j, hm => by
    unfold remE
    have h1 := remE_le (q := q) h m (j + 1) (by omega)
    have h2 := h j (by omega)
    rw [Nat.mul_succ]
    omega
theorem drop_cons {α : Type} : ∀ {l : List α} {n : Nat} {a : α} {r : List α}, l.drop n = a :: r → l[n]? = some a ∧ l.drop (n + 1) = r
  | [], n, a, r, h => by simp at h
  | x :: l, 0, a, r, h => by
    rw [List.drop_zero] at h
    injection h with h1 h2
    exact ⟨by rw [h1]; rfl, by simpa using h2⟩
  | x :: l, n + 1, a, r, h => by
    rw [List.drop_succ_cons] at h
    obtain ⟨h1, h2⟩ := drop_cons h
    exact ⟨by simpa using h1, by simpa using h2⟩
/-- Lists of numbers, by port, in a list of the call's own. -/
structure WsAt (h : Heap) (base wb P : Nat) (An : Nat → Option Addr) (cn : Nat → Nat) (w : Nat → List Int) : Prop where
  blk : h[wb]? = some (.cells ((List.range P).map fun a => Value.slice (An a) (w a).length (cn a)).toArray 90 (0, 0))
  own : ∀ a, a < P → OwnA encI 1 3 base h (An a) (cn a) (w a)
  sep : ∀ a b k, a < P → b < P → a ≠ b → An a = some ⟨k, 0, none⟩ → An b ≠ some ⟨k, 0, none⟩
def upf {α : Type} (f : Nat → α) (a : Nat) (x : α) : Nat → α := fun b => if b = a then x else f b
theorem upf_self {α : Type} {f : Nat → α} {a : Nat} {x : α} : upf f a x a = x := if_pos rfl
theorem upf_ne {α : Type} {f : Nat → α} {a b : Nat} {x : α} (h : b ≠ a) : upf f a x b = f b := if_neg h
section
variable {h h' : Heap} {base wb P : Nat} {An : Nat → Option Addr} {cn : Nat → Nat} {w : Nat → List Int}
theorem WsAt.ext (W : WsAt h base wb P An cn w) (x : Ext h h') : WsAt h' base wb P An cn w := ⟨x.blk W.blk, fun a ha => (W.own a ha).ext x, W.sep⟩
theorem WsAt.chg (W : WsAt h base wb P An cn w) {l : List (Nat × TypeId)} (c : Chg l h h') (n1 : ∀ k, (k, 90) ∉ l) (n2 : ∀ k, base ≤ k → (k, 3) ∉ l) : WsAt h' base wb P An cn w :=
  ⟨c.blk W.blk (n1 _), fun a ha => (W.own a ha).chg c fun b hb => n2 _ ((W.own a ha).ge b hb), W.sep⟩
theorem WsAt.cell (W : WsAt h base wb P An cn w) {a : Nat} (ha : a < P) : Go.Proofs.YthoikbogkhpciaaGreatE.cell h ⟨wb, a, none⟩ = some (.slice (An a) (w a).length (cn a)) := by
  refine cell_arr W.blk ?_
  rw [List.getElem?_toArray, List.getElem?_map, List.getElem?_range ha]
  rfl
theorem WsAt.put (W : WsAt h base wb P An cn w) {h2 h3 : Heap} {a : Nat} (ha : a < P) {A' : Option Addr} {c' n : Nat} {y : Int} (hb : base ≤ h.size) (o : OwnA encI 1 3 base h2 A' c' (w a ++ [y])) (k : KeepA (An a) h h2) (fr : A' = An a ∨ ∃ b, A' = some ⟨b, 0, none⟩ ∧ h.size ≤ b) (hn : n = (w a).length + 1) (s : Stored h2 ⟨wb, a, none⟩ [.slice A' n c'] h3) :
    WsAt h3 base wb P (upf An a A') (upf cn a c') (upf w a (w a ++ [y])) := by
  have b2 : h2[wb]? = _ := k.blkT (W.own a ha) W.blk (by decide)
  have c3 : Chg [(wb, 90)] h2 h3 := s.chg b2 (.head _)
  refine ⟨?_, fun b hb => ?_, fun b b' j hb hb' ne e => ?_⟩
  · rw [s.put b2]
    congr 2
    apply congrArg List.toArray
    apply List.ext_getElem?
    intro i
    rw [show lset ((List.range P).map fun a => Value.slice (An a) (w a).length (cn a)) a [.slice A' n c'] = ((List.range P).map fun a => Value.slice (An a) (w a).length (cn a)).set a (.slice A' n c') from rfl, List.getElem?_set, List.getElem?_map, List.getElem?_map, List.length_map, List.length_range]
    by_cases e : a = i
    · subst e
      rw [if_pos rfl, if_pos ha, List.getElem?_range ha]
      show some (Value.slice A' n c') = some (Value.slice (upf An a A' a) (upf w a (w a ++ [y]) a).length (upf cn a c' a))
      rw [upf_self, upf_self, upf_self, List.length_append, hn]
      rfl
    · rw [if_neg e]
      rcases Nat.lt_or_ge i P with g | g
      · rw [List.getElem?_range g]
        show some (Value.slice (An i) (w i).length (cn i)) = some (Value.slice (upf An a A' i) (upf w a (w a ++ [y]) i).length (upf cn a c' i))
        rw [upf_ne (Ne.symm e), upf_ne (Ne.symm e), upf_ne (Ne.symm e)]
      · rw [List.getElem?_eq_none (by rw [List.length_range]; exact g)]
        rfl
  · by_cases e : b = a
    · subst e
      rw [upf_self, upf_self, upf_self]
      exact o.chg c3 (fun b _ => by simp)
    · rw [upf_ne e, upf_ne e, upf_ne e]
      refine ((W.own b hb).keepO k (W.own a ha) ?_).chg c3 (fun b _ => by simp)
      cases hA : An b with
      | none => exact .inr (.inl rfl)
      | some z =>
        refine .inr (.inr fun e2 => ?_)
        rcases W.own b hb with ⟨e3, _⟩ | ⟨k', _, e3, _⟩
        · rw [hA] at e3; cases e3
        · exact W.sep b a k' hb ha e e3 (by rw [← e2, ← hA]; exact e3)
  · have big : ∀ z, z < P → ∀ j, An z = some ⟨j, 0, none⟩ → j < h.size := fun z hz j e => by
      rcases W.own z hz with ⟨e3, _⟩ | ⟨k', _, e3, _, hk, _⟩
      · rw [e] at e3; cases e3
      · rw [e] at e3; cases e3; exact blk_lt hk
    by_cases e1 : b = a
    · subst e1
      rw [upf_self] at e
      rw [upf_ne (Ne.symm ne)]
      intro e2
      rcases fr with e3 | ⟨b2', e3, g⟩
      · rw [e3] at e
        exact W.sep b b' j hb hb' ne e e2
      · rw [e3] at e
        cases e
        have := big b' hb' _ e2
        omega
    · rw [upf_ne e1] at e
      by_cases e2 : b' = a
      · subst e2
        rw [upf_self]
        rcases fr with e3 | ⟨b2', e3, g⟩
        · rw [e3]
          exact W.sep b b' j hb hb' ne e
        · rw [e3]
          intro e4
          cases e4
          have := big b hb _ e
          omega
      · rw [upf_ne e2]
        exact W.sep b b' j hb hb' ne e
/-- Its lists' blocks, to be kept. -/
theorem WsAt.keep (W : WsAt h base wb P An cn w) : ∀ n, n ≤ P → ∃ pl : List (Nat × Array Value), (∀ p ∈ pl, h[p.1]? = some (.cells p.2 3 (0, 0)) ∧ base ≤ p.1) ∧ ∀ a, a < n → ∀ k, An a = some ⟨k, 0, none⟩ → ∃ cs, (k, cs) ∈ pl ∧ h[k]? = some (.cells cs 3 (0, 0))
  | 0, _ => ⟨[], by simp, fun a ha => absurd ha (Nat.not_lt_zero a)⟩
  | n + 1, hn => by
    obtain ⟨pl, h1, h2⟩ := W.keep n (by omega)
    rcases W.own n (by omega) with ⟨e, _⟩ | ⟨k, rest, e, hg, hb, _⟩
    · refine ⟨pl, h1, fun a ha k hk => ?_⟩
      by_cases g : a = n
      · subst g; rw [e] at hk; cases hk
      · exact h2 a (by omega) k hk
    · refine ⟨(k, ((w n).flatMap encI ++ rest).toArray) :: pl, fun p hp => ?_, fun a ha k' hk => ?_⟩
      · rcases List.mem_cons.1 hp with hp | hp
        · subst hp
          exact ⟨hb, hg⟩
        · exact h1 p hp
      · by_cases g : a = n
        · subst g
          rw [e] at hk
          cases hk
          exact ⟨_, .head _, hb⟩
        · obtain ⟨cs, m1, m2⟩ := h2 a (by omega) k' hk
          exact ⟨cs, .tail _ m1, m2⟩
theorem WsAt.after (W : WsAt h base wb P An cn w) {pl : List (Nat × Array Value)} (hk : ∀ a, a < P → ∀ k, An a = some ⟨k, 0, none⟩ → ∃ cs, (k, cs) ∈ pl ∧ h[k]? = some (.cells cs 3 (0, 0))) (hw : h'[wb]? = h[wb]?) (hp : ∀ p ∈ pl, h'[p.1]? = some (.cells p.2 3 (0, 0))) : WsAt h' base wb P An cn w := by
  refine ⟨by rw [hw]; exact W.blk, fun a ha => ?_, W.sep⟩
  rcases W.own a ha with ⟨e, r⟩ | ⟨k, rest, e, hg, hb, r⟩
  · exact .inl ⟨e, r⟩
  · obtain ⟨cs, m1, m2⟩ := hk a ha k e
    rw [hb] at m2
    cases m2
    exact .inr ⟨k, rest, e, hg, hp _ m1, r⟩
end
theorem FabAt.withP {h : Heap} {F : Fb} (H : FabAt h F) (pl : List (Nat × Array Value)) : FabAt h { F with prot := pl } := ⟨H.blk, H.rules, H.vls, H.p1, H.p2, H.s1, H.s2, H.r1, H.v1⟩
theorem Rings.withP {h : Heap} {B : Nat} {F : Fb} {M : MemS} {L : Nat → Nat → List Int} {ib ob : Nat → Nat → Bool} (W : Rings h B F M L ib ob) (pl : List (Nat × Array Value)) : Rings h B { F with prot := pl } M L ib ob := ⟨W.ring, W.inj, W.ge, W.len, W.big⟩
end Go.Proofs.YthoikbogkhpciaaGreatE
