/- Lists that a call made itself: what is stored, appended, made. Conditions: none. -/
import Derived.Test.YtgiofdiifkahoaaGreatXLib
set_option linter.unusedVariables false
set_option linter.unusedSimpArgs false
namespace Go.Proofs.YtgiofdiifkahoaaGreatE
open Go

theorem set_same {α : Type} {l : List α} {i : Nat} {x : α} (h : l[i]? = some x) : l.set i x = l := by
  obtain ⟨hi, rfl⟩ := List.getElem?_eq_some_iff.1 h
  exact List.set_getElem_self hi
theorem lset_len : ∀ (vs cs : List Value) (o : Nat), (lset cs o vs).length = cs.length
  | [], _, _ => rfl
  | v :: vs, cs, o => by simp only [lset]; rw [lset_len vs]; simp
theorem lset_left : ∀ (vs a b : List Value) (o : Nat), o + vs.length ≤ a.length → lset (a ++ b) o vs = lset a o vs ++ b
  | [], _, _, _, _ => rfl
  | v :: vs, a, b, o, h => by
    simp only [List.length_cons] at h
    simp only [lset]
    rw [List.set_append_left _ _ (by omega), lset_left vs (a.set o v) b (o + 1) (by simp; omega)]
theorem lset_flat {α : Type} {enc : α → List Value} {sz : Nat} {vs rest : List Value} {x x' : α} {j : Nat} : ∀ {xs : List α} {i : Nat}, (∀ x ∈ xs, (enc x).length = sz) → xs[i]? = some x → j + vs.length ≤ sz → enc x' = lset (enc x) j vs →
    lset (xs.flatMap enc ++ rest) (i * sz + j) vs = (xs.set i x').flatMap enc ++ rest := by
  intro xs
  induction xs with
  | nil => intro i _ hx; simp at hx
  | cons y xs ih =>
    intro i hl hx hj he
    have hy : (enc y).length = sz := hl y (by simp)
    cases i with
    | zero =>
      simp only [List.getElem?_cons_zero, Option.some.injEq] at hx
      subst hx
      simp only [List.flatMap_cons, List.set_cons_zero, Nat.zero_mul, Nat.zero_add, List.append_assoc]
      rw [lset_left _ _ _ _ (by omega), he]
    | succ i =>
      simp only [List.flatMap_cons, List.set_cons_succ, List.append_assoc]
      have e1 : (i + 1) * sz + j = (enc y).length + (i * sz + j) := by rw [hy, Nat.succ_mul]; omega
      rw [e1, lset_right, ih (fun x hx => hl x (by simp [hx])) (by simpa using hx) hj he]

theorem flat_len {α : Type} {enc : α → List Value} {sz : Nat} : ∀ {xs : List α}, (∀ x ∈ xs, (enc x).length = sz) → (xs.flatMap enc).length = xs.length * sz
  | [], _ => by simp
  | x :: xs, h => by
    rw [List.flatMap_cons, List.length_append, h x (by simp), flat_len (fun y hy => h y (by simp [hy])), List.length_cons, Nat.succ_mul]; omega

/-- The slice at A of capacity c holds xs, in a block from base on that is nobody else's; or it is nil. -/
def OwnA {α : Type} (enc : α → List Value) (sz : Nat) (T : TypeId) (base : Nat) (h : Heap) (A : Option Addr) (c : Nat) (xs : List α) : Prop :=
  (A = none ∧ xs = [] ∧ c = 0) ∨ ∃ b rest, A = some ⟨b, 0, none⟩ ∧ base ≤ b ∧ h[b]? = some (.cells (xs.flatMap enc ++ rest).toArray T (0, 0)) ∧ rest.length = (c - xs.length) * sz ∧ xs.length ≤ c
section
variable {α : Type} {enc : α → List Value} {sz : Nat} {T : TypeId} {base : Nat} {h h' : Heap} {A : Option Addr} {c : Nat} {xs : List α}
theorem OwnA.row (H : OwnA enc sz T base h A c xs) (hl : ∀ x, (enc x).length = sz) : Row enc sz h A xs := by
  rcases H with ⟨rfl, rfl, rfl⟩ | ⟨b, rest, rfl, _, hb, _⟩
  · exact Row.nil
  · exact row_blk hb fun x _ => hl x
theorem OwnA.ext (H : OwnA enc sz T base h A c xs) (x : Ext h h') : OwnA enc sz T base h' A c xs := by
  rcases H with H | ⟨b, rest, e, hg, hb, hr, hc⟩
  · exact .inl H
  · exact .inr ⟨b, rest, e, hg, x.blk hb, hr, hc⟩
theorem OwnA.mono {base' : Nat} (H : OwnA enc sz T base h A c xs) (hb : base' ≤ base) : OwnA enc sz T base' h A c xs := by
  rcases H with H | ⟨b, rest, e, hg, r⟩
  · exact .inl H
  · exact .inr ⟨b, rest, e, Nat.le_trans hb hg, r⟩
theorem OwnA.made (n : Nat) {b : Nat} {zs : List Value} {z : α} (hn : New h h' b (.cells (List.replicate n zs).flatten.toArray T)) (hz : enc z = zs) (hg : base ≤ h.size) : OwnA enc sz T base h' (some ⟨b, 0, none⟩) n (List.replicate n z) := by
  refine .inr ⟨b, [], rfl, by rw [hn.at_]; exact hg, ?_, by simp, by simp⟩
  have e : (List.replicate n zs).flatten = (List.replicate n z).flatMap enc ++ [] := by
    rw [List.append_nil, List.flatMap_replicate, hz]
  have := hn.this
  rw [e] at this
  exact this
/-- An element, or some fields of it, may be stored. -/
theorem OwnA.canset (H : OwnA enc sz T base h A c xs) (hl : ∀ x, (enc x).length = sz) {i j n : Nat} (hi : i < xs.length) (hj : j + n ≤ sz) : ∃ b, A = some ⟨b, 0, none⟩ ∧ base ≤ b ∧ CanSet h ⟨b, i * sz + j, none⟩ n := by
  rcases H with ⟨_, rfl, _⟩ | ⟨b, rest, e, hg, hb, hr, hc⟩
  · simp at hi
  refine ⟨b, e, hg, canset_blk hb (Nat.ble_eq_true_of_le ?_)⟩
  have h1 := flat_len (xs := xs) fun x _ => hl x
  have h2 : (i + 1) * sz ≤ xs.length * sz := Nat.mul_le_mul_right _ hi
  rw [Nat.succ_mul] at h2
  simp only [List.size_toArray, List.length_append]
  omega
theorem OwnA.put (H : OwnA enc sz T base h A c xs) (hl : ∀ x, (enc x).length = sz) {b i j : Nat} {vs : List Value} {x x' : α} (hA : A = some ⟨b, 0, none⟩) (s : Stored h ⟨b, i * sz + j, none⟩ vs h') (hx : xs[i]? = some x) (hj : j + vs.length ≤ sz) (he : enc x' = lset (enc x) j vs) :
    OwnA enc sz T base h' A c (xs.set i x') := by
  rcases H with ⟨e, _, _⟩ | ⟨b', rest, e, hg, hb, hr, hc⟩
  · rw [hA] at e; cases e
  rw [hA] at e; cases e
  refine .inr ⟨b, rest, hA, hg, ?_, by simpa using hr, by simpa using hc⟩
  rw [s.put hb, lset_flat (fun x _ => hl x) hx hj he]
/-- What is stored elsewhere leaves it alone. -/
theorem OwnA.other (H : OwnA enc sz T base h A c xs) {a : Addr} {vs : List Value} (s : Stored h a vs h') (hne : ∀ b, A = some ⟨b, 0, none⟩ → b ≠ a.block) : OwnA enc sz T base h' A c xs := by
  rcases H with H | ⟨b, rest, e, hg, hb, r⟩
  · exact .inl H
  · exact .inr ⟨b, rest, e, hg, s.blk hb (hne b e), r⟩
theorem OwnA.le (H : OwnA enc sz T base h A c xs) : xs.length ≤ c := by
  rcases H with ⟨_, rfl, rfl⟩ | ⟨_, _, _, _, _, _, hc⟩
  · exact Nat.le_refl _
  · exact hc
theorem OwnA.reads (H : OwnA enc sz T base h A c xs) : readsOf h A (xs.flatMap enc) := by
  rcases H with ⟨rfl, rfl, _⟩ | ⟨b, rest, rfl, _, hb, _⟩
  · rfl
  · exact reads_blk hb fun j v hj => by
      have hlt := (List.getElem?_eq_some_iff.1 hj).1
      rw [Nat.zero_add, List.getElem?_toArray, List.getElem?_append_left hlt]; exact hj
/-- What is there before an append. -/
theorem OwnA.appendOk (H : OwnA enc sz T base h A c xs) (hl : ∀ x, (enc x).length = sz) {m bytes : Nat} {ys : List α} {B : Option Addr} (hm : ys.length = m) (fit : (xs.length + m) * bytes ≤ 140737488355328) (pos : 0 < bytes) (ry : readsOf h B (ys.flatMap enc)) (one : (ys.flatMap enc).all Value.oneCell' = true) :
    AppendOk h A xs.length c sz m bytes (xs.flatMap enc) (ys.flatMap enc) B := by
  refine ⟨fit, pos, fun _ => flat_len fun x _ => hl x, fun _ => by rw [flat_len fun x _ => hl x, hm], H.reads, ry, one, ?_⟩
  intro hroom a ha
  rcases H with ⟨e, _, _⟩ | ⟨b, rest, e, hg, hb, hr, hc⟩
  · rw [ha] at e; cases e
  rw [ha] at e; cases e
  rw [add_lit, Nat.zero_add]
  refine canset_blk hb (Nat.ble_eq_true_of_le ?_)
  have h1 := flat_len (xs := xs) fun x _ => hl x
  have h2 := flat_len (xs := ys) fun x _ => hl x
  have h3 : (xs.length + m) * sz ≤ c * sz := Nat.mul_le_mul_right _ hroom
  rw [Nat.add_mul] at h3
  have h4 : (c - xs.length) * sz = c * sz - xs.length * sz := Nat.sub_mul ..
  simp only [List.size_toArray, List.length_append, h1, hr, h2, hm]
  omega
theorem OwnA.appended (H : OwnA enc sz T base h A c xs) (hl : ∀ x, (enc x).length = sz) {m : Nat} {ys : List α} (hm : ys.length = m) {a : Addr} (ha : A = some a) (hroom : xs.length + m ≤ c) (s : Stored h (a.add (xs.length * sz)) (ys.flatMap enc) h') :
    OwnA enc sz T base h' A c (xs ++ ys) := by
  rcases H with ⟨e, _, _⟩ | ⟨b, rest, e, hg, hb, hr, hc⟩
  · rw [ha] at e; cases e
  rw [ha] at e; cases e
  rw [add_lit, Nat.zero_add] at s
  have h1 := flat_len (xs := xs) fun x _ => hl x
  have h2 := flat_len (xs := ys) fun x _ => hl x
  have h3 : (xs.length + m) * sz ≤ c * sz := Nat.mul_le_mul_right _ hroom
  rw [Nat.add_mul] at h3
  have h4 : (c - xs.length) * sz = c * sz - xs.length * sz := Nat.sub_mul ..
  refine .inr ⟨b, rest.drop (ys.flatMap enc).length, ha, hg, ?_, ?_, by rw [List.length_append]; omega⟩
  · rw [s.put hb, show xs.length * sz = (xs.flatMap enc).length + 0 by omega, lset_right, lset_all _ _ (by rw [h2, hr, hm]; omega), List.flatMap_append, List.append_assoc]
  · rw [List.length_drop, hr, h2, hm, List.length_append, hm, show c - (xs.length + m) = (c - xs.length) - m by omega, Nat.sub_mul (c - xs.length) m sz]
theorem OwnA.grown {xs ys : List α} {zs : List Value} {n m cap b : Nat} (hx : xs.length = n) (hm : ys.length = m) (hz : zs.length = sz) (hcap : n + m ≤ cap) (hn : New h h' b (.cells (xs.flatMap enc ++ ys.flatMap enc ++ (List.replicate (cap - (n + m)) zs).flatten).toArray T)) (hg : base ≤ h.size) :
    OwnA enc sz T base h' (some ⟨b, 0, none⟩) cap (xs ++ ys) := by
  refine .inr ⟨b, (List.replicate (cap - (n + m)) zs).flatten, rfl, by rw [hn.at_]; exact hg, ?_, ?_, by rw [List.length_append]; omega⟩
  · rw [List.flatMap_append]; exact hn.this
  · rw [List.length_flatten, List.length_append, hx, hm]
    simp [hz]
end
/-- All is as it was but the block at A. -/
structure KeepA (A : Option Addr) (h h' : Heap) : Prop where
  size : h.size ≤ h'.size
  old : ∀ k, k < h.size → A ≠ some ⟨k, 0, none⟩ → h'[k]? = h[k]?
theorem Ext.keepA {h h' : Heap} (x : Ext h h') (A : Option Addr) : KeepA A h h' := ⟨x.size, fun k hk _ => x.old k hk⟩
theorem KeepA.trans {A : Option Addr} {a b c : Heap} (x : KeepA A a b) (y : KeepA A b c) : KeepA A a c := ⟨Nat.le_trans x.size y.size, fun k hk hA => (y.old k (Nat.lt_of_lt_of_le hk x.size) hA).trans (x.old k hk hA)⟩
theorem Stored.keepA {h h' : Heap} {b o : Nat} {vs : List Value} (s : Stored h ⟨b, o, none⟩ vs h') : KeepA (some ⟨b, 0, none⟩) h h' := ⟨Nat.le_of_eq s.size.symm, fun k _ hA => s.other k fun e => hA (by subst e; rfl)⟩
theorem KeepA.blk {A : Option Addr} {h h' : Heap} (x : KeepA A h h') {b : Nat} {o : Obj} (H : h[b]? = some o) (hA : A ≠ some ⟨b, 0, none⟩) : h'[b]? = some o := (x.old b (blk_lt H) hA).trans H
theorem KeepA.ext {A : Option Addr} {h0 h h' : Heap} (x : KeepA A h h') (e : Ext h0 h) (hA : ∀ b, A = some ⟨b, 0, none⟩ → h0.size ≤ b) : Ext h0 h' :=
  ⟨Nat.le_trans e.size x.size, fun k hk => (x.old k (Nat.lt_of_lt_of_le hk e.size) fun ha => by have := hA k ha; omega).trans (e.old k hk)⟩
theorem OwnA.ge {α : Type} {enc : α → List Value} {sz : Nat} {T : TypeId} {base : Nat} {h : Heap} {A : Option Addr} {c : Nat} {xs : List α} (H : OwnA enc sz T base h A c xs) : ∀ b, A = some ⟨b, 0, none⟩ → base ≤ b := by
  intro b hb
  rcases H with ⟨e, _, _⟩ | ⟨b', _, e, hg, _⟩
  · rw [e] at hb; cases hb
  · rw [e] at hb; cases hb; exact hg
/-- One more element behind a list of one's own. -/
theorem xappend_one {α : Type} {enc : α → List Value} {sz bytes base b n : Nat} {P : Program} {T : TypeId} {zs : List Value} {h h1 : Heap} {A : Option Addr} {c : Nat} {xs : List α} {x : α} {K : Value → Heap → Prop}
    (hi : (P.info? T).map (fun i => (i.size, i.bytes)) = some (sz, bytes)) (hz : xzero P T = some zs) (hzl : zs.length = sz) (hpos : 0 < bytes) (hl : ∀ x, (enc x).length = sz) (hone : ∀ x, (enc x).all Value.oneCell' = true)
    (own : OwnA enc sz T base h A c xs) (n1 : New h h1 b (.cells (enc x).toArray T)) (hn : xs.length = n) (fit : (n + 1) * bytes ≤ 140737488355328) (hbase : base ≤ h.size)
    (hk : ∀ A' c' h', OwnA enc sz T base h' A' c' (xs ++ [x]) → KeepA A h h' → K (.slice A' (n + 1) c') h') : XAppend P T h1 A n c (some ⟨b, 0, none⟩) 1 K := by
  subst hn
  cases hinf : P.info? T with
  | none => rw [hinf] at hi; cases hi
  | some i =>
    rw [hinf] at hi
    simp only [Option.map_some, Option.some.injEq, Prod.mk.injEq] at hi
    obtain ⟨rfl, rfl⟩ := hi
    have own1 := own.ext n1.ext
    have hfm : [x].flatMap enc = enc x := by simp
    refine ⟨i, zs, xs.flatMap enc, [x].flatMap enc, hinf, hz, own1.appendOk hl rfl fit hpos (by rw [hfm]; exact reads_all n1.this) (by rw [hfm]; exact hone x), ?_, ?_, ?_⟩
    · intro hroom hA
      rcases own with ⟨_, rfl, rfl⟩ | ⟨b', _, e, _⟩
      · simp at hroom
      · rw [hA] at e; cases e
    · intro hroom a h' hA s
      refine hA ▸ hk A c h' (own1.appended hl rfl hA hroom s) ?_
      rcases own with ⟨e, _⟩ | ⟨b', _, e, _⟩
      · rw [hA] at e; cases e
      · rw [hA] at e; cases e
        rw [add_lit] at s
        rw [hA]
        exact (n1.ext.keepA _).trans s.keepA
    · intro hlt cap b' h' hcap n2
      exact hk _ cap h' (OwnA.grown rfl rfl hzl hcap n2 (Nat.le_trans hbase n1.ext.size)) ((n1.ext.trans n2.ext).keepA _)
/-- A new block that is stored whole. -/
theorem lset_full : ∀ (vs zs : List Value), zs.length = vs.length → lset zs 0 vs = vs := by
  intro vs zs h
  rw [lset_all vs zs (by omega), List.drop_eq_nil_of_le (by omega), List.append_nil]
theorem New.fill {h h' h'' : Heap} {b : Nat} {zs vs : List Value} {T : TypeId} (n : New h h' b (.cells zs.toArray T)) (hl : zs.length = vs.length) (s : Stored h' ⟨b, 0, none⟩ vs h'') : h''[b]? = some (.cells vs.toArray T (0, 0)) := by
  have := s.put n.this
  rwa [lset_full vs zs hl] at this
end Go.Proofs.YtgiofdiifkahoaaGreatE
