/- Lemmas on heaps for these proofs: blocks, cells, rows. Conditions: none. -/
import Derived.Test.YtjjempefncgfhaaGreatDoorXEng
set_option linter.unusedVariables false
set_option linter.unusedSimpArgs false
namespace Go.Proofs.YtjjempefncgfhaaGreatDoorE
open Go

/-! ### Blocks -/
theorem blk_lt {h : Heap} {b : Nat} {o : Obj} (H : h[b]? = some o) : b < h.size := (Array.getElem?_eq_some_iff.1 H).1
theorem Ext.refl (h : Heap) : Ext h h := ⟨Nat.le_refl _, fun _ _ => rfl⟩
theorem Ext.trans {a b c : Heap} (x : Ext a b) (y : Ext b c) : Ext a c := ⟨Nat.le_trans x.size y.size, fun k hk => (y.old k (Nat.lt_of_lt_of_le hk x.size)).trans (x.old k hk)⟩
theorem New.ext {h h' : Heap} {b : Nat} {o : Obj} (n : New h h' b o) : Ext h h' := ⟨by have := n.size; omega, n.old⟩
theorem Ext.new {a h h' : Heap} {b : Nat} {o : Obj} (x : Ext a h) (n : New h h' b o) : Ext a h' := x.trans n.ext
theorem Ext.blk {h h' : Heap} (x : Ext h h') {b : Nat} {o : Obj} (H : h[b]? = some o) : h'[b]? = some o := (x.old b (blk_lt H)).trans H
theorem New.ge {h0 h h' : Heap} {b : Nat} {o : Obj} (n : New h h' b o) (x : Ext h0 h) : h0.size ≤ b := by have := n.at_; have := x.size; omega
theorem New.lt {h h' : Heap} {b : Nat} {o : Obj} (n : New h h' b o) {k : Nat} {o' : Obj} (H : h[k]? = some o') : k < b := by have := n.at_; have := blk_lt H; omega
theorem Ext.stored {h0 h h' : Heap} {a : Addr} {vs : List Value} (x : Ext h0 h) (s : Stored h a vs h') (hb : h0.size ≤ a.block) : Ext h0 h' :=
  ⟨by rw [s.size]; exact x.size, fun k hk => (s.other k (by omega)).trans (x.old k hk)⟩
theorem Stored.blk {h h' : Heap} {a : Addr} {vs : List Value} (s : Stored h a vs h') {b : Nat} {o : Obj} (H : h[b]? = some o) (hb : b ≠ a.block) : h'[b]? = some o := (s.other b hb).trans H
/-! ### Cells -/
def nth {α : Type} : List α → Nat → Option α
  | [], _ => none
  | x :: _, 0 => some x
  | _ :: xs, n + 1 => nth xs n
theorem nth_eq {α : Type} : ∀ (l : List α) (n : Nat), nth l n = l[n]?
  | [], _ => rfl
  | _ :: _, 0 => rfl
  | _ :: xs, n + 1 => nth_eq xs n
theorem cell_arr {h : Heap} {b j : Nat} {c : Array Value} {e : TypeId} {f : Nat × Nat} {v : Value} (H : h[b]? = some (.cells c e f)) (hv : c[j]? = some v) : cell h ⟨b, j, none⟩ = some v := by
  simp [cell, H, hv]
theorem cell_blk {h : Heap} {b j : Nat} {ws : List Value} {e : TypeId} {f : Nat × Nat} {v : Value} (H : h[b]? = some (.cells ws.toArray e f)) (hv : nth ws j = some v) : cell h ⟨b, j, none⟩ = some v :=
  cell_arr H (by rw [nth_eq] at hv; simpa using hv)
theorem cell_of_block {h h' : Heap} {a : Addr} (H : h'[a.block]? = h[a.block]?) : cell h' a = cell h a := by unfold cell; rw [H]
theorem Ext.cell {h h' : Heap} (x : Ext h h') {a : Addr} {v : Value} (H : cell h a = some v) : cell h' a = some v := by
  obtain ⟨c, e, f, hb, _, _⟩ := cell_some H
  rw [cell_of_block (x.old _ (blk_lt hb))]; exact H
theorem Ext.reads {h h' : Heap} (x : Ext h h') {a : Addr} {vs : List Value} (H : Reads h a vs) : Reads h' a vs := fun j v hj => x.cell (H j v hj)
theorem Stored.cell {h h' : Heap} {a p : Addr} {vs : List Value} {v : Value} (s : Stored h a vs h') (H : YtjjempefncgfhaaGreatDoorE.cell h p = some v) (hb : p.block ≠ a.block) : YtjjempefncgfhaaGreatDoorE.cell h' p = some v := by
  rw [cell_of_block (s.other _ hb)]; exact H
theorem add_lit (b o n : Nat) : (⟨b, o, none⟩ : Addr).add n = ⟨b, o + n, none⟩ := by unfold Addr.add; split <;> simp_all
theorem reads_blk {h : Heap} {b o : Nat} {c : Array Value} {e : TypeId} {f : Nat × Nat} {vs : List Value} (H : h[b]? = some (.cells c e f)) (hv : ∀ j v, vs[j]? = some v → c[o + j]? = some v) : Reads h ⟨b, o, none⟩ vs := by
  intro j v hj
  rw [add_lit]
  exact cell_arr H (hv j v hj)
/-- A whole small block. -/
theorem reads_all {h : Heap} {b : Nat} {vs : List Value} {e : TypeId} {f : Nat × Nat} (H : h[b]? = some (.cells vs.toArray e f)) : Reads h ⟨b, 0, none⟩ vs := reads_blk H fun j v hj => by simpa using hj
/-- Out of a small block, from o on. -/
theorem reads_at {h : Heap} {b o : Nat} {ws vs : List Value} {e : TypeId} {f : Nat × Nat} (H : h[b]? = some (.cells ws.toArray e f)) (hv : (ws.drop o).take vs.length = vs) : Reads h ⟨b, o, none⟩ vs := reads_blk H fun j v hj => by
  have hl : j < vs.length := (List.getElem?_eq_some_iff.1 hj).1
  rw [← hv, List.getElem?_take, if_pos hl, List.getElem?_drop] at hj
  simpa using hj
theorem Reads.cons {h : Heap} {a : Addr} {v : Value} {vs : List Value} (H : Reads h a (v :: vs)) : cell h a = some v := by
  have := H 0 v (by simp)
  simpa [Addr.add] using this
theorem Reads.get {h : Heap} {a : Addr} {vs : List Value} (H : Reads h a vs) (j : Nat) {v : Value} (hj : vs[j]? = some v) : cell h (a.add j) = some v := H j v hj
theorem Reads.sub {h : Heap} {a : Addr} {vs us : List Value} (H : Reads h a vs) (o : Nat) (hu : (vs.drop o).take us.length = us) : Reads h (a.add o) us := by
  intro j v hj
  have hl : j < us.length := (List.getElem?_eq_some_iff.1 hj).1
  rw [add_add]
  refine H (o + j) v ?_
  rw [← hu, List.getElem?_take, if_pos hl, List.getElem?_drop] at hj
  exact hj
/-! ### Stores into a block of one's own -/
theorem wr_list : ∀ (vs ws : List Value) (o : Nat), wr ws.toArray o vs = (lset ws o vs).toArray := by
  intro vs
  induction vs with
  | nil => intro ws o; rfl
  | cons v vs ih => intro ws o; simp only [wr, lset]; rw [List.setIfInBounds_toArray, ih]
theorem canset_blk {h : Heap} {b o n : Nat} {c : Array Value} {e : TypeId} (H : h[b]? = some (.cells c e (0, 0))) (hn' : Nat.ble (o + n) c.size = true) : CanSet h ⟨b, o, none⟩ n := by
  have hn := Nat.le_of_ble_eq_true hn'
  refine ⟨fun j hj => ?_, fun j hj => ?_⟩
  · rw [add_lit]
    exact ⟨c[o + j]'(by omega), cell_arr H (by rw [Array.getElem?_eq_getElem])⟩
  · rw [add_lit]; simp [frozenAt, H]
theorem Stored.put {h h' : Heap} {b o : Nat} {vs ws : List Value} {e : TypeId} {f : Nat × Nat} (s : Stored h ⟨b, o, none⟩ vs h') (H : h[b]? = some (.cells ws.toArray e f)) : h'[b]? = some (.cells (lset ws o vs).toArray e f) := by
  rw [← wr_list]; exact s.this _ _ _ H

/-! ### Lists in memory -/
/-- Each element of xs, as enc lays it in sz cells, one behind the other from A on. -/
def Row {α : Type} (enc : α → List Value) (sz : Nat) (h : Heap) (A : Option Addr) (xs : List α) : Prop := ∀ i x, xs[i]? = some x → ∃ a, A = some a ∧ Reads h (a.add (i * sz)) (enc x)
theorem Ext.row {α : Type} {enc : α → List Value} {sz : Nat} {h h' : Heap} {A : Option Addr} {xs : List α} (x : Ext h h') (H : Row enc sz h A xs) : Row enc sz h' A xs := fun i y hy =>
  let ⟨a, ha, hr⟩ := H i y hy
  ⟨a, ha, x.reads hr⟩
theorem Row.nil {α : Type} {enc : α → List Value} {sz : Nat} {h : Heap} {A : Option Addr} : Row enc sz h A [] := fun i x hx => by simp at hx
theorem flat_get {α : Type} {enc : α → List Value} {sz : Nat} : ∀ {xs : List α}, (∀ x ∈ xs, (enc x).length = sz) → ∀ {i : Nat} {x : α}, xs[i]? = some x → ∀ {j : Nat} {v : Value}, (enc x)[j]? = some v → (xs.flatMap enc)[i * sz + j]? = some v := by
  intro xs
  induction xs with
  | nil => intro _ i x hx; simp at hx
  | cons y xs ih =>
    intro hl i x hx j v hj
    have hy : (enc y).length = sz := hl y (by simp)
    rw [List.flatMap_cons]
    cases i with
    | zero =>
      simp only [List.getElem?_cons_zero, Option.some.injEq] at hx
      subst hx
      rw [Nat.zero_mul, Nat.zero_add, List.getElem?_append_left (List.getElem?_eq_some_iff.1 hj).1]
      exact hj
    | succ i =>
      have e1 : (i + 1) * sz + j = sz + (i * sz + j) := by rw [Nat.succ_mul]; omega
      rw [e1, List.getElem?_append_right (by omega), hy, Nat.add_sub_cancel_left]
      exact ih (fun x hx => hl x (by simp [hx])) (by simpa using hx) hj
/-- A block of one's own that holds xs, and spare room behind it. -/
theorem row_blk {α : Type} {enc : α → List Value} {sz : Nat} {h : Heap} {b : Nat} {e : TypeId} {f : Nat × Nat} {xs : List α} {rest : List Value} (H : h[b]? = some (.cells (xs.flatMap enc ++ rest).toArray e f)) (hl : ∀ x ∈ xs, (enc x).length = sz) :
    Row enc sz h (some ⟨b, 0, none⟩) xs := by
  intro i x hx
  refine ⟨_, rfl, ?_⟩
  rw [add_lit, Nat.zero_add]
  refine reads_blk H fun j v hj => ?_
  have := flat_get hl hx hj
  have hlt := (List.getElem?_eq_some_iff.1 this).1
  rw [List.getElem?_toArray, List.getElem?_append_left hlt]
  exact this
end Go.Proofs.YtjjempefncgfhaaGreatDoorE
/- Lists that a call made itself: what is stored, appended, made. Conditions: none. -/
set_option linter.unusedVariables false
set_option linter.unusedSimpArgs false
namespace Go.Proofs.YtjjempefncgfhaaGreatDoorE
open Go

theorem set_same {α : Type} {l : List α} {i : Nat} {x : α} (h : l[i]? = some x) : l.set i x = l := by
  obtain ⟨hi, rfl⟩ := List.getElem?_eq_some_iff.1 h
  exact List.set_getElem_self hi
theorem lset_len : ∀ (vs cs : List Value) (o : Nat), (lset cs o vs).length = cs.length
  | [], _, _ => rfl
  | v :: vs, cs, o => by simp only [lset]; rw [lset_len vs]; simp
theorem lset_left : ∀ (vs a b : List Value) (o : Nat), o + vs.length ≤ a.length → lset (a ++ b) o vs = lset a o vs ++ b
  | [], _, _, _, _ => rfl
  | v :: vs, a, b, o, h => by
    simp only [List.length_cons] at h
    simp only [lset]
    rw [List.set_append_left _ _ (by omega), lset_left vs (a.set o v) b (o + 1) (by simp; omega)]
theorem lset_flat {α : Type} {enc : α → List Value} {sz : Nat} {vs rest : List Value} {x x' : α} {j : Nat} : ∀ {xs : List α} {i : Nat}, (∀ x ∈ xs, (enc x).length = sz) → xs[i]? = some x → j + vs.length ≤ sz → enc x' = lset (enc x) j vs →
    lset (xs.flatMap enc ++ rest) (i * sz + j) vs = (xs.set i x').flatMap enc ++ rest := by
  intro xs
  induction xs with
  | nil => intro i _ hx; simp at hx
  | cons y xs ih =>
    intro i hl hx hj he
    have hy : (enc y).length = sz := hl y (by simp)
    cases i with
    | zero =>
      simp only [List.getElem?_cons_zero, Option.some.injEq] at hx
      subst hx
      simp only [List.flatMap_cons, List.set_cons_zero, Nat.zero_mul, Nat.zero_add, List.append_assoc]
      rw [lset_left _ _ _ _ (by omega), he]
    | succ i =>
      simp only [List.flatMap_cons, List.set_cons_succ, List.append_assoc]
      have e1 : (i + 1) * sz + j = (enc y).length + (i * sz + j) := by rw [hy, Nat.succ_mul]; omega
      rw [e1, lset_right, ih (fun x hx => hl x (by simp [hx])) (by simpa using hx) hj he]

theorem flat_len {α : Type} {enc : α → List Value} {sz : Nat} : ∀ {xs : List α}, (∀ x ∈ xs, (enc x).length = sz) → (xs.flatMap enc).length = xs.length * sz
  | [], _ => by simp
  | x :: xs, h => by
    rw [List.flatMap_cons, List.length_append, h x (by simp), flat_len (fun y hy => h y (by simp [hy])), List.length_cons, Nat.succ_mul]; omega

/-- The slice at A of capacity c holds xs, in a block from base on that is nobody else's; or it is nil. -/
def OwnA {α : Type} (enc : α → List Value) (sz : Nat) (T : TypeId) (base : Nat) (h : Heap) (A : Option Addr) (c : Nat) (xs : List α) : Prop :=
  (A = none ∧ xs = [] ∧ c = 0) ∨ ∃ b rest, A = some ⟨b, 0, none⟩ ∧ base ≤ b ∧ h[b]? = some (.cells (xs.flatMap enc ++ rest).toArray T (0, 0)) ∧ rest.length = (c - xs.length) * sz ∧ xs.length ≤ c
section
variable {α : Type} {enc : α → List Value} {sz : Nat} {T : TypeId} {base : Nat} {h h' : Heap} {A : Option Addr} {c : Nat} {xs : List α}
theorem OwnA.row (H : OwnA enc sz T base h A c xs) (hl : ∀ x, (enc x).length = sz) : Row enc sz h A xs := by
  rcases H with ⟨rfl, rfl, rfl⟩ | ⟨b, rest, rfl, _, hb, _⟩
  · exact Row.nil
  · exact row_blk hb fun x _ => hl x
theorem OwnA.ext (H : OwnA enc sz T base h A c xs) (x : Ext h h') : OwnA enc sz T base h' A c xs := by
  rcases H with H | ⟨b, rest, e, hg, hb, hr, hc⟩
  · exact .inl H
  · exact .inr ⟨b, rest, e, hg, x.blk hb, hr, hc⟩
theorem OwnA.mono {base' : Nat} (H : OwnA enc sz T base h A c xs) (hb : base' ≤ base) : OwnA enc sz T base' h A c xs := by
  rcases H with H | ⟨b, rest, e, hg, r⟩
  · exact .inl H
  · exact .inr ⟨b, rest, e, Nat.le_trans hb hg, r⟩
theorem OwnA.made (n : Nat) {b : Nat} {zs : List Value} {z : α} (hn : New h h' b (.cells (List.replicate n zs).flatten.toArray T)) (hz : enc z = zs) (hg : base ≤ h.size) : OwnA enc sz T base h' (some ⟨b, 0, none⟩) n (List.replicate n z) := by
  refine .inr ⟨b, [], rfl, by rw [hn.at_]; exact hg, ?_, by simp, by simp⟩
  have e : (List.replicate n zs).flatten = (List.replicate n z).flatMap enc ++ [] := by
    rw [List.append_nil, List.flatMap_replicate, hz]
  have := hn.this
  rw [e] at this
  exact this
/-- An element, or some fields of it, may be stored. -/
theorem OwnA.canset (H : OwnA enc sz T base h A c xs) (hl : ∀ x, (enc x).length = sz) {i j n : Nat} (hi : i < xs.length) (hj : j + n ≤ sz) : ∃ b, A = some ⟨b, 0, none⟩ ∧ base ≤ b ∧ CanSet h ⟨b, i * sz + j, none⟩ n := by
  rcases H with ⟨_, rfl, _⟩ | ⟨b, rest, e, hg, hb, hr, hc⟩
  · simp at hi
  refine ⟨b, e, hg, canset_blk hb (Nat.ble_eq_true_of_le ?_)⟩
  have h1 := flat_len (xs := xs) fun x _ => hl x
  have h2 : (i + 1) * sz ≤ xs.length * sz := Nat.mul_le_mul_right _ hi
  rw [Nat.succ_mul] at h2
  simp only [List.size_toArray, List.length_append]
  omega
theorem OwnA.put (H : OwnA enc sz T base h A c xs) (hl : ∀ x, (enc x).length = sz) {b i j : Nat} {vs : List Value} {x x' : α} (hA : A = some ⟨b, 0, none⟩) (s : Stored h ⟨b, i * sz + j, none⟩ vs h') (hx : xs[i]? = some x) (hj : j + vs.length ≤ sz) (he : enc x' = lset (enc x) j vs) :
    OwnA enc sz T base h' A c (xs.set i x') := by
  rcases H with ⟨e, _, _⟩ | ⟨b', rest, e, hg, hb, hr, hc⟩
  · rw [hA] at e; cases e
  rw [hA] at e; cases e
  refine .inr ⟨b, rest, hA, hg, ?_, by simpa using hr, by simpa using hc⟩
  rw [s.put hb, lset_flat (fun x _ => hl x) hx hj he]
/-- What is stored elsewhere leaves it alone. -/
theorem OwnA.other (H : OwnA enc sz T base h A c xs) {a : Addr} {vs : List Value} (s : Stored h a vs h') (hne : ∀ b, A = some ⟨b, 0, none⟩ → b ≠ a.block) : OwnA enc sz T base h' A c xs := by
  rcases H with H | ⟨b, rest, e, hg, hb, r⟩
  · exact .inl H
  · exact .inr ⟨b, rest, e, hg, s.blk hb (hne b e), r⟩
theorem OwnA.le (H : OwnA enc sz T base h A c xs) : xs.length ≤ c := by
  rcases H with ⟨_, rfl, rfl⟩ | ⟨_, _, _, _, _, _, hc⟩
  · exact Nat.le_refl _
  · exact hc
theorem OwnA.reads (H : OwnA enc sz T base h A c xs) : readsOf h A (xs.flatMap enc) := by
  rcases H with ⟨rfl, rfl, _⟩ | ⟨b, rest, rfl, _, hb, _⟩
  · rfl
  · exact reads_blk hb fun j v hj => by
      have hlt := (List.getElem?_eq_some_iff.1 hj).1
      rw [Nat.zero_add, List.getElem?_toArray, List.getElem?_append_left hlt]; exact hj
/-- What is there before an append. -/
theorem OwnA.appendOk (H : OwnA enc sz T base h A c xs) (hl : ∀ x, (enc x).length = sz) {m bytes : Nat} {ys : List α} {B : Option Addr} (hm : ys.length = m) (fit : (xs.length + m) * bytes ≤ 140737488355328) (pos : 0 < bytes) (ry : readsOf h B (ys.flatMap enc)) (one : (ys.flatMap enc).all Value.oneCell' = true) :
    AppendOk h A xs.length c sz m bytes (xs.flatMap enc) (ys.flatMap enc) B := by
  refine ⟨fit, pos, fun _ => flat_len fun x _ => hl x, fun _ => by rw [flat_len fun x _ => hl x, hm], H.reads, ry, one, ?_⟩
  intro hroom a ha
  rcases H with ⟨e, _, _⟩ | ⟨b, rest, e, hg, hb, hr, hc⟩
  · rw [ha] at e; cases e
  rw [ha] at e; cases e
  rw [add_lit, Nat.zero_add]
  refine canset_blk hb (Nat.ble_eq_true_of_le ?_)
  have h1 := flat_len (xs := xs) fun x _ => hl x
  have h2 := flat_len (xs := ys) fun x _ => hl x
  have h3 : (xs.length + m) * sz ≤ c * sz := Nat.mul_le_mul_right _ hroom
  rw [Nat.add_mul] at h3
  have h4 : (c - xs.length) * sz = c * sz - xs.length * sz := Nat.sub_mul ..
  simp only [List.size_toArray, List.length_append, h1, hr, h2, hm]
  omega
theorem OwnA.appended (H : OwnA enc sz T base h A c xs) (hl : ∀ x, (enc x).length = sz) {m : Nat} {ys : List α} (hm : ys.length = m) {a : Addr} (ha : A = some a) (hroom : xs.length + m ≤ c) (s : Stored h (a.add (xs.length * sz)) (ys.flatMap enc) h') :
    OwnA enc sz T base h' A c (xs ++ ys) := by
  rcases H with ⟨e, _, _⟩ | ⟨b, rest, e, hg, hb, hr, hc⟩
  · rw [ha] at e; cases e
  rw [ha] at e; cases e
  rw [add_lit, Nat.zero_add] at s
  have h1 := flat_len (xs := xs) fun x _ => hl x
  have h2 := flat_len (xs := ys) fun x _ => hl x
  have h3 : (xs.length + m) * sz ≤ c * sz := Nat.mul_le_mul_right _ hroom
  rw [Nat.add_mul] at h3
  have h4 : (c - xs.length) * sz = c * sz - xs.length * sz := Nat.sub_mul ..
  refine .inr ⟨b, rest.drop (ys.flatMap enc).length, ha, hg, ?_, ?_, by rw [List.length_append]; omega⟩
  · rw [s.put hb, show xs.length * sz = (xs.flatMap enc).length + 0 by omega, lset_right, lset_all _ _ (by rw [h2, hr, hm]; omega), List.flatMap_append, List.append_assoc]
  · rw [List.length_drop, hr, h2, hm, List.length_append, hm, show c - (xs.length + m) = (c - xs.length) - m by omega, Nat.sub_mul (c - xs.length) m sz]
theorem OwnA.grown {xs ys : List α} {zs : List Value} {n m cap b : Nat} (hx : xs.length = n) (hm : ys.length = m) (hz : zs.length = sz) (hcap : n + m ≤ cap) (hn : New h h' b (.cells (xs.flatMap enc ++ ys.flatMap enc ++ (List.replicate (cap - (n + m)) zs).flatten).toArray T)) (hg : base ≤ h.size) :
    OwnA enc sz T base h' (some ⟨b, 0, none⟩) cap (xs ++ ys) := by
  refine .inr ⟨b, (List.replicate (cap - (n + m)) zs).flatten, rfl, by rw [hn.at_]; exact hg, ?_, ?_, by rw [List.length_append]; omega⟩
  · rw [List.flatMap_append]; exact hn.this
  · rw [List.length_flatten, List.length_append, hx, hm]
    simp [hz]
end
/-- All is as it was but the block at A. -/
structure KeepA (A : Option Addr) (h h' : Heap) : Prop where
  size : h.size ≤ h'.size
  old : ∀ k, k < h.size → A ≠ some ⟨k, 0, none⟩ → h'[k]? = h[k]?
theorem Ext.keepA {h h' : Heap} (x : Ext h h') (A : Option Addr) : KeepA A h h' := ⟨x.size, fun k hk _ => x.old k hk⟩
theorem KeepA.trans {A : Option Addr} {a b c : Heap} (x : KeepA A a b) (y : KeepA A b c) : KeepA A a c := ⟨Nat.le_trans x.size y.size, fun k hk hA => (y.old k (Nat.lt_of_lt_of_le hk x.size) hA).trans (x.old k hk hA)⟩
theorem Stored.keepA {h h' : Heap} {b o : Nat} {vs : List Value} (s : Stored h ⟨b, o, none⟩ vs h') : KeepA (some ⟨b, 0, none⟩) h h' := ⟨Nat.le_of_eq s.size.symm, fun k _ hA => s.other k fun e => hA (by subst e; rfl)⟩
theorem KeepA.blk {A : Option Addr} {h h' : Heap} (x : KeepA A h h') {b : Nat} {o : Obj} (H : h[b]? = some o) (hA : A ≠ some ⟨b, 0, none⟩) : h'[b]? = some o := (x.old b (blk_lt H) hA).trans H
theorem KeepA.ext {A : Option Addr} {h0 h h' : Heap} (x : KeepA A h h') (e : Ext h0 h) (hA : ∀ b, A = some ⟨b, 0, none⟩ → h0.size ≤ b) : Ext h0 h' :=
  ⟨Nat.le_trans e.size x.size, fun k hk => (x.old k (Nat.lt_of_lt_of_le hk e.size) fun ha => by have := hA k ha; omega).trans (e.old k hk)⟩
theorem OwnA.ge {α : Type} {enc : α → List Value} {sz : Nat} {T : TypeId} {base : Nat} {h : Heap} {A : Option Addr} {c : Nat} {xs : List α} (H : OwnA enc sz T base h A c xs) : ∀ b, A = some ⟨b, 0, none⟩ → base ≤ b := by
  intro b hb
  rcases H with ⟨e, _, _⟩ | ⟨b', _, e, hg, _⟩
  · rw [e] at hb; cases hb
  · rw [e] at hb; cases hb; exact hg
/-- One more element behind a list of one's own. -/
theorem xappend_one {α : Type} {enc : α → List Value} {sz bytes base b n : Nat} {P : Program} {T : TypeId} {zs : List Value} {h h1 : Heap} {A : Option Addr} {c : Nat} {xs : List α} {x : α} {K : Value → Heap → Prop}
    (hi : (P.info? T).map (fun i => (i.size, i.bytes)) = some (sz, bytes)) (hz : xzero P T = some zs) (hzl : zs.length = sz) (hpos : 0 < bytes) (hl : ∀ x, (enc x).length = sz) (hone : ∀ x, (enc x).all Value.oneCell' = true)
    (own : OwnA enc sz T base h A c xs) (n1 : New h h1 b (.cells (enc x).toArray T)) (hn : xs.length = n) (fit : (n + 1) * bytes ≤ 140737488355328) (hbase : base ≤ h.size)
    (hk : ∀ A' c' h', OwnA enc sz T base h' A' c' (xs ++ [x]) → KeepA A h h' → K (.slice A' (n + 1) c') h') : XAppend P T h1 A n c (some ⟨b, 0, none⟩) 1 K := by
  subst hn
  cases hinf : P.info? T with
  | none => rw [hinf] at hi; cases hi
  | some i =>
    rw [hinf] at hi
    simp only [Option.map_some, Option.some.injEq, Prod.mk.injEq] at hi
    obtain ⟨rfl, rfl⟩ := hi
    have own1 := own.ext n1.ext
    have hfm : [x].flatMap enc = enc x := by simp
    refine ⟨i, zs, xs.flatMap enc, [x].flatMap enc, hinf, hz, own1.appendOk hl rfl fit hpos (by rw [hfm]; exact reads_all n1.this) (by rw [hfm]; exact hone x), ?_, ?_, ?_⟩
    · intro hroom hA
      rcases own with ⟨_, rfl, rfl⟩ | ⟨b', _, e, _⟩
      · simp at hroom
      · rw [hA] at e; cases e
    · intro hroom a h' hA s
      refine hA ▸ hk A c h' (own1.appended hl rfl hA hroom s) ?_
      rcases own with ⟨e, _⟩ | ⟨b', _, e, _⟩
      · rw [hA] at e; cases e
      · rw [hA] at e; cases e
        rw [add_lit] at s
        rw [hA]
        exact (n1.ext.keepA _).trans s.keepA
    · intro hlt cap b' h' hcap n2
      exact hk _ cap h' (OwnA.grown rfl rfl hzl hcap n2 (Nat.le_trans hbase n1.ext.size)) ((n1.ext.trans n2.ext).keepA _)
/-- A new block that is stored whole. -/
theorem lset_full : ∀ (vs zs : List Value), zs.length = vs.length → lset zs 0 vs = vs := by
  intro vs zs h
  rw [lset_all vs zs (by omega), List.drop_eq_nil_of_le (by omega), List.append_nil]
theorem New.fill {h h' h'' : Heap} {b : Nat} {zs vs : List Value} {T : TypeId} (n : New h h' b (.cells zs.toArray T)) (hl : zs.length = vs.length) (s : Stored h' ⟨b, 0, none⟩ vs h'') : h''[b]? = some (.cells vs.toArray T (0, 0)) := by
  have := s.put n.this
  rwa [lset_full vs zs hl] at this
end Go.Proofs.YtjjempefncgfhaaGreatDoorE
