/- Lemmas on heaps for these proofs: blocks, cells, rows. Conditions: none. -/
import Derived.Test.YtgiofdiifkahoaaGreatXEng
set_option linter.unusedVariables false
set_option linter.unusedSimpArgs false
namespace Go.Proofs.YtgiofdiifkahoaaGreatE
open Go

/-! ### Blocks -/
theorem blk_lt {h : Heap} {b : Nat} {o : Obj} (H : h[b]? = some o) : b < h.size := (Array.getElem?_eq_some_iff.1 H).1
theorem Ext.refl (h : Heap) : Ext h h := ⟨Nat.le_refl _, fun _ _ => rfl⟩
theorem Ext.trans {a b c : Heap} (x : Ext a b) (y : Ext b c) : Ext a c := ⟨Nat.le_trans x.size y.size, fun k hk => (y.old k (Nat.lt_of_lt_of_le hk x.size)).trans (x.old k hk)⟩
theorem New.ext {h h' : Heap} {b : Nat} {o : Obj} (n : New h h' b o) : Ext h h' := ⟨by have := n.size; omega, n.old⟩
theorem Ext.new {a h h' : Heap} {b : Nat} {o : Obj} (x : Ext a h) (n : New h h' b o) : Ext a h' := x.trans n.ext
theorem Ext.blk {h h' : Heap} (x : Ext h h') {b : Nat} {o : Obj} (H : h[b]? = some o) : h'[b]? = some o := (x.old b (blk_lt H)).trans H
theorem New.ge {h0 h h' : Heap} {b : Nat} {o : Obj} (n : New h h' b o) (x : Ext h0 h) : h0.size ≤ b := by have := n.at_; have := x.size; omega
theorem New.lt {h h' : Heap} {b : Nat} {o : Obj} (n : New h h' b o) {k : Nat} {o' : Obj} (H : h[k]? = some o') : k < b := by have := n.at_; have := blk_lt H; omega
theorem Ext.stored {h0 h h' : Heap} {a : Addr} {vs : List Value} (x : Ext h0 h) (s : Stored h a vs h') (hb : h0.size ≤ a.block) : Ext h0 h' :=
  ⟨by rw [s.size]; exact x.size, fun k hk => (s.other k (by omega)).trans (x.old k hk)⟩
theorem Stored.blk {h h' : Heap} {a : Addr} {vs : List Value} (s : Stored h a vs h') {b : Nat} {o : Obj} (H : h[b]? = some o) (hb : b ≠ a.block) : h'[b]? = some o := (s.other b hb).trans H
/-! ### Cells -/
def nth {α : Type} : List α → Nat → Option α
  | [], _ => none
  | x :: _, 0 => some x
  | _ :: xs, n + 1 => nth xs n
theorem nth_eq {α : Type} : ∀ (l : List α) (n : Nat), nth l n = l[n]?
  | [], _ => rfl
  | _ :: _, 0 => rfl
  | _ :: xs, n + 1 => nth_eq xs n
theorem cell_arr {h : Heap} {b j : Nat} {c : Array Value} {e : TypeId} {f : Nat × Nat} {v : Value} (H : h[b]? = some (.cells c e f)) (hv : c[j]? = some v) : cell h ⟨b, j, none⟩ = some v := by
  simp [cell, H, hv]
theorem cell_blk {h : Heap} {b j : Nat} {ws : List Value} {e : TypeId} {f : Nat × Nat} {v : Value} (H : h[b]? = some (.cells ws.toArray e f)) (hv : nth ws j = some v) : cell h ⟨b, j, none⟩ = some v :=
  cell_arr H (by rw [nth_eq] at hv; simpa using hv)
theorem cell_of_block {h h' : Heap} {a : Addr} (H : h'[a.block]? = h[a.block]?) : cell h' a = cell h a := by unfold cell; rw [H]
theorem Ext.cell {h h' : Heap} (x : Ext h h') {a : Addr} {v : Value} (H : cell h a = some v) : cell h' a = some v := by
  obtain ⟨c, e, f, hb, _, _⟩ := cell_some H
  rw [cell_of_block (x.old _ (blk_lt hb))]; exact H
theorem Ext.reads {h h' : Heap} (x : Ext h h') {a : Addr} {vs : List Value} (H : Reads h a vs) : Reads h' a vs := fun j v hj => x.cell (H j v hj)
theorem Stored.cell {h h' : Heap} {a p : Addr} {vs : List Value} {v : Value} (s : Stored h a vs h') (H : YtgiofdiifkahoaaGreatE.cell h p = some v) (hb : p.block ≠ a.block) : YtgiofdiifkahoaaGreatE.cell h' p = some v := by
  rw [cell_of_block (s.other _ hb)]; exact H
theorem add_lit (b o n : Nat) : (⟨b, o, none⟩ : Addr).add n = ⟨b, o + n, none⟩ := by unfold Addr.add; split <;> simp_all
theorem reads_blk {h : Heap} {b o : Nat} {c : Array Value} {e : TypeId} {f : Nat × Nat} {vs : List Value} (H : h[b]? = some (.cells c e f)) (hv : ∀ j v, vs[j]? = some v → c[o + j]? = some v) : Reads h ⟨b, o, none⟩ vs := by
  intro j v hj
  rw [add_lit]
  exact cell_arr H (hv j v hj)
/-- A whole small block. -/
theorem reads_all {h : Heap} {b : Nat} {vs : List Value} {e : TypeId} {f : Nat × Nat} (H : h[b]? = some (.cells vs.toArray e f)) : Reads h ⟨b, 0, none⟩ vs := reads_blk H fun j v hj => by simpa using hj
/-- Out of a small block, from o on. -/
theorem reads_at {h : Heap} {b o : Nat} {ws vs : List Value} {e : TypeId} {f : Nat × Nat} (H : h[b]? = some (.cells ws.toArray e f)) (hv : (ws.drop o).take vs.length = vs) : Reads h ⟨b, o, none⟩ vs := reads_blk H fun j v hj => by
  have hl : j < vs.length := (List.getElem?_eq_some_iff.1 hj).1
  rw [← hv, List.getElem?_take, if_pos hl, List.getElem?_drop] at hj
  simpa using hj
theorem Reads.cons {h : Heap} {a : Addr} {v : Value} {vs : List Value} (H : Reads h a (v :: vs)) : cell h a = some v := by
  have := H 0 v (by simp)
  simpa [Addr.add] using this
theorem Reads.get {h : Heap} {a : Addr} {vs : List Value} (H : Reads h a vs) (j : Nat) {v : Value} (hj : vs[j]? = some v) : cell h (a.add j) = some v := H j v hj
theorem Reads.sub {h : Heap} {a : Addr} {vs us : List Value} (H : Reads h a vs) (o : Nat) (hu : (vs.drop o).take us.length = us) : Reads h (a.add o) us := by
  intro j v hj
  have hl : j < us.length := (List.getElem?_eq_some_iff.1 hj).1
  rw [add_add]
  refine H (o + j) v ?_
  rw [← hu, List.getElem?_take, if_pos hl, List.getElem?_drop] at hj
  exact hj
/-! ### Stores into a block of one's own -/
theorem wr_list : ∀ (vs ws : List Value) (o : Nat), wr ws.toArray o vs = (lset ws o vs).toArray := by
  intro vs
  induction vs with
  | nil => intro ws o; rfl
  | cons v vs ih => intro ws o; simp only [wr, lset]; rw [List.setIfInBounds_toArray, ih]
theorem canset_blk {h : Heap} {b o n : Nat} {c : Array Value} {e : TypeId} (H : h[b]? = some (.cells c e (0, 0))) (hn' : Nat.ble (o + n) c.size = true) : CanSet h ⟨b, o, none⟩ n := by
  have hn := Nat.le_of_ble_eq_true hn'
  refine ⟨fun j hj => ?_, fun j hj => ?_⟩
  · rw [add_lit]
    exact ⟨c[o + j]'(by omega), cell_arr H (by rw [Array.getElem?_eq_getElem])⟩
  · rw [add_lit]; simp [frozenAt, H]
theorem Stored.put {h h' : Heap} {b o : Nat} {vs ws : List Value} {e : TypeId} {f : Nat × Nat} (s : Stored h ⟨b, o, none⟩ vs h') (H : h[b]? = some (.cells ws.toArray e f)) : h'[b]? = some (.cells (lset ws o vs).toArray e f) := by
  rw [← wr_list]; exact s.this _ _ _ H

/-! ### Lists in memory -/
/-- Each element of xs, as enc lays it in sz cells, one behind the other from A on. -/
def Row {α : Type} (enc : α → List Value) (sz : Nat) (h : Heap) (A : Option Addr) (xs : List α) : Prop := ∀ i x, xs[i]? = some x → ∃ a, A = some a ∧ Reads h (a.add (i * sz)) (enc x)
theorem Ext.row {α : Type} {enc : α → List Value} {sz : Nat} {h h' : Heap} {A : Option Addr} {xs : List α} (x : Ext h h') (H : Row enc sz h A xs) : Row enc sz h' A xs := fun i y hy =>
  let ⟨a, ha, hr⟩ := H i y hy
  ⟨a, ha, x.reads hr⟩
theorem Row.nil {α : Type} {enc : α → List Value} {sz : Nat} {h : Heap} {A : Option Addr} : Row enc sz h A [] := fun i x hx => by simp at hx
theorem flat_get {α : Type} {enc : α → List Value} {sz : Nat} : ∀ {xs : List α}, (∀ x ∈ xs, (enc x).length = sz) → ∀ {i : Nat} {x : α}, xs[i]? = some x → ∀ {j : Nat} {v : Value}, (enc x)[j]? = some v → (xs.flatMap enc)[i * sz + j]? = some v := by
  intro xs
  induction xs with
  | nil => intro _ i x hx; simp at hx
  | cons y xs ih =>
    intro hl i x hx j v hj
    have hy : (enc y).length = sz := hl y (by simp)
    rw [List.flatMap_cons]
    cases i with
    | zero =>
      simp only [List.getElem?_cons_zero, Option.some.injEq] at hx
      subst hx
      rw [Nat.zero_mul, Nat.zero_add, List.getElem?_append_left (List.getElem?_eq_some_iff.1 hj).1]
      exact hj
    | succ i =>
      have e1 : (i + 1) * sz + j = sz + (i * sz + j) := by rw [Nat.succ_mul]; omega
      rw [e1, List.getElem?_append_right (by omega), hy, Nat.add_sub_cancel_left]
      exact ih (fun x hx => hl x (by simp [hx])) (by simpa using hx) hj
/-- A block of one's own that holds xs, and spare room behind it. -/
theorem row_blk {α : Type} {enc : α → List Value} {sz : Nat} {h : Heap} {b : Nat} {e : TypeId} {f : Nat × Nat} {xs : List α} {rest : List Value} (H : h[b]? = some (.cells (xs.flatMap enc ++ rest).toArray e f)) (hl : ∀ x ∈ xs, (enc x).length = sz) :
    Row enc sz h (some ⟨b, 0, none⟩) xs := by
  intro i x hx
  refine ⟨_, rfl, ?_⟩
  rw [add_lit, Nat.zero_add]
  refine reads_blk H fun j v hj => ?_
  have := flat_get hl hx hj
  have hlt := (List.getElem?_eq_some_iff.1 this).1
  rw [List.getElem?_toArray, List.getElem?_append_left hlt]
  exact this
end Go.Proofs.YtgiofdiifkahoaaGreatE
