/- From what a law answers, as a call, to its row: arguments read as cells, the frame behind the call. Conditions: none. -/
import Derived.Test.YtjjempefncgfhaaGreatDoorXLib
import Derived.WalkKit
import Derived.ProofKit
import Derived.OpenShut
import Derived.ShutString
import Derived.ChangeOld
import Derived.Below
import Derived.Carry
import Derived.SizedLaws
import Derived.Deep.Slices
set_option linter.unusedVariables false
set_option linter.unusedSimpArgs false
namespace Go.Proofs.YtjjempefncgfhaaGreatDoorE
open Go Go.ChangeShapes Go.WideShapes Go.ChangeAt Go.RowKit

def AllF (p : Field → Prop) : List Field → Prop
  | [] => True
  | f :: fs => p f ∧ AllF p fs
theorem allF_of {p : Field → Prop} : ∀ {l : List Field}, (∀ f ∈ l, p f) → AllF p l
  | [], _ => trivial
  | f :: fs, h => ⟨h f (by simp), allF_of fun g hg => h g (by simp [hg])⟩
/-- What the cells of a value of a type are: numbers in their ranges, bools, strings, and structs of those. -/
def Dec (P : Program) : Nat → TypeId → List Value → Prop
  | 0 => fun _ _ => True
  | n + 1 => fun t cs => match P.underlying t with
    | some (.int k) => ∃ z, cs = [.int k z] ∧ (Lit.int k z).wf = true
    | some .bool => ∃ b, cs = [.bool b]
    | some .string => ∃ s : ByteArray, cs = [.string s] ∧ s.size ≤ maxLen
    | some (.struct fs) => cs.length = P.cellsOf t ∧ AllF (fun f => Dec P n f.type ((cs.drop f.offset).take (P.cellsOf f.type))) fs.toList
    | _ => True
section
variable {H : Type} {enc : TypeId × Value → H} {P : Program} {W : World} {base : Nat} {spare : Nat → Bool} {held : Bool}
theorem dec_of_trod : ∀ (m : Nat) {fuel : Nat} {t : TypeId} {cs : List Value} {x : DataW H × List MemPlace}, DataW.trod enc P W base spare held fuel t cs = some x → Dec P m t cs := by
  intro m
  induction m with
  | zero => intro fuel t cs x _; trivial
  | succ m ih =>
    intro fuel t cs x h
    unfold Dec
    split
    · rename_i k hk
      obtain ⟨z, hz, _, hw⟩ := DataW.trod_int hk h
      exact ⟨z, hz, hw⟩
    · rename_i hk
      obtain ⟨b, hb, _⟩ := DataW.trod_bool hk h
      exact ⟨b, hb⟩
    · rename_i hk
      obtain ⟨s, hs, _, hm⟩ := DataW.trod_string hk h
      exact ⟨s, hs, hm⟩
    · rename_i fs hk
      obtain ⟨xs, n, _, _, hl, hlen, hf⟩ := DataW.trod_struct hk h
      refine ⟨hl, allF_of fun f hf' => ?_⟩
      obtain ⟨i, hi⟩ := List.getElem?_of_mem hf'
      have hi' : fs[i]? = some f := by rw [← Array.getElem?_toList]; exact hi
      have h1 := hf i f hi'
      have hlt : i < xs.length := by
        rw [hlen, ← Array.length_toList]
        exact (List.getElem?_eq_some_iff.1 hi).1
      rw [List.getElem?_eq_getElem hlt] at h1
      exact ih h1
    · trivial
/-- A slice that came in, its elements decoded. -/
theorem row_of_trod {α : Type} {enc' : α → List Value} {Wf : α → Prop} {sz m : Nat} {t e : TypeId} {d : DataW H} {ps : List MemPlace} (ht : P.underlying t = some (.slice e)) (hsz : P.cellsOf e = sz)
    (hdec : ∀ cs, Dec P m e cs → ∃ x, cs = enc' x ∧ Wf x) {A : Option Addr} {n c : Nat} (hd : DataW.Trod enc P W base spare held t (.slice A n c) d ps) :
    ∃ xs : List α, xs.length = n ∧ Row enc' sz W.heap A xs ∧ (∀ x ∈ xs, Wf x) ∧ n ≤ c ∧ c ≤ maxLen ∧
      ∀ {ts : List TypeId} {ds : List (DataW H)} {j : Nat}, (DataW.weightsEach P ts ds).all (· ≤ reachBytes) = true → ts[j]? = some t → ds[j]? = some d → n * P.bytesOf e ≤ 140737488351232 := by
  obtain ⟨fuel, hf⟩ := hd
  rcases Go.Deep.open_slice ht hf with ⟨hcs, _⟩ | ⟨a, len, cap, mm, k, D, Pl, hcs, _, hl, hm, hmm, hxd, hx⟩
  · simp [Value.cells] at hcs
    obtain ⟨rfl, rfl, rfl⟩ := hcs
    exact ⟨[], rfl, Row.nil, (by simp), Nat.le_refl _, Nat.zero_le _, fun _ _ _ => by simp⟩
  · simp [Value.cells] at hcs
    obtain ⟨rfl, rfl, rfl⟩ := hcs
    have hle : n ≤ mm := by rw [hmm]; split <;> omega
    have key : ∀ i, i < n → ∃ x, Wf x ∧ Reads W.heap (a.add (i * sz)) (enc' x) := fun i hi => by
      obtain ⟨cs', h1, h2⟩ := hx i (by omega)
      obtain ⟨x, rfl, hw⟩ := hdec cs' (dec_of_trod m h2)
      obtain ⟨_, h3, h4⟩ := World.cells?_some h1
      refine ⟨x, hw, fun j v hj => ?_⟩
      have hjl : j < P.cellsOf e := by rw [← h3]; exact (List.getElem?_eq_some_iff.1 hj).1
      have := h4 j hjl
      rw [hj, hsz] at this
      exact this
    obtain ⟨f, hf'⟩ : ∃ f : Nat → Option α, ∀ i, i < n → ∃ x, f i = some x ∧ Wf x ∧ Reads W.heap (a.add (i * sz)) (enc' x) := by
      refine ⟨fun i => if hi : i < n then some (key i hi).choose else none, fun i hi => ?_⟩
      exact ⟨(key i hi).choose, by simp [hi], (key i hi).choose_spec⟩
    have hlist : ∀ k, k ≤ n → ∃ xs : List α, xs.length = k ∧ ∀ i, i < k → xs[i]? = f i := by
      intro k
      induction k with
      | zero => intro _; exact ⟨[], rfl, fun i hi => absurd hi (by omega)⟩
      | succ k ih =>
        intro hk
        obtain ⟨xs, h1, h2⟩ := ih (by omega)
        obtain ⟨x, h3, _⟩ := hf' k (by omega)
        refine ⟨xs ++ [x], by simp [h1], fun i hi => ?_⟩
        by_cases e : i < k
        · rw [List.getElem?_append_left (by omega)]; exact h2 i e
        · have e : i = k := by omega
          subst e
          rw [List.getElem?_append_right (by omega), h1, Nat.sub_self, h3]; rfl
    obtain ⟨xs, h1, h2⟩ := hlist n (Nat.le_refl _)
    refine ⟨xs, h1, fun i x hi => ?_, fun x hx => ?_, hl, hm, fun hw h3 h4 => ?_⟩
    · have hin : i < n := by rw [← h1]; exact (List.getElem?_eq_some_iff.1 hi).1
      obtain ⟨y, h3, _, h4⟩ := hf' i hin
      rw [h2 i hin, h3] at hi
      cases hi
      exact ⟨a, rfl, h4⟩
    · obtain ⟨i, hi⟩ := List.getElem?_of_mem hx
      have hin : i < n := by rw [← h1]; exact (List.getElem?_eq_some_iff.1 hi).1
      obtain ⟨y, h3, h4, _⟩ := hf' i hin
      rw [h2 i hin, h3] at hi
      cases hi
      exact h4
    · simp only [Prod.mk.injEq] at hxd
      obtain ⟨hd, _⟩ := hxd
      rw [hd] at h4
      have := sized_slice hw h3 h4 ht
      simp only [List.length_map, List.length_range] at this
      refine Nat.le_trans (Nat.mul_le_mul_right _ (Nat.le_add_right n _)) (Nat.le_trans this ?_)
      decide
theorem dec_of_arg {m : Nat} {t : TypeId} {v : Value} {d : DataW H} {ps : List MemPlace} (hd : DataW.Trod enc P W base spare held t v d ps) : Dec P m t v.cells.toList := by
  obtain ⟨fuel, hf⟩ := hd
  exact dec_of_trod m hf
theorem agg_of {v : Value} {l : List Value} (h : v.cells.toList = l) (hn : l.length ≠ 1) : v = .agg l.toArray := by
  cases v <;> first | (simp only [Value.cells] at h; subst h; exact absurd rfl hn) | (simp only [Value.cells] at h; subst h; rfl)
theorem trodAll_stays {W' : World} (hl : laidOutB P = true) (hb : Below W.heap.size W W') : ∀ {ts : List TypeId} {vs : List Value} {ds : List (DataW H)} {ps : List MemPlace},
    ts.all (fun t => P.readableRec t && decide (t < P.types.size)) = true → DataW.TrodAll enc P W 0 (fun _ => true) true ts vs ds ps → (∀ x ∈ ps, x.block < W.heap.size) →
    DataW.TrodAll enc P W' 0 (fun b => decide (b < W.heap.size)) true ts vs ds ps := by
  intro ts
  induction ts with
  | nil =>
    intro vs ds ps _ h _
    obtain ⟨rfl, rfl, rfl⟩ := trodAll_nil h
    exact trodAll_mk0
  | cons t ts ih =>
    intro vs ds ps hts h hlt
    obtain ⟨v, vs1, d, ds1, a, b, rfl, rfl, rfl, h1, h2⟩ := trodAll_cons h
    simp only [List.all_cons, Bool.and_eq_true, decide_eq_true_eq] at hts
    exact trodAll_cons_mk (Below.trod hl hts.1.1 hts.1.2 h1 hb fun x hx => hlt x (by simp [hx])) (ih hts.2 h2 fun x hx => hlt x (by simp [hx]))
/-- THE ROW'S STEP: what a law answers as a call, with nothing of old turned, is what its row asks. -/
theorem law_calls {f : FuncId} {fn : Func} {s : ChangeSpec} {args : Array Value} {ds gs : List (DataW H)} {before : List MemPlace} {tb : TypeId}
    (hc : HCalls P f args W.heap (fun v h' => v = .bool true ∧ Ext W.heap h')) (hl : laidOutB P = true) (hrows : fn.params.toList.all (fun t => P.readableRec t && decide (t < P.types.size)) = true)
    (hres : fn.resultTypes = #[tb]) (ht : P.underlying tb = some .bool) (hv : s.vars = []) (hW : DataW.Whole enc P fn.params.toList s.vars false W args.toList ds gs before)
    (h1 : (s.fn H (ds ++ gs)).results = [.lit (.bool true)]) (h2 : (s.fn H (ds ++ gs)).args = ds) (h3 : (s.fn H (ds ++ gs)).vars = []) (hok : funOk P f = true := by kernel_rfl) :
    Calls P f args W fun e W' => ∃ v, e = .returned v ∧ s.post enc P fn false true false false W args v W' := by
  refine (hc.calls hok W rfl).mono ?_
  rintro e W' ⟨v, rfl, ⟨rfl, x⟩, hs⟩
  have bel : Below W.heap.size W W' := ⟨hs.os, hs.tape, hs.output, x.size, x.old⟩
  have hW' := hW
  obtain ⟨p, q, hA, hV, rfl, _, _⟩ := hW
  have hlt : ∀ y ∈ p, y.block < W.heap.size := fun y hy => hW'.lt y (by simp [hy])
  refine ⟨_, rfl, ds, gs, p ++ q, [], p, [], hW', ?_, ?_, ?_, bel.frame _, fun h => by cases h⟩
  · rw [h1, hres]; exact trodAll_mk1 (shut_bool ht _)
  · rw [h2]; exact trodAll_stays hl bel hrows hA hlt
  · rw [h3, hv]; rfl
end
end Go.Proofs.YtjjempefncgfhaaGreatDoorE
/- What the cells of an argument are, slices and arrays within it too. Conditions: none. -/
set_option linter.unusedVariables false
set_option linter.unusedSimpArgs false
namespace Go.Proofs.YtjjempefncgfhaaGreatDoorE
open Go Go.ChangeShapes Go.WideShapes Go.ChangeAt Go.RowKit
/-- What the cells of a value of a type are, in a world: numbers in their ranges, bools, strings, structs, arrays and slices of those. -/
def DecW (P : Program) (W : World) : Nat → TypeId → List Value → Prop
  | 0 => fun _ _ => True
  | n + 1 => fun t cs => match P.underlying t with
    | some (.int k) => ∃ z, cs = [.int k z] ∧ (Lit.int k z).wf = true
    | some .bool => ∃ b, cs = [.bool b]
    | some .string => ∃ s : ByteArray, cs = [.string s] ∧ s.size ≤ maxLen
    | some (.struct fs) => cs.length = P.cellsOf t ∧ AllF (fun f => DecW P W n f.type ((cs.drop f.offset).take (P.cellsOf f.type))) fs.toList
    | some (.array k e) => cs.length = P.cellsOf t ∧ ∀ i, i < k → DecW P W n e ((cs.drop (i * P.cellsOf e)).take (P.cellsOf e))
    | some (.slice e) => ∃ (A : Option Addr) (len cap : Nat), cs = [.slice A len cap] ∧ len ≤ cap ∧ cap ≤ maxLen ∧
        ∀ i, i < len → ∃ (a : Addr) (cs' : List Value), A = some a ∧ Reads W.heap (a.add (i * P.cellsOf e)) cs' ∧ cs'.length = P.cellsOf e ∧ DecW P W n e cs'
    | _ => True
section
variable {H : Type} {enc : TypeId × Value → H} {P : Program} {W : World} {base : Nat} {spare : Nat → Bool} {held : Bool}
theorem decW_of_trod : ∀ (m : Nat) {fuel : Nat} {t : TypeId} {cs : List Value} {x : DataW H × List MemPlace}, DataW.trod enc P W base spare held fuel t cs = some x → DecW P W m t cs := by
  intro m
  induction m with
  | zero => intro fuel t cs x _; trivial
  | succ m ih =>
    intro fuel t cs x h
    unfold DecW
    split
    · rename_i k hk
      obtain ⟨z, hz, _, hw⟩ := DataW.trod_int hk h
      exact ⟨z, hz, hw⟩
    · rename_i hk
      obtain ⟨b, hb, _⟩ := DataW.trod_bool hk h
      exact ⟨b, hb⟩
    · rename_i hk
      obtain ⟨s, hs, _, hm⟩ := DataW.trod_string hk h
      exact ⟨s, hs, hm⟩
    · rename_i fs hk
      obtain ⟨xs, n, _, _, hl, hlen, hf⟩ := DataW.trod_struct hk h
      refine ⟨hl, allF_of fun f hf' => ?_⟩
      obtain ⟨i, hi⟩ := List.getElem?_of_mem hf'
      have hi' : fs[i]? = some f := by rw [← Array.getElem?_toList]; exact hi
      have h1 := hf i f hi'
      have hlt : i < xs.length := by
        rw [hlen, ← Array.length_toList]
        exact (List.getElem?_eq_some_iff.1 hi).1
      rw [List.getElem?_eq_getElem hlt] at h1
      exact ih h1
    · rename_i k e hk
      obtain ⟨xs, n, _, _, hl, hlen, hf⟩ := DataW.trod_array hk h
      refine ⟨hl, fun i hi => ?_⟩
      have h1 := hf i hi
      rw [List.getElem?_eq_getElem (by omega)] at h1
      exact ih h1
    · rename_i e hk
      rcases Go.Deep.open_slice hk h with ⟨hcs, _⟩ | ⟨a, len, cap, mm, k, D, Pl, hcs, _, hl, hm, hmm, _, hx⟩
      · exact ⟨none, 0, 0, hcs, Nat.le_refl _, Nat.zero_le _, fun i hi => absurd hi (Nat.not_lt_zero _)⟩
      · refine ⟨some a, len, cap, hcs, hl, hm, fun i hi => ?_⟩
        have hle : len ≤ mm := by rw [hmm]; split <;> omega
        obtain ⟨cs', h1, h2⟩ := hx i (by omega)
        obtain ⟨_, h3, h4⟩ := World.cells?_some h1
        refine ⟨a, cs', rfl, fun j v hj => ?_, h3, ih h2⟩
        have hjl : j < P.cellsOf e := by rw [← h3]; exact (List.getElem?_eq_some_iff.1 hj).1
        have := h4 j hjl
        rw [hj] at this
        exact this
    · trivial
theorem decW_of_arg {m : Nat} {t : TypeId} {v : Value} {d : DataW H} {ps : List MemPlace} (hd : DataW.Trod enc P W base spare held t v d ps) : DecW P W m t v.cells.toList := by
  obtain ⟨fuel, hf⟩ := hd
  exact decW_of_trod m hf
end
/-- A slice, its elements decoded. -/
theorem row_of_dec {P : Program} {W : World} {α : Type} {enc' : α → List Value} {Wf : α → Prop} {sz m : Nat} {e : TypeId} (hsz : P.cellsOf e = sz)
    (hdec : ∀ cs, DecW P W m e cs → ∃ x, cs = enc' x ∧ Wf x) {A : Option Addr} {n : Nat} (hx : ∀ i, i < n → ∃ (a : Addr) (cs' : List Value), A = some a ∧ Reads W.heap (a.add (i * P.cellsOf e)) cs' ∧ cs'.length = P.cellsOf e ∧ DecW P W m e cs') :
    ∃ xs : List α, xs.length = n ∧ Row enc' sz W.heap A xs ∧ ∀ x ∈ xs, Wf x := by
  have key : ∀ i, i < n → ∃ x, Wf x ∧ ∃ a, A = some a ∧ Reads W.heap (a.add (i * sz)) (enc' x) := fun i hi => by
    obtain ⟨a, cs', h1, h2, h3, h4⟩ := hx i hi
    obtain ⟨x, rfl, hw⟩ := hdec cs' h4
    rw [hsz] at h2
    exact ⟨x, hw, a, h1, h2⟩
  have hlist : ∀ k, k ≤ n → ∃ xs : List α, xs.length = k ∧ ∀ i x, xs[i]? = some x → Wf x ∧ ∃ a, A = some a ∧ Reads W.heap (a.add (i * sz)) (enc' x) := by
    intro k
    induction k with
    | zero => intro _; exact ⟨[], rfl, fun i x hi => by simp at hi⟩
    | succ k ih =>
      intro hk
      obtain ⟨xs, h1, h2⟩ := ih (by omega)
      obtain ⟨x, h3⟩ := key k (by omega)
      refine ⟨xs ++ [x], by simp [h1], fun i y hy => ?_⟩
      by_cases e : i < k
      · rw [List.getElem?_append_left (by omega)] at hy; exact h2 i y hy
      · have hl := (List.getElem?_eq_some_iff.1 hy).1
        have e : i = k := by simp [h1] at hl; omega
        subst e
        rw [List.getElem?_append_right (by omega), h1, Nat.sub_self] at hy
        cases hy
        exact h3
  obtain ⟨xs, h1, h2⟩ := hlist n (Nat.le_refl _)
  refine ⟨xs, h1, fun i x hi => (h2 i x hi).2, fun x hx => ?_⟩
  obtain ⟨i, hi⟩ := List.getElem?_of_mem hx
  exact (h2 i x hi).1
end Go.Proofs.YtjjempefncgfhaaGreatDoorE
