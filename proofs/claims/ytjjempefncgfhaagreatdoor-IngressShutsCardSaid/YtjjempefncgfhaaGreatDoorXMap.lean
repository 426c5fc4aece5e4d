/- Maps with keys of one plain type: what a lookup gives, what an assignment and a delete leave. Conditions: the keys' law. -/
import Derived.Test.YtjjempefncgfhaaGreatDoorXLib
set_option linter.unusedVariables false
set_option linter.unusedSimpArgs false
namespace Go.Proofs.YtjjempefncgfhaaGreatDoorE
open Go Go.Proofs

/-- How keys of a type are compared: as what they stand for. -/
structure KeyLaw {α : Type} [DecidableEq α] (P : Program) (T : TypeId) (encK : α → Value) : Prop where
  check : ∀ (b : Bool) k w, (Instr.checkKey b 10000 T (encK k)).run P w = .ok () w
  same : ∀ a, Instr.sameBits 10000 (encK a) (encK a) = true
  now : (∀ kind a b, P.underlying T = some kind → Instr.sameNow kind (encK a) (encK b) = none) ∨ (∀ kind a b, P.underlying T = some kind → Instr.sameNow kind (encK a) (encK b) = some (decide (a = b)))
  equal : ∀ a b w, (Op.equal T (encK a) (encK b)).run P w = .ok (decide (a = b)) w
section
variable {α β : Type} {encK : α → Value} {encV : β → Value} {P : Program} {T : TypeId}
def Ents (encK : α → Value) (encV : β → Value) (E : List MapEntry) (es : List (α × β)) : Prop := E.map (fun e => (e.key, e.val)) = es.map fun p => (encK p.1, encV p.2)
theorem Ents.cons {E : List MapEntry} {es : List (α × β)} {e : MapEntry} {p : α × β} : Ents encK encV (e :: E) (p :: es) ↔ e.key = encK p.1 ∧ e.val = encV p.2 ∧ Ents encK encV E es := by
  simp [Ents, and_assoc]
theorem Ents.len {E : List MapEntry} {es : List (α × β)} (h : Ents encK encV E es) : E.length = es.length := by have := congrArg List.length h; simpa [Ents] using this
/-- Each entry has a stamp of its own. -/
def Stamped (E : List MapEntry) (clock : Nat) : Prop := (∀ e ∈ E, e.born < clock) ∧ (E.map fun e => e.born).Nodup
/-- The map at block b holds these pairs, in order. -/
def MapAt (encK : α → Value) (encV : β → Value) (h : Heap) (b : Nat) (es : List (α × β)) : Prop := ∃ (E : List MapEntry) (clock : Nat), h[b]? = some (.map E.toArray clock) ∧ Ents encK encV E es ∧ Stamped E clock
theorem getObj_run {b c : Nat} {E : Array MapEntry} {w : World} (h : w.heap[b]? = some (.map E c)) : (getObj b).run P w = .ok (.map E c) w := by
  simp [getObj, Sem.run, h]
theorem mapAt_nil {h h' : Heap} {b : Nat} (n : New h h' b (.map #[] 0)) : MapAt encK encV h' b ([] : List (α × β)) := ⟨[], 0, n.this, rfl, by simp, by simp⟩
theorem xlenMap_ok {h : Heap} {M V ty : TypeId} {b : Nat} {es : List (α × β)} {K : Value → (Heap → Prop) → Prop} (hM : P.underlying M = some (.map T V)) (hm : MapAt encK encV h b es) (hk : ∀ F, K (.int .i64 es.length) F) :
    XGet P (Builtin.len_ #[M] ty #[.map (some b)]) h K := by
  obtain ⟨E, clock, hb, hE, hS⟩ := hm
  have hl : E.length = es.length := by have := congrArg List.length hE; simpa [Ents] using this
  refine ⟨_, fun h' => h'[b]? = some (.map E.toArray clock), hb, fun w hw => ?_, hk _⟩
  simp [Builtin.len_, run_underlying hM, getObj_run hw, goInt, hl]
theorem stamped_push {E : List MapEntry} {clock : Nat} {k v : Value} (h : Stamped E clock) : Stamped (E ++ [{ key := k, val := v, born := clock }]) (clock + 1) := by
  refine ⟨fun e he => ?_, ?_⟩
  · rcases List.mem_append.1 he with he | he
    · exact Nat.lt_succ_of_lt (h.1 e he)
    · simp only [List.mem_singleton] at he
      subst he
      exact Nat.lt_succ_self _
  · rw [List.map_append, List.nodup_append]
    refine ⟨h.2, by simp, fun x hx y hy => ?_⟩
    simp only [List.map_cons, List.map_nil, List.mem_singleton] at hy
    obtain ⟨e, he, rfl⟩ := List.mem_map.1 hx
    have := h.1 e he
    omega
theorem stamped_modify {E : List MapEntry} {clock j : Nat} {f : MapEntry → MapEntry} (h : Stamped E clock) (hf : ∀ e, (f e).born = e.born) : Stamped (E.modify j f) clock := by
  have e : (E.modify j f).map (fun e => e.born) = E.map (fun e => e.born) := by
    apply List.ext_getElem?
    intro i
    rw [List.getElem?_map, List.getElem?_map, List.getElem?_modify]
    by_cases hi : j = i
    · subst hi
      cases E[j]? <;> simp [hf]
    · cases E[i]? <;> simp [hi]
  refine ⟨fun x hx => ?_, by rw [e]; exact h.2⟩
  have hm : x.born ∈ E.map (fun e => e.born) := by rw [← e]; exact List.mem_map.2 ⟨x, hx, rfl⟩
  obtain ⟨y, hy, e2⟩ := List.mem_map.1 hm
  rw [← e2]; exact h.1 y hy
theorem stamped_erase {E : List MapEntry} {clock : Nat} (h : Stamped E clock) (j : Nat) : Stamped (E.eraseIdx j) clock :=
  ⟨fun e he => h.1 e ((List.eraseIdx_sublist E j).subset he), h.2.sublist ((List.eraseIdx_sublist E j).map _)⟩
variable [DecidableEq α]
def findE (k : α) : List (α × β) → Nat → Option (Nat × β)
  | [], _ => none
  | e :: es, i => if k = e.1 then some (i, e.2) else findE k es (i + 1)
theorem asking_run (L : KeyLaw P T encK) (k : α) : ∀ {E : List MapEntry} {es : List (α × β)} (i : Nat) (w : World), Ents encK encV E es → (Instr.findAsking T (encK k) E i).run P w = .ok ((findE k es i).map fun r => (r.1, encV r.2)) w := by
  intro E
  induction E with
  | nil =>
    intro es i w h
    cases es with
    | nil => simp [Instr.findAsking, findE]
    | cons p es => simp [Ents] at h
  | cons e E ih =>
    intro es i w h
    cases es with
    | nil => simp [Ents] at h
    | cons p es =>
      obtain ⟨h1, h2, h3⟩ := Ents.cons.1 h
      simp only [Instr.findAsking, Sem.run_bind, h1, L.equal, Result.andThen_ok, findE]
      by_cases hk : k = p.1
      · simp [hk, h2]
      · simp only [hk, decide_false, if_false]
        exact ih (i + 1) w h3
theorem findNow_some {kind : TypeDesc} (L : ∀ a b, Instr.sameNow kind (encK a) (encK b) = some (decide (a = b))) (k : α) : ∀ {E : List MapEntry} {es : List (α × β)} (i : Nat), Ents encK encV E es → Instr.findNow kind (encK k) E i = some ((findE k es i).map fun r => (r.1, encV r.2)) := by
  intro E
  induction E with
  | nil =>
    intro es i h
    cases es with
    | nil => rfl
    | cons p es => simp [Ents] at h
  | cons e E ih =>
    intro es i h
    cases es with
    | nil => simp [Ents] at h
    | cons p es =>
      obtain ⟨h1, h2, h3⟩ := Ents.cons.1 h
      simp only [Instr.findNow, h1, L, findE]
      by_cases hk : k = p.1
      · simp [hk, h2]
      · simp only [hk, decide_false, if_false]
        exact ih (i + 1) h3
theorem findKey_run (L : KeyLaw P T encK) {kind : TypeDesc} (hu : P.underlying T = some kind) (k : α) {E : List MapEntry} {es : List (α × β)} (h : Ents encK encV E es) (w : World) : (Instr.findKey T (encK k) E).run P w = .ok ((findE k es 0).map fun r => (r.1, encV r.2)) w := by
  simp only [Instr.findKey, Sem.run_bind, run_underlying hu, Result.andThen_ok]
  rcases L.now with hn | hn
  · cases E with
    | nil =>
      cases es with
      | nil => rfl
      | cons p es => simp [Ents] at h
    | cons e E =>
      cases es with
      | nil => simp [Ents] at h
      | cons p es =>
        have h1 := (Ents.cons.1 h).1
        have : Instr.findNow kind (encK k) (e :: E) 0 = none := by simp only [Instr.findNow, h1, hn kind k p.1 hu]
        rw [this]
        exact asking_run L k 0 w h
  · rw [findNow_some (fun a b => hn kind a b hu) k 0 h]
    rfl
def getE (k : α) : List (α × β) → Option β
  | [] => none
  | e :: es => if k = e.1 then some e.2 else getE k es
theorem findE_get (k : α) : ∀ (es : List (α × β)) (i : Nat), (findE k es i).map (·.2) = getE k es
  | [], _ => rfl
  | e :: es, i => by
    simp only [findE, getE]
    split
    · rfl
    · exact findE_get k es (i + 1)
theorem xlookup_ok (L : KeyLaw P T encK) {kind : TypeDesc} {M V : TypeId} {z : Value} {h : Heap} {b : Nat} {es : List (α × β)} {K : Value → (Heap → Prop) → Prop} (hu : P.underlying T = some kind) (hM : P.underlying M = some (.map T V))
    (hz : ∀ w, (zeroValue V).run P w = .ok z w) (hm : MapAt encK encV h b es) (k : α) (hk : ∀ F, K (.tuple #[match getE k es with | some v => encV v | none => z, .bool (getE k es).isSome]) F) :
    XGet P (Instr.lookup M (.map (some b)) (encK k) true) h K := by
  obtain ⟨E, clock, hb, hE, hS⟩ := hm
  refine ⟨_, fun h' => h'[b]? = some (.map E.toArray clock), hb, fun w hw => ?_, hk _⟩
  have hf := findKey_run L hu k hE w
  have hg := findE_get k es 0
  simp only [Instr.lookup, Sem.run_bind, run_underlying hM, Result.andThen_ok, getObj_run hw, Sem.run_pure, L.check, hf]
  cases hfe : findE k es 0 with
  | none =>
    rw [hfe] at hg
    simp only [Option.map_none] at hg ⊢
    simp [hz, ← hg]
  | some r =>
    rw [hfe] at hg
    simp only [Option.map_some] at hg ⊢
    simp [← hg]
/-- What an assignment leaves. -/
def putE (k : α) (v : β) : List (α × β) → List (α × β)
  | [] => [(k, v)]
  | e :: es => if k = e.1 then (k, v) :: es else e :: putE k v es
/-- What a delete leaves. -/
def delE (k : α) : List (α × β) → List (α × β)
  | [] => []
  | e :: es => if k = e.1 then es else e :: delE k es
theorem putE_none {k : α} {v : β} : ∀ {es : List (α × β)} {i : Nat}, findE k es i = none → putE k v es = es ++ [(k, v)]
  | [], _, _ => rfl
  | e :: es, i, h => by
    simp only [findE] at h
    split at h
    · cases h
    · rename_i hne
      simp only [putE, if_neg hne, putE_none h, List.cons_append]
theorem findE_at {k : α} : ∀ {es : List (α × β)} {i j : Nat} {v : β}, findE k es i = some (j, v) → ∃ m, j = i + m ∧ es[m]? = some (k, v) ∧ (∀ v', putE k v' es = es.set m (k, v')) ∧ delE k es = es.eraseIdx m
  | [], _, _, _, h => by cases h
  | e :: es, i, j, v, h => by
    simp only [findE] at h
    split at h
    · rename_i hk
      simp only [Option.some.injEq, Prod.mk.injEq] at h
      obtain ⟨rfl, rfl⟩ := h
      exact ⟨0, rfl, by rw [hk]; rfl, fun v' => by simp only [putE, if_pos hk, List.set_cons_zero], by simp only [delE, if_pos hk, List.eraseIdx_cons_zero]⟩
    · rename_i hne
      obtain ⟨m, h1, h2, h3, h4⟩ := findE_at h
      exact ⟨m + 1, by omega, by simpa using h2, fun v' => by simp only [putE, if_neg hne, h3, List.set_cons_succ], by simp only [delE, if_neg hne, h4, List.eraseIdx_cons_succ]⟩
theorem delE_none {k : α} : ∀ {es : List (α × β)} {i : Nat}, findE k es i = none → delE k es = es
  | [], _, _ => rfl
  | e :: es, i, h => by
    simp only [findE] at h
    split at h
    · cases h
    · rename_i hne
      simp only [delE, if_neg hne, delE_none h]
theorem xmakeMap_ok {h : Heap} {M : TypeId} {K : Value → Heap → Prop} (hk : ∀ b h', New h h' b (.map #[] 0) → K (.map (some b)) h') : XRun P (Instr.makeMap M none) h K := by
  refine ⟨fun w hw => ?_⟩
  subst hw
  exact ⟨.map (some w.heap.size), { w with heap := w.heap.push (.map #[] 0) }, rfl, ⟨rfl, rfl, rfl⟩, hk _ _ (new_push _ _)⟩
/-- One map is another one behind it; all else is as it was. -/
structure Remapped (h : Heap) (b : Nat) (h' : Heap) : Prop where
  size : h'.size = h.size
  other : ∀ k, k ≠ b → h'[k]? = h[k]?
theorem setObj_run {b c c' : Nat} {E E' : Array MapEntry} {w : World} (h : w.heap[b]? = some (.map E c)) :
    ∃ w', (setObj b (.map E' c')).run P w = .ok () w' ∧ SameOut w w' ∧ w'.heap[b]? = some (.map E' c') ∧ Remapped w.heap b w'.heap := by
  have hb : b < w.heap.size := blk_lt h
  refine ⟨{ w with heap := w.heap.setIfInBounds b (.map E' c') }, by simp [setObj, Sem.run, h], ⟨rfl, rfl, rfl⟩, ?_, ⟨by simp, fun k hk => ?_⟩⟩
  · simp [hb]
  · simp [Array.getElem?_setIfInBounds, Ne.symm hk]
theorem xmapUpdate_ok (L : KeyLaw P T encK) {kind : TypeDesc} {M V : TypeId} {h : Heap} {b : Nat} {es : List (α × β)} {K : Heap → Prop} (hu : P.underlying T = some kind) (hM : P.underlying M = some (.map T V))
    (hm : MapAt encK encV h b es) (k : α) (v : β) (hk : ∀ h', MapAt encK encV h' b (putE k v es) → Remapped h b h' → K h') : XRunU P (Instr.mapUpdate M (.map (some b)) (encK k) (encV v)) h K := by
  obtain ⟨E, clock, hb, hE, hS⟩ := hm
  refine ⟨fun w hw => ?_⟩
  subst hw
  have hf := findKey_run L hu k hE w
  cases hfe : findE k es 0 with
  | none =>
    rw [hfe] at hf
    obtain ⟨w', hr, hso, hb', hre⟩ := setObj_run (P := P) (E' := E.toArray.push { key := encK k, val := encV v, born := clock }) (c' := clock + 1) hb
    refine ⟨w', ?_, hso, hk _ ⟨E ++ [{ key := encK k, val := encV v, born := clock }], clock + 1, by rw [hb']; simp, ?_, stamped_push hS⟩ hre⟩
    · simp only [Instr.mapUpdate, Sem.run_bind, run_underlying hM, Result.andThen_ok, getObj_run hb, L.check, hf, Option.map_none]
      exact hr
    · rw [putE_none hfe]
      simp only [Ents, List.map_append, List.map_cons, List.map_nil] at hE ⊢
      rw [hE]
  | some r =>
    obtain ⟨j, v0⟩ := r
    rw [hfe] at hf
    obtain ⟨m, hj, h2, h3, _⟩ := findE_at hfe
    rw [Nat.zero_add] at hj
    subst hj
    have hjl : j < E.length := by rw [hE.len]; exact (List.getElem?_eq_some_iff.1 h2).1
    have hkey : E[j].key = encK k := by
      have h4 : (E.map fun e => (e.key, e.val))[j]? = (es.map fun p => (encK p.1, encV p.2))[j]? := by rw [show E.map (fun e => (e.key, e.val)) = _ from hE]
      rw [List.getElem?_map, List.getElem?_map, h2, List.getElem?_eq_getElem hjl] at h4
      simp only [Option.map_some, Option.some.injEq, Prod.mk.injEq] at h4
      exact h4.1
    obtain ⟨w', hr, hso, hb', hre⟩ := setObj_run (P := P) (E' := E.toArray.modify j fun e => { e with key := encK k, val := encV v }) (c' := clock) hb
    refine ⟨w', ?_, hso, hk _ ⟨E.modify j fun e => { e with key := encK k, val := encV v }, clock, by rw [hb']; simp, ?_, stamped_modify hS fun e => rfl⟩ hre⟩
    · have hst : (((E.toArray[j]?).map (·.key)).getD (encK k)) = encK k := by simp [hjl, hkey]
      simp only [Instr.mapUpdate, Sem.run_bind, run_underlying hM, Result.andThen_ok, getObj_run hb, L.check, hf, Option.map_some, Instr.keyThatStays, hst, L.same, if_true, Sem.run_pure]
      exact hr
    · rw [h3]
      simp only [Ents] at hE ⊢
      apply List.ext_getElem?
      intro i
      rw [List.getElem?_map, List.getElem?_map, List.getElem?_modify, List.getElem?_set]
      have h5 : (E.map fun e => (e.key, e.val))[i]? = (es.map fun p => (encK p.1, encV p.2))[i]? := by rw [hE]
      rw [List.getElem?_map, List.getElem?_map] at h5
      by_cases e : j = i
      · subst e
        have := (List.getElem?_eq_some_iff.1 h2).1
        simp [hjl, this]
      · simp only [if_neg e]
        simpa using h5
theorem xdelete_ok (L : KeyLaw P T encK) {kind : TypeDesc} {M V ty kt : TypeId} {h : Heap} {b : Nat} {es : List (α × β)} {K : Value → Heap → Prop} (hu : P.underlying T = some kind) (hM : P.underlying M = some (.map T V))
    (hm : MapAt encK encV h b es) (k : α) (hk : ∀ h', MapAt encK encV h' b (delE k es) → Remapped h b h' → K (.tuple #[]) h') : XRun P (Builtin.delete_ #[M, kt] ty #[.map (some b), encK k]) h K := by
  obtain ⟨E, clock, hb, hE, hS⟩ := hm
  refine ⟨fun w hw => ?_⟩
  subst hw
  have hf := findKey_run L hu k hE w
  cases hfe : findE k es 0 with
  | none =>
    rw [hfe] at hf
    obtain ⟨w', hr, hso, hb', hre⟩ := setObj_run (P := P) (E' := E.toArray) (c' := clock) hb
    refine ⟨_, w', ?_, hso, hk _ ⟨E, clock, hb', by rw [delE_none hfe]; exact hE, hS⟩ hre⟩
    simp [Builtin.delete_, Sem.run_bind, run_underlying hM, Result.andThen_ok, getObj_run hb, L.check, hf, hr]
  | some r =>
    obtain ⟨j, v0⟩ := r
    rw [hfe] at hf
    obtain ⟨m, hj, h2, _, h4⟩ := findE_at hfe
    rw [Nat.zero_add] at hj
    subst hj
    obtain ⟨w', hr, hso, hb', hre⟩ := setObj_run (P := P) (E' := E.toArray.eraseIdxIfInBounds j) (c' := clock) hb
    refine ⟨_, w', ?_, hso, hk _ ⟨E.eraseIdx j, clock, by rw [hb']; simp, ?_, stamped_erase hS j⟩ hre⟩
    · have e : E.toArray.eraseIdxIfInBounds j = (E.eraseIdx j).toArray := by simp
      rw [e] at hr
      simp [Builtin.delete_, Sem.run_bind, run_underlying hM, Result.andThen_ok, getObj_run hb, L.check, hf, hr]
    · rw [h4]
      simp only [Ents] at hE ⊢
      apply List.ext_getElem?
      intro i
      have h5 : ∀ i : Nat, (E.map fun e => (e.key, e.val))[i]? = (es.map fun p => (encK p.1, encV p.2))[i]? := fun i => by rw [hE]
      simp only [List.getElem?_map] at h5
      rw [List.getElem?_map, List.getElem?_map, List.getElem?_eraseIdx, List.getElem?_eraseIdx]
      split
      · exact h5 i
      · exact h5 (i + 1)
end
theorem Remapped.blk {h h' : Heap} {mb k : Nat} {o : Obj} (r : Remapped h mb h') (H : h[k]? = some o) (hk : k ≠ mb) : h'[k]? = some o := (r.other k hk).trans H
theorem Remapped.ext {h0 h h' : Heap} {mb : Nat} (r : Remapped h mb h') (x : Ext h0 h) (hb : h0.size ≤ mb) : Ext h0 h' := ⟨by rw [r.size]; exact x.size, fun k hk => (r.other k (by omega)).trans (x.old k hk)⟩
theorem MapAt.ne {α β : Type} {encK : α → Value} {encV : β → Value} {h : Heap} {mb k : Nat} {O : List (α × β)} {c : Array Value} {e : TypeId} {f : Nat × Nat} (H : MapAt encK encV h mb O) (hk : h[k]? = some (.cells c e f)) : k ≠ mb := by
  obtain ⟨E, cl, hb, _⟩ := H
  rintro rfl
  rw [hb] at hk; cases hk
theorem MapAt.ext {α β : Type} {encK : α → Value} {encV : β → Value} {h h' : Heap} {mb : Nat} {O : List (α × β)} (H : MapAt encK encV h mb O) (x : Ext h h') : MapAt encK encV h' mb O := by
  obtain ⟨E, cl, hb, r⟩ := H
  exact ⟨E, cl, x.blk hb, r⟩
theorem OwnA.remapped {α : Type} {enc : α → List Value} {sz : Nat} {T : TypeId} {base mb : Nat} {h h' : Heap} {A : Option Addr} {c : Nat} {xs : List α} {κ β : Type} {encK : κ → Value} {encV : β → Value} {O : List (κ × β)}
    (H : OwnA enc sz T base h A c xs) (m : MapAt encK encV h mb O) (r : Remapped h mb h') : OwnA enc sz T base h' A c xs := by
  rcases H with H | ⟨b, rest, e, hg, hb, hr, hc⟩
  · exact .inl H
  · exact .inr ⟨b, rest, e, hg, r.blk hb (m.ne hb), hr, hc⟩
theorem xlookup_hit {α β : Type} [DecidableEq α] {encK : α → Value} {encV : β → Value} {P : Program} {T : TypeId} (L : KeyLaw P T encK) {kind : TypeDesc} {M V : TypeId} {z : Value} {h : Heap} {b : Nat} {es : List (α × β)} {K : Value → (Heap → Prop) → Prop} (hu : P.underlying T = some kind) (hM : P.underlying M = some (.map T V))
    (hz : ∀ w, (zeroValue V).run P w = .ok z w) (hm : MapAt encK encV h b es) (k : α) {v : β} (hg : getE k es = some v) (hk : ∀ F, K (.tuple #[encV v, .bool true]) F) : XGet P (Instr.lookup M (.map (some b)) (encK k) true) h K :=
  xlookup_ok L hu hM hz hm k fun F => by rw [hg]; exact hk F
section
variable {α β : Type} [DecidableEq α] {encK : α → Value} {encV : β → Value} {P : Program} {T : TypeId}
/-- The entry of a key's, by its stamp. -/
def StampAt (encK : α → Value) (encV : β → Value) (h : Heap) (b : Nat) (es : List (α × β)) (k : α) (s : Int) : Prop := ∃ (E : List MapEntry) (clock i : Nat) (v0 : β) (e : MapEntry), h[b]? = some (.map E.toArray clock) ∧ Ents encK encV E es ∧ Stamped E clock ∧ findE k es 0 = some (i, v0) ∧ E[i]? = some e ∧ (e.born : Int) = s
theorem findE_push {k : α} {z : β} : ∀ {es : List (α × β)} {i : Nat}, findE k es i = none → findE k (es ++ [(k, z)]) i = some (i + es.length, z)
  | [], i, _ => by simp [findE]
  | e :: es, i, h => by
    simp only [findE] at h
    split at h
    · cases h
    · rename_i hne
      simp only [List.cons_append, findE, if_neg hne, List.length_cons]
      rw [findE_push h]
      congr 2
      omega
theorem putE_same' {k : α} {v : β} : ∀ {es : List (α × β)} {i j : Nat}, findE k es i = some (j, v) → putE k v es = es
  | [], _, _, h => by cases h
  | e :: es, i, j, h => by
    simp only [findE] at h
    split at h
    · rename_i hk
      simp only [Option.some.injEq, Prod.mk.injEq] at h
      rw [putE, if_pos hk, hk, ← h.2]
    · rename_i hne
      simp only [putE, if_neg hne, putE_same' h]
theorem getE_of {k : α} {es : List (α × β)} : getE k es = (findE k es 0).map (·.2) := (findE_get k es 0).symm
theorem xmapEntry_ok (L : KeyLaw P T encK) {kind : TypeDesc} {M V : TypeId} {z : β} {h : Heap} {b : Nat} {es : List (α × β)} {K : Value → Heap → Prop} (hu : P.underlying T = some kind) (hM : P.underlying M = some (.map T V))
    (hz : ∀ w, (zeroValue V).run P w = .ok (encV z) w) (hm : MapAt encK encV h b es) (k : α) (hk : ∀ h' s, MapAt encK encV h' b (putE k ((getE k es).getD z) es) → Remapped h b h' → StampAt encK encV h' b (putE k ((getE k es).getD z) es) k s → K (.tuple #[encV ((getE k es).getD z), .int .i64 s]) h') :
    XRun P (Instr.mapEntry M (.map (some b)) (encK k)) h K := by
  obtain ⟨E, clock, hb, hE, hS⟩ := hm
  refine ⟨fun w hw => ?_⟩
  subst hw
  have hf := findKey_run L hu k hE w
  rw [getE_of] at hk
  cases hfe : findE k es 0 with
  | none =>
    rw [hfe] at hf hk
    simp only [Option.map_none, Option.getD_none] at hf hk
    obtain ⟨w', hr, hso, hb', hre⟩ := setObj_run (P := P) (E' := E.toArray.push { key := encK k, val := encV z, born := clock }) (c' := clock + 1) hb
    have hEn : Ents encK encV (E ++ [{ key := encK k, val := encV z, born := clock }]) (putE k z es) := by
      rw [putE_none hfe]
      simp only [Ents, List.map_append, List.map_cons, List.map_nil] at hE ⊢
      rw [hE]
    have hb2 : w'.heap[b]? = some (.map (E ++ [({ key := encK k, val := encV z, born := clock } : MapEntry)]).toArray (clock + 1)) := by rw [hb']; simp
    refine ⟨.tuple #[encV z, .int .i64 clock], w', ?_, hso, hk _ clock ⟨_, _, hb2, hEn, stamped_push hS⟩ hre ⟨_, _, es.length, z, ({ key := encK k, val := encV z, born := clock } : MapEntry), hb2, hEn, stamped_push hS, (by rw [putE_none hfe]; simpa using findE_push (z := z) hfe), (by rw [← hE.len]; simp), rfl⟩⟩
    simp only [Instr.mapEntry, Sem.run_bind, run_underlying hM, Result.andThen_ok, getObj_run hb, L.check, hf, hz, hr, Sem.run_pure, goInt]
  | some r =>
    obtain ⟨j, v0⟩ := r
    rw [hfe] at hf hk
    simp only [Option.map_some, Option.getD_some] at hf hk
    obtain ⟨m, hj, h2, h3, _⟩ := findE_at hfe
    rw [Nat.zero_add] at hj
    subst hj
    have hjl : j < E.length := by rw [hE.len]; exact (List.getElem?_eq_some_iff.1 h2).1
    have hkey : E[j].key = encK k := by
      have h4 : (E.map fun e => (e.key, e.val))[j]? = (es.map fun p => (encK p.1, encV p.2))[j]? := by rw [show E.map (fun e => (e.key, e.val)) = _ from hE]
      rw [List.getElem?_map, List.getElem?_map, h2, List.getElem?_eq_getElem hjl] at h4
      simp only [Option.map_some, Option.some.injEq, Prod.mk.injEq] at h4
      exact h4.1
    obtain ⟨w', hr, hso, hb', hre⟩ := setObj_run (P := P) (E' := E.toArray.modify j fun e => { e with key := encK k }) (c' := clock) hb
    have hsame : E.modify j (fun e => { e with key := encK k }) = E := by
      apply List.ext_getElem?
      intro i
      rw [List.getElem?_modify]
      by_cases hi : j = i
      · subst hi
        rw [List.getElem?_eq_getElem hjl, ← hkey]
        simp
      · simp [hi]
    have hb2 : w'.heap[b]? = some (.map E.toArray clock) := by
      rw [hb', ← hsame]
      simp [hsame]
    have hp := putE_same' hfe
    refine ⟨.tuple #[encV v0, .int .i64 E[j].born], w', ?_, hso, hk _ E[j].born (by rw [hp]; exact ⟨_, _, hb2, hE, hS⟩) hre (by rw [hp]; exact ⟨_, _, j, v0, E[j], hb2, hE, hS, hfe, List.getElem?_eq_getElem hjl, rfl⟩)⟩
    have hst : (((E.toArray[j]?).map (·.key)).getD (encK k)) = encK k := by simp [hjl, hkey]
    have hbo : (((E.toArray[j]?).map fun x => (x.born : Int)).getD 0) = E[j].born := by simp [hjl]
    simp only [Instr.mapEntry, Sem.run_bind, run_underlying hM, Result.andThen_ok, getObj_run hb, L.check, hf, Instr.keyThatStays, hst, L.same, if_true, Sem.run_pure, hr, hbo, goInt]
theorem idx_of {E : List MapEntry} (hn : (E.map fun e => e.born).Nodup) : ∀ {i : Nat} {e : MapEntry}, E[i]? = some e → E.findIdx? (fun x => (x.born : Int) == (e.born : Int)) = some i := by
  induction E with
  | nil => intro i e h; simp at h
  | cons x E ih =>
    intro i e h
    rw [List.map_cons, List.nodup_cons] at hn
    cases i with
    | zero =>
      simp only [List.getElem?_cons_zero, Option.some.injEq] at h
      subst h
      simp [List.findIdx?_cons]
    | succ i =>
      simp only [List.getElem?_cons_succ] at h
      have hne : ¬ (x.born : Int) = e.born := by
        intro he
        have he : x.born = e.born := by omega
        exact hn.1 (List.mem_map.2 ⟨e, List.mem_of_getElem? h, he.symm⟩)
      rw [List.findIdx?_cons, if_neg (by simpa using hne), ih hn.2 h]
      rfl
theorem xentryStore_ok {M : TypeId} {h : Heap} {b : Nat} {es : List (α × β)} {K : Heap → Prop} {k : α} {s : Int} (hs : StampAt encK encV h b es k s) (v : β) (hk : ∀ h', MapAt encK encV h' b (putE k v es) → Remapped h b h' → K h') :
    XRunU P (Instr.entryStore M (.map (some b)) (.int .i64 s) (encV v)) h K := by
  obtain ⟨E, clock, i, v0, e, hb, hE, hS, hf, he, rfl⟩ := hs
  refine ⟨fun w hw => ?_⟩
  subst hw
  obtain ⟨m, hj, h2, h3, _⟩ := findE_at hf
  rw [Nat.zero_add] at hj
  subst hj
  have hil : i < E.length := (List.getElem?_eq_some_iff.1 he).1
  obtain ⟨w', hr, hso, hb', hre⟩ := setObj_run (P := P) (E' := E.toArray.modify i fun e => { e with val := encV v }) (c' := clock) hb
  have hix := idx_of hS.2 he
  refine ⟨w', ?_, hso, hk _ ⟨E.modify i fun e => { e with val := encV v }, clock, by rw [hb']; simp, ?_, stamped_modify hS fun e => rfl⟩ hre⟩
  · simp only [Instr.entryStore, Sem.run_bind, getObj_run hb, Result.andThen_ok, asInt, asIntOf, Sem.run_pure, List.findIdx?_toArray, hix, hr]
  · rw [h3]
    simp only [Ents] at hE ⊢
    apply List.ext_getElem?
    intro j
    rw [List.getElem?_map, List.getElem?_map, List.getElem?_modify, List.getElem?_set]
    have h5 : ∀ j : Nat, (E.map fun e => (e.key, e.val))[j]? = (es.map fun p => (encK p.1, encV p.2))[j]? := fun j => by rw [hE]
    simp only [List.getElem?_map] at h5
    by_cases hij : i = j
    · subst hij
      have h6 := h5 i
      have h7 := (List.getElem?_eq_some_iff.1 h2).1
      rw [h2, he] at h6
      simp only [Option.map_some, Option.some.injEq, Prod.mk.injEq] at h6
      simp [he, h7, h6.1]
    · simp only [if_neg hij]
      simpa using h5 j
end
end Go.Proofs.YtjjempefncgfhaaGreatDoorE
