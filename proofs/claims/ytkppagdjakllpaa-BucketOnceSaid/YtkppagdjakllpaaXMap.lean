/- Maps with keys of one plain type: what a lookup gives, what an assignment and a delete leave. Conditions: the keys' law. -/
import Derived.Test.YtkppagdjakllpaaXOwn
set_option linter.unusedVariables false
set_option linter.unusedSimpArgs false
namespace Go.Proofs.YtkppagdjakllpaaE
open Go Go.Proofs

/-- How keys of a type are compared: as what they stand for. -/
structure KeyLaw {α : Type} [DecidableEq α] (P : Program) (T : TypeId) (encK : α → Value) : Prop where
  check : ∀ (b : Bool) k w, (Instr.checkKey b 10000 T (encK k)).run P w = .ok () w
  same : ∀ a, Instr.sameBits 10000 (encK a) (encK a) = true
  now : (∀ kind a b, P.underlying T = some kind → Instr.sameNow kind (encK a) (encK b) = none) ∨ (∀ kind a b, P.underlying T = some kind → Instr.sameNow kind (encK a) (encK b) = some (decide (a = b)))
  equal : ∀ a b w, (Op.equal T (encK a) (encK b)).run P w = .ok (decide (a = b)) w
section
variable {α β : Type} {encK : α → Value} {encV : β → Value} {P : Program} {T : TypeId}
def Ents (encK : α → Value) (encV : β → Value) (E : List MapEntry) (es : List (α × β)) : Prop := E.map (fun e => (e.key, e.val)) = es.map fun p => (encK p.1, encV p.2)
theorem Ents.cons {E : List MapEntry} {es : List (α × β)} {e : MapEntry} {p : α × β} : Ents encK encV (e :: E) (p :: es) ↔ e.key = encK p.1 ∧ e.val = encV p.2 ∧ Ents encK encV E es := by
  simp [Ents, and_assoc]
theorem Ents.len {E : List MapEntry} {es : List (α × β)} (h : Ents encK encV E es) : E.length = es.length := by have := congrArg List.length h; simpa [Ents] using this
/-- The map at block b holds these pairs, in order. -/
def MapAt (encK : α → Value) (encV : β → Value) (h : Heap) (b : Nat) (es : List (α × β)) : Prop := ∃ (E : List MapEntry) (clock : Nat), h[b]? = some (.map E.toArray clock) ∧ Ents encK encV E es
theorem getObj_run {b c : Nat} {E : Array MapEntry} {w : World} (h : w.heap[b]? = some (.map E c)) : (getObj b).run P w = .ok (.map E c) w := by
  simp [getObj, Sem.run, h]
theorem mapAt_nil {h h' : Heap} {b : Nat} (n : New h h' b (.map #[] 0)) : MapAt encK encV h' b ([] : List (α × β)) := ⟨[], 0, n.this, rfl⟩
theorem xlenMap_ok {h : Heap} {M V ty : TypeId} {b : Nat} {es : List (α × β)} {K : Value → (Heap → Prop) → Prop} (hM : P.underlying M = some (.map T V)) (hm : MapAt encK encV h b es) (hk : ∀ F, K (.int .i64 es.length) F) :
    XGet P (Builtin.len_ #[M] ty #[.map (some b)]) h K := by
  obtain ⟨E, clock, hb, hE⟩ := hm
  have hl : E.length = es.length := by have := congrArg List.length hE; simpa [Ents] using this
  refine ⟨_, fun h' => h'[b]? = some (.map E.toArray clock), hb, fun w hw => ?_, hk _⟩
  simp [Builtin.len_, run_underlying hM, getObj_run hw, goInt, hl]
variable [DecidableEq α]
def findE (k : α) : List (α × β) → Nat → Option (Nat × β)
  | [], _ => none
  | e :: es, i => if k = e.1 then some (i, e.2) else findE k es (i + 1)
theorem asking_run (L : KeyLaw P T encK) (k : α) : ∀ {E : List MapEntry} {es : List (α × β)} (i : Nat) (w : World), Ents encK encV E es → (Instr.findAsking T (encK k) E i).run P w = .ok ((findE k es i).map fun r => (r.1, encV r.2)) w := by
  intro E
  induction E with
  | nil =>
    intro es i w h
    cases es with
    | nil => simp [Instr.findAsking, findE]
    | cons p es => simp [Ents] at h
  | cons e E ih =>
    intro es i w h
    cases es with
    | nil => simp [Ents] at h
    | cons p es =>
      obtain ⟨h1, h2, h3⟩ := Ents.cons.1 h
      simp only [Instr.findAsking, Sem.run_bind, h1, L.equal, Result.andThen_ok, findE]
      by_cases hk : k = p.1
      · simp [hk, h2]
      · simp only [hk, decide_false, if_false]
        exact ih (i + 1) w h3
theorem findNow_some {kind : TypeDesc} (L : ∀ a b, Instr.sameNow kind (encK a) (encK b) = some (decide (a = b))) (k : α) : ∀ {E : List MapEntry} {es : List (α × β)} (i : Nat), Ents encK encV E es → Instr.findNow kind (encK k) E i = some ((findE k es i).map fun r => (r.1, encV r.2)) := by
  intro E
  induction E with
  | nil =>
    intro es i h
    cases es with
    | nil => rfl
    | cons p es => simp [Ents] at h
  | cons e E ih =>
    intro es i h
    cases es with
    | nil => simp [Ents] at h
    | cons p es =>
      obtain ⟨h1, h2, h3⟩ := Ents.cons.1 h
      simp only [Instr.findNow, h1, L, findE]
      by_cases hk : k = p.1
      · simp [hk, h2]
      · simp only [hk, decide_false, if_false]
        exact ih (i + 1) h3
theorem findKey_run (L : KeyLaw P T encK) {kind : TypeDesc} (hu : P.underlying T = some kind) (k : α) {E : List MapEntry} {es : List (α × β)} (h : Ents encK encV E es) (w : World) : (Instr.findKey T (encK k) E).run P w = .ok ((findE k es 0).map fun r => (r.1, encV r.2)) w := by
  simp only [Instr.findKey, Sem.run_bind, run_underlying hu, Result.andThen_ok]
  rcases L.now with hn | hn
  · cases E with
    | nil =>
      cases es with
      | nil => rfl
      | cons p es => simp [Ents] at h
    | cons e E =>
      cases es with
      | nil => simp [Ents] at h
      | cons p es =>
        have h1 := (Ents.cons.1 h).1
        have : Instr.findNow kind (encK k) (e :: E) 0 = none := by simp only [Instr.findNow, h1, hn kind k p.1 hu]
        rw [this]
        exact asking_run L k 0 w h
  · rw [findNow_some (fun a b => hn kind a b hu) k 0 h]
    rfl
def getE (k : α) : List (α × β) → Option β
  | [] => none
  | e :: es => if k = e.1 then some e.2 else getE k es
theorem findE_get (k : α) : ∀ (es : List (α × β)) (i : Nat), (findE k es i).map (·.2) = getE k es
  | [], _ => rfl
  | e :: es, i => by
    simp only [findE, getE]
    split
    · rfl
    · exact findE_get k es (i + 1)
theorem xlookup_ok (L : KeyLaw P T encK) {kind : TypeDesc} {M V : TypeId} {z : Value} {h : Heap} {b : Nat} {es : List (α × β)} {K : Value → (Heap → Prop) → Prop} (hu : P.underlying T = some kind) (hM : P.underlying M = some (.map T V))
    (hz : ∀ w, (zeroValue V).run P w = .ok z w) (hm : MapAt encK encV h b es) (k : α) (hk : ∀ F, K (.tuple #[match getE k es with | some v => encV v | none => z, .bool (getE k es).isSome]) F) :
    XGet P (Instr.lookup M (.map (some b)) (encK k) true) h K := by
  obtain ⟨E, clock, hb, hE⟩ := hm
  refine ⟨_, fun h' => h'[b]? = some (.map E.toArray clock), hb, fun w hw => ?_, hk _⟩
  have hf := findKey_run L hu k hE w
  have hg := findE_get k es 0
  simp only [Instr.lookup, Sem.run_bind, run_underlying hM, Result.andThen_ok, getObj_run hw, Sem.run_pure, L.check, hf]
  cases hfe : findE k es 0 with
  | none =>
    rw [hfe] at hg
    simp only [Option.map_none] at hg ⊢
    simp [hz, ← hg]
  | some r =>
    rw [hfe] at hg
    simp only [Option.map_some] at hg ⊢
    simp [← hg]
/-- What an assignment leaves. -/
def putE (k : α) (v : β) : List (α × β) → List (α × β)
  | [] => [(k, v)]
  | e :: es => if k = e.1 then (k, v) :: es else e :: putE k v es
/-- What a delete leaves. -/
def delE (k : α) : List (α × β) → List (α × β)
  | [] => []
  | e :: es => if k = e.1 then es else e :: delE k es
theorem putE_none {k : α} {v : β} : ∀ {es : List (α × β)} {i : Nat}, findE k es i = none → putE k v es = es ++ [(k, v)]
  | [], _, _ => rfl
  | e :: es, i, h => by
    simp only [findE] at h
    split at h
    · cases h
    · rename_i hne
      simp only [putE, if_neg hne, putE_none h, List.cons_append]
theorem findE_at {k : α} : ∀ {es : List (α × β)} {i j : Nat} {v : β}, findE k es i = some (j, v) → ∃ m, j = i + m ∧ es[m]? = some (k, v) ∧ (∀ v', putE k v' es = es.set m (k, v')) ∧ delE k es = es.eraseIdx m
  | [], _, _, _, h => by cases h
  | e :: es, i, j, v, h => by
    simp only [findE] at h
    split at h
    · rename_i hk
      simp only [Option.some.injEq, Prod.mk.injEq] at h
      obtain ⟨rfl, rfl⟩ := h
      exact ⟨0, rfl, by rw [hk]; rfl, fun v' => by simp only [putE, if_pos hk, List.set_cons_zero], by simp only [delE, if_pos hk, List.eraseIdx_cons_zero]⟩
    · rename_i hne
      obtain ⟨m, h1, h2, h3, h4⟩ := findE_at h
      exact ⟨m + 1, by omega, by simpa using h2, fun v' => by simp only [putE, if_neg hne, h3, List.set_cons_succ], by simp only [delE, if_neg hne, h4, List.eraseIdx_cons_succ]⟩
theorem delE_none {k : α} : ∀ {es : List (α × β)} {i : Nat}, findE k es i = none → delE k es = es
  | [], _, _ => rfl
  | e :: es, i, h => by
    simp only [findE] at h
    split at h
    · cases h
    · rename_i hne
      simp only [delE, if_neg hne, delE_none h]
theorem xmakeMap_ok {h : Heap} {M : TypeId} {K : Value → Heap → Prop} (hk : ∀ b h', New h h' b (.map #[] 0) → K (.map (some b)) h') : XRun P (Instr.makeMap M none) h K := by
  refine ⟨fun w hw => ?_⟩
  subst hw
  exact ⟨.map (some w.heap.size), { w with heap := w.heap.push (.map #[] 0) }, rfl, ⟨rfl, rfl, rfl⟩, hk _ _ (new_push _ _)⟩
/-- One map is another one behind it; all else is as it was. -/
structure Remapped (h : Heap) (b : Nat) (h' : Heap) : Prop where
  size : h'.size = h.size
  other : ∀ k, k ≠ b → h'[k]? = h[k]?
theorem setObj_run {b c c' : Nat} {E E' : Array MapEntry} {w : World} (h : w.heap[b]? = some (.map E c)) :
    ∃ w', (setObj b (.map E' c')).run P w = .ok () w' ∧ SameOut w w' ∧ w'.heap[b]? = some (.map E' c') ∧ Remapped w.heap b w'.heap := by
  have hb : b < w.heap.size := blk_lt h
  refine ⟨{ w with heap := w.heap.setIfInBounds b (.map E' c') }, by simp [setObj, Sem.run, h], ⟨rfl, rfl, rfl⟩, ?_, ⟨by simp, fun k hk => ?_⟩⟩
  · simp [hb]
  · simp [Array.getElem?_setIfInBounds, Ne.symm hk]
theorem xmapUpdate_ok (L : KeyLaw P T encK) {kind : TypeDesc} {M V : TypeId} {h : Heap} {b : Nat} {es : List (α × β)} {K : Heap → Prop} (hu : P.underlying T = some kind) (hM : P.underlying M = some (.map T V))
    (hm : MapAt encK encV h b es) (k : α) (v : β) (hk : ∀ h', MapAt encK encV h' b (putE k v es) → Remapped h b h' → K h') : XRunU P (Instr.mapUpdate M (.map (some b)) (encK k) (encV v)) h K := by
  obtain ⟨E, clock, hb, hE⟩ := hm
  refine ⟨fun w hw => ?_⟩
  subst hw
  have hf := findKey_run L hu k hE w
  cases hfe : findE k es 0 with
  | none =>
    rw [hfe] at hf
    obtain ⟨w', hr, hso, hb', hre⟩ := setObj_run (P := P) (E' := E.toArray.push { key := encK k, val := encV v, born := clock }) (c' := clock + 1) hb
    refine ⟨w', ?_, hso, hk _ ⟨E ++ [{ key := encK k, val := encV v, born := clock }], clock + 1, by rw [hb']; simp, ?_⟩ hre⟩
    · simp only [Instr.mapUpdate, Sem.run_bind, run_underlying hM, Result.andThen_ok, getObj_run hb, L.check, hf, Option.map_none]
      exact hr
    · rw [putE_none hfe]
      simp only [Ents, List.map_append, List.map_cons, List.map_nil] at hE ⊢
      rw [hE]
  | some r =>
    obtain ⟨j, v0⟩ := r
    rw [hfe] at hf
    obtain ⟨m, hj, h2, h3, _⟩ := findE_at hfe
    rw [Nat.zero_add] at hj
    subst hj
    have hjl : j < E.length := by rw [hE.len]; exact (List.getElem?_eq_some_iff.1 h2).1
    have hkey : E[j].key = encK k := by
      have h4 : (E.map fun e => (e.key, e.val))[j]? = (es.map fun p => (encK p.1, encV p.2))[j]? := by rw [show E.map (fun e => (e.key, e.val)) = _ from hE]
      rw [List.getElem?_map, List.getElem?_map, h2, List.getElem?_eq_getElem hjl] at h4
      simp only [Option.map_some, Option.some.injEq, Prod.mk.injEq] at h4
      exact h4.1
    obtain ⟨w', hr, hso, hb', hre⟩ := setObj_run (P := P) (E' := E.toArray.modify j fun e => { e with key := encK k, val := encV v }) (c' := clock) hb
    refine ⟨w', ?_, hso, hk _ ⟨E.modify j fun e => { e with key := encK k, val := encV v }, clock, by rw [hb']; simp, ?_⟩ hre⟩
    · have hst : (((E.toArray[j]?).map (·.key)).getD (encK k)) = encK k := by simp [hjl, hkey]
      simp only [Instr.mapUpdate, Sem.run_bind, run_underlying hM, Result.andThen_ok, getObj_run hb, L.check, hf, Option.map_some, Instr.keyThatStays, hst, L.same, if_true, Sem.run_pure]
      exact hr
    · rw [h3]
      simp only [Ents] at hE ⊢
      apply List.ext_getElem?
      intro i
      rw [List.getElem?_map, List.getElem?_map, List.getElem?_modify, List.getElem?_set]
      have h5 : (E.map fun e => (e.key, e.val))[i]? = (es.map fun p => (encK p.1, encV p.2))[i]? := by rw [hE]
      rw [List.getElem?_map, List.getElem?_map] at h5
      by_cases e : j = i
      · subst e
        have := (List.getElem?_eq_some_iff.1 h2).1
        simp [hjl, this]
      · simp only [if_neg e]
        simpa using h5
theorem xdelete_ok (L : KeyLaw P T encK) {kind : TypeDesc} {M V ty kt : TypeId} {h : Heap} {b : Nat} {es : List (α × β)} {K : Value → Heap → Prop} (hu : P.underlying T = some kind) (hM : P.underlying M = some (.map T V))
    (hm : MapAt encK encV h b es) (k : α) (hk : ∀ h', MapAt encK encV h' b (delE k es) → Remapped h b h' → K (.tuple #[]) h') : XRun P (Builtin.delete_ #[M, kt] ty #[.map (some b), encK k]) h K := by
  obtain ⟨E, clock, hb, hE⟩ := hm
  refine ⟨fun w hw => ?_⟩
  subst hw
  have hf := findKey_run L hu k hE w
  cases hfe : findE k es 0 with
  | none =>
    rw [hfe] at hf
    obtain ⟨w', hr, hso, hb', hre⟩ := setObj_run (P := P) (E' := E.toArray) (c' := clock) hb
    refine ⟨_, w', ?_, hso, hk _ ⟨E, clock, hb', by rw [delE_none hfe]; exact hE⟩ hre⟩
    simp [Builtin.delete_, Sem.run_bind, run_underlying hM, Result.andThen_ok, getObj_run hb, L.check, hf, hr]
  | some r =>
    obtain ⟨j, v0⟩ := r
    rw [hfe] at hf
    obtain ⟨m, hj, h2, _, h4⟩ := findE_at hfe
    rw [Nat.zero_add] at hj
    subst hj
    obtain ⟨w', hr, hso, hb', hre⟩ := setObj_run (P := P) (E' := E.toArray.eraseIdxIfInBounds j) (c' := clock) hb
    refine ⟨_, w', ?_, hso, hk _ ⟨E.eraseIdx j, clock, by rw [hb']; simp, ?_⟩ hre⟩
    · have e : E.toArray.eraseIdxIfInBounds j = (E.eraseIdx j).toArray := by simp
      rw [e] at hr
      simp [Builtin.delete_, Sem.run_bind, run_underlying hM, Result.andThen_ok, getObj_run hb, L.check, hf, hr]
    · rw [h4]
      simp only [Ents] at hE ⊢
      apply List.ext_getElem?
      intro i
      have h5 : ∀ i : Nat, (E.map fun e => (e.key, e.val))[i]? = (es.map fun p => (encK p.1, encV p.2))[i]? := fun i => by rw [hE]
      simp only [List.getElem?_map] at h5
      rw [List.getElem?_map, List.getElem?_map, List.getElem?_eraseIdx, List.getElem?_eraseIdx]
      split
      · exact h5 i
      · exact h5 (i + 1)
end
end Go.Proofs.YtkppagdjakllpaaE
