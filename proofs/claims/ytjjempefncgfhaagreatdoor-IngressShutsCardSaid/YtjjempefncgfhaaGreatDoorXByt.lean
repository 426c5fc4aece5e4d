/- Bytes as a string; noughts appended. Conditions: none. -/
import Derived.Test.YtjjempefncgfhaaGreatDoorXLib
import Derived.Laws.BytesString
set_option linter.unusedVariables false
set_option linter.unusedSimpArgs false
namespace Go.Proofs.YtjjempefncgfhaaGreatDoorE
open Go
def encU8 (x : Int) : List Value := [.int .u8 x]
theorem encU8_len (x : Int) : (encU8 x).length = 1 := rfl
theorem encU8_one (x : Int) : (encU8 x).all Value.oneCell' = true := rfl
theorem encU8_flat : ∀ l : List Int, l.flatMap encU8 = l.map (.int .u8)
  | [] => rfl
  | x :: l => by rw [List.flatMap_cons, encU8_flat l]; rfl
def bstr (l : List Int) : ByteArray := l.foldl (fun r n => r.push (UInt8.ofNat n.toNat)) ByteArray.empty
theorem bstr_data : ∀ (l : List Int) (s : ByteArray), (l.foldl (fun (r : ByteArray) n => r.push (UInt8.ofNat n.toNat)) s).data.toList = s.data.toList ++ l.map fun n => UInt8.ofNat n.toNat
  | [], s => by simp
  | x :: l, s => by
    rw [List.foldl_cons, bstr_data l]
    simp [ByteArray.push]
theorem byte_inj {x y : Int} (hx : 0 ≤ x ∧ x < 256) (hy : 0 ≤ y ∧ y < 256) (h : UInt8.ofNat x.toNat = UInt8.ofNat y.toNat) : x = y := by
  have := congrArg UInt8.toNat h
  simp only [UInt8.toNat_ofNat'] at this
  omega
theorem bytes_inj : ∀ {l m : List Int}, (∀ x ∈ l, 0 ≤ x ∧ x < 256) → (∀ x ∈ m, 0 ≤ x ∧ x < 256) → (l.map fun n => UInt8.ofNat n.toNat) = (m.map fun n => UInt8.ofNat n.toNat) → l = m
  | [], [], _, _, _ => rfl
  | [], _ :: _, _, _, h => by simp at h
  | _ :: _, [], _, _, h => by simp at h
  | x :: l, y :: m, hl, hm, h => by
    simp only [List.map_cons, List.cons.injEq] at h
    rw [byte_inj (hl x (List.mem_cons_self ..)) (hm y (List.mem_cons_self ..)) h.1, bytes_inj (fun z hz => hl z (List.mem_cons_of_mem _ hz)) (fun z hz => hm z (List.mem_cons_of_mem _ hz)) h.2]
theorem loop_data (b : ByteArray) : ∀ (n i : Nat) (r : List UInt8), b.size - i = n → ByteArray.toList.loop b i r = r.reverse ++ b.data.toList.drop i := by
  have hs : b.size = b.data.toList.length := by rw [Array.length_toList]; rfl
  intro n
  induction n with
  | zero =>
    intro i r h
    rw [ByteArray.toList.loop, if_neg (by omega), List.drop_eq_nil_of_le (by omega), List.append_nil]
  | succ n ih =>
    intro i r h
    have hi : i < b.data.toList.length := by omega
    rw [ByteArray.toList.loop, if_pos (by omega), ih (i + 1) _ (by omega), List.reverse_cons, List.append_assoc, List.drop_eq_getElem_cons hi]
    have hg : b.get! i = b.data.toList[i] := by
      rw [Array.getElem_toList]
      show b.data[i]! = _
      rw [getElem!_pos b.data i (by rw [Array.length_toList] at hi; exact hi)]
    rw [hg]; rfl
theorem toList_data (b : ByteArray) : b.toList = b.data.toList := by
  show ByteArray.toList.loop b 0 [] = _
  rw [loop_data b _ 0 [] rfl]; rfl
/-- Two byte strings are the same just if the bytes are. -/
theorem bstr_eq {l m : List Int} (hl : ∀ x ∈ l, 0 ≤ x ∧ x < 256) (hm : ∀ x ∈ m, 0 ≤ x ∧ x < 256) : ((bstr l).toList == (bstr m).toList) = decide (l = m) := by
  rw [Bool.eq_iff_iff, decide_eq_true_iff, beq_iff_eq, toList_data, toList_data]
  constructor
  · intro h
    have := bstr_data l ByteArray.empty
    have h2 := bstr_data m ByteArray.empty
    unfold bstr at h
    rw [this, h2] at h
    exact bytes_inj hl hm (List.append_cancel_left h)
  · rintro rfl; rfl
section
variable {P : Program} {h : Heap} {K : Value → Heap → Prop}
theorem xbytes_ok {src dst e : TypeId} {A : Option Addr} {n c : Nat} {l : List Int} (hs : P.underlying src = some (.slice e)) (he : P.underlying e = some (.int .u8)) (hd : P.underlying dst = some .string)
    (hr : Row encU8 1 h A l) (hl : l.length = n) (hk : K (.string (bstr l)) h) : XRun P (convert src dst (.slice A n c)) h K := by
  refine ⟨fun w hw => ?_⟩
  subst hw
  refine ⟨.string (bstr l), w, ?_, SameOut.refl w, hk⟩
  rw [run_convert_bytes_string w src dst e A n c hs he hd]
  cases A with
  | none =>
    have : l = [] := by
      cases l with
      | nil => rfl
      | cons x l => obtain ⟨a, ha, _⟩ := hr 0 x rfl; cases ha
    subst this
    simp [Conv.bytesToString, bstr]
  | some a =>
    refine run_bytesToString w a n c l ?_
    have rd : Reads w.heap a (l.map (.int .u8)) := by
      intro j v hj
      rw [List.getElem?_map] at hj
      cases hx : l[j]? with
      | none => rw [hx] at hj; cases hj
      | some x =>
        rw [hx] at hj
        cases hj
        obtain ⟨a', ha, hrd⟩ := hr j x hx
        cases ha
        have := hrd.get 0 (v := .int .u8 x) rfl
        rwa [add_add, Nat.mul_one, Nat.add_zero] at this
    have := loadCells_run (P := P) rd
    rw [List.length_map, hl] at this
    exact this
theorem OwnA.canapp {α : Type} {enc : α → List Value} {sz : Nat} {T : TypeId} {base : Nat} {h : Heap} {A : Option Addr} {c : Nat} {xs : List α} (H : OwnA enc sz T base h A c xs) (hl : ∀ x, (enc x).length = sz) {m : Nat} {ys : List α} (hm : ys.length = m) (hroom : xs.length + m ≤ c) (a : Addr) (ha : A = some a) :
    CanSet h (a.add (xs.length * sz)) (ys.flatMap enc).length := by
  rcases H with ⟨e, _, _⟩ | ⟨b, rest, e, hg, hb, hr, hc⟩
  · rw [ha] at e; cases e
  rw [ha] at e; cases e
  rw [add_lit, Nat.zero_add]
  refine canset_blk hb (Nat.ble_eq_true_of_le ?_)
  have h1 := flat_len (xs := xs) fun x _ => hl x
  have h2 := flat_len (xs := ys) fun x _ => hl x
  have h3 : (xs.length + m) * sz ≤ c * sz := Nat.mul_le_mul_right _ hroom
  rw [Nat.add_mul] at h3
  have h4 : (c - xs.length) * sz = c * sz - xs.length * sz := Nat.sub_mul ..
  simp only [List.size_toArray, List.length_append, h1, hr, h2, hm]
  omega
/-- Noughts behind a list of one's own. -/
theorem xappend_zeros {α : Type} {enc : α → List Value} {sz bytes base n m : Nat} {m' : Int} {sT xT ty T : TypeId} {kx k : IntKind} {zs : List Value} {z0 : α} {A : Option Addr} {c : Nat} {xs : List α}
    (hsT : P.underlying sT = some (.slice T)) (hxT : P.underlying xT = some (.int kx)) (hi : (P.info? T).map (fun i => (i.size, i.bytes)) = some (sz, bytes)) (hz : xzero P T = some zs) (hzl : zs.length = sz) (hz0 : enc z0 = zs) (hpos : 0 < bytes) (hs0 : 0 < sz)
    (hl : ∀ x, (enc x).length = sz) (hone : ∀ x, (enc x).all Value.oneCell' = true) (own : OwnA enc sz T base h A c xs) (hn : xs.length = n) (fit : (n + m) * bytes ≤ 140737488355328) (hbase : base ≤ h.size) (hm' : m' = (m : Int))
    (hk : ∀ A' c' h', OwnA enc sz T base h' A' c' (xs ++ List.replicate m z0) → KeepA A h h' → K (.slice A' (n + m) c') h') : XRun P (Builtin.append_ #[sT, xT] ty #[.slice A n c, .int k m']) h K := by
  subst hm'
  refine ⟨fun w hw => ?_⟩
  subst hw
  subst hn
  cases hinf : P.info? T with
  | none => rw [hinf] at hi; cases hi
  | some i =>
    rw [hinf] at hi
    simp only [Option.map_some, Option.some.injEq, Prod.mk.injEq] at hi
    obtain ⟨rfl, rfl⟩ := hi
    obtain ⟨z, hzc, hzr⟩ := xzero_run hz
    obtain ⟨ys, hys⟩ : ∃ ys, List.replicate m z0 = ys := ⟨_, rfl⟩
    have hyl : ys.length = m := by rw [← hys, List.length_replicate]
    have hyf : ys.flatMap enc = (List.replicate m zs).flatten := by rw [← hys, List.flatMap_replicate, hz0]
    have hfl := flat_len (enc := enc) (xs := ys) fun x _ => hl x
    have hone' : (ys.flatMap enc).all Value.oneCell' = true := by
      rw [List.all_eq_true]
      intro v hv
      obtain ⟨y, _, hy⟩ := List.mem_flatMap.1 hv
      exact List.all_eq_true.1 (hone y) v hy
    rw [hys] at hk
    have hm64 : xs.length + m ≤ 140737488355328 := Nat.le_trans (Nat.le_mul_of_pos_right _ hpos) fit
    have hmb : m * i.bytes ≤ (xs.length + m) * i.bytes := Nat.mul_le_mul_right _ (by omega)
    have hw64 : IntKind.i64.wrap (m : Int) = m := by rw [IntKind.wrap_i64]; omega
    have h48 : ¬ ((m : Int) * (i.bytes : Int) > 2 ^ 48) := by
      have : ((m * i.bytes : Nat) : Int) ≤ 140737488355328 := by omega
      push_cast at this
      omega
    have happ : ∀ w : World, (if m * i.size = 0 then (pure #[] : Sem (Array Value)) else do pure (Builtin.zeroCells (← zeroValue T).cells m)).run P w = .ok (ys.flatMap enc).toArray w := by
      intro w
      by_cases h0 : m * i.size = 0
      · have : m = 0 := by rcases Nat.mul_eq_zero.1 h0 with h | h <;> omega
        subst this
        rw [if_pos h0, hyf]; simp
      · rw [if_neg h0]
        simp only [Sem.run_bind, hzr, Result.andThen_ok, Sem.run_pure, hzc, zeroCells_eq, hyf]
    by_cases hroom : xs.length + m ≤ c
    · cases hA : A with
      | none =>
        have hnil : xs = [] ∧ c = 0 := by
          rcases own with ⟨_, a, b⟩ | ⟨b', _, e, _⟩
          · exact ⟨a, b⟩
          · rw [hA] at e; cases e
        obtain ⟨rfl, rfl⟩ := hnil
        have hm0 : m = 0 := by simpa using hroom
        subst hm0
        refine ⟨.slice none 0 0, w, ?_, SameOut.refl w, ?_⟩
        · simp [Builtin.append_, run_underlying hsT, run_underlying hxT, sizeOf_run hinf, asInt, asIntOf, show IntKind.i64.wrap 0 = 0 by decide, typeInfo, hinf]
        · have hk' := hk none 0 w.heap (by
            have : ys = [] := List.length_eq_zero_iff.1 hyl
            subst this
            rw [hA] at own; simpa using own) (Ext.keepA (Ext.refl _) _)
          exact hk'
      | some ad =>
        have hset := own.canapp hl hyl hroom ad hA
        obtain ⟨w', hr, hst, hso⟩ := storeCells_run (P := P) (a := ad.add (xs.length * i.size)) (ys.flatMap enc) 0 w (by simpa using hset.there) (by simpa using hset.free) (List.all_eq_true.1 hone')
        have e0 : (ad.add (xs.length * i.size)).add 0 = ad.add (xs.length * i.size) := by simp [Addr.add]
        rw [e0] at hst
        refine ⟨.slice (some ad) (xs.length + m) c, w', ?_, hso, ?_⟩
        · have := happ w
          simp [Builtin.append_, run_underlying hsT, run_underlying hxT, sizeOf_run hinf, asInt, asIntOf, hw64, typeInfo, hinf, h48, hroom]
          rw [if_neg (by omega), if_neg (by simpa using h48)]
          by_cases h0 : m * i.size = 0
          · rw [if_pos h0] at this ⊢
            simp only [Sem.run_pure, Result.ok.injEq] at this
            have e : ys.flatMap enc = [] := by have := this.1; simpa using this.symm
            rw [e] at hr
            simp only [hr, Result.andThen_ok]
          · rw [if_neg h0] at this ⊢
            simp only [Sem.run_bind, Sem.run_pure] at this
            simp only [this, Result.andThen_ok, hr]
        · refine hA ▸ hk A c w'.heap (own.appended hl hyl hA hroom hst) ?_
          rcases own with ⟨e, _⟩ | ⟨b', _, e, _⟩
          · rw [hA] at e; cases e
          · rw [hA] at e; cases e
            rw [add_lit] at hst
            rw [hA]
            exact hst.keepA
    · have hb0 : i.bytes ≠ 0 := by omega
      have hfit := growslice_fits (need := xs.length + m) (old := c) (bytes := i.bytes) (by omega) fit
      have hcap := grownCap_ge w (xs.length + m) c T
      have hrx : (Builtin.firstCells i.size xs.length (.slice A xs.length c)).run P w.drew = .ok (xs.flatMap enc).toArray w.drew := readsOf_run (by exact own.reads) (fun _ => flat_len fun x _ => hl x)
      refine ⟨.slice (some ⟨w.heap.size, 0, none⟩) (xs.length + m) (grownCap w (xs.length + m) c T), { w.drew with heap := w.heap.push (.cells (xs.flatMap enc ++ ys.flatMap enc ++ (List.replicate (grownCap w (xs.length + m) c T - (xs.length + m)) zs).flatten).toArray T) }, ?_, ⟨rfl, rfl, rfl⟩, ?_⟩
      · have h48' : ¬ (Builtin.nextslicecap (xs.length + m) c * i.bytes > 2 ^ 48) := by omega
        have h63 : ¬ (((xs.length + m : Nat) : Int) > IntKind.i64.max) := by
          have : IntKind.i64.max = 9223372036854775807 := by decide
          omega
        have := happ w.drew
        simp [Builtin.append_, run_underlying hsT, run_underlying hxT, sizeOf_run hinf, asInt, asIntOf, hw64, typeInfo, hinf, h48, hroom]
        rw [if_neg (by omega), if_neg (by simpa using h48), if_neg (by have : IntKind.i64.max = 9223372036854775807 := by decide
                                                                       omega), if_neg (by omega), if_neg (by simp [Question.forced]), hrx]
        simp only [Result.andThen_ok]
        by_cases h0 : m * i.size = 0
        · rw [if_pos h0] at this ⊢
          simp only [Sem.run_pure, Result.ok.injEq] at this
          have e : ys.flatMap enc = [] := by have := this.1; simpa using this.symm
          simp only [hzr, Result.andThen_ok, newRow_run, hzc, zeroCells_eq, e]
          simp [grownCap]
          rfl
        · rw [if_neg h0] at this ⊢
          simp only [Sem.run_bind, Sem.run_pure] at this
          simp only [this, hzr, Result.andThen_ok, newRow_run, hzc, zeroCells_eq]
          simp [grownCap, hyf]
          rfl
      · exact hk _ _ _ (OwnA.grown rfl hyl hzl hcap (new_push _ _) hbase) ((new_push _ _).ext.keepA _)
end
end Go.Proofs.YtjjempefncgfhaaGreatDoorE
