/- The engine of these proofs, part 1: contracts over the heap alone, and a predicate on code that is sound for the kit's 'Code.wp'. Conditions: none; a law of the model for any program. -/
import Derived.OrdersHeld
import Derived.Tactics
import Derived.Scope
import Derived.KernelRfl
import Derived.Deep.LoopGhost
import Derived.Laws.StructEq
import Derived.Laws.AppendOwn
import Derived.Laws.MakeOwn
set_option linter.unusedVariables false
set_option linter.unusedSimpArgs false
namespace Go.Proofs.YtjjempefncgfhaaGreatDoorE
open Go

abbrev Heap := Array Obj
abbrev Tm := Nat → Option Value

/-! ### Heaps -/
def cell (h : Heap) (a : Addr) : Option Value :=
  match h[a.block]? with
  | some (.cells c _ _) => if a.spot.isSome then none else c[a.off]?
  | _ => none
def frozenAt (h : Heap) (a : Addr) : Bool :=
  match h[a.block]? with
  | some (.cells _ _ (lo, hi)) => lo ≤ a.off && a.off < hi
  | _ => false
def Reads (h : Heap) (a : Addr) (vs : List Value) : Prop := ∀ j v, vs[j]? = some v → cell h (a.add j) = some v
def wr : Array Value → Nat → List Value → Array Value
  | c, _, [] => c
  | c, o, v :: vs => wr (c.setIfInBounds o v) (o + 1) vs
structure Stored (h : Heap) (a : Addr) (vs : List Value) (h' : Heap) : Prop where
  size : h'.size = h.size
  other : ∀ k, k ≠ a.block → h'[k]? = h[k]?
  this : ∀ c e f, h[a.block]? = some (.cells c e f) → h'[a.block]? = some (.cells (wr c a.off vs) e f)
structure New (h h' : Heap) (b : Nat) (o : Obj) : Prop where
  at_ : b = h.size
  size : h'.size = h.size + 1
  old : ∀ k, k < h.size → h'[k]? = h[k]?
  this : h'[b]? = some o
/-- What was there is as it was. -/
structure Ext (h h' : Heap) : Prop where
  size : h.size ≤ h'.size
  old : ∀ k, k < h.size → h'[k]? = h[k]?
structure CanSet (h : Heap) (a : Addr) (n : Nat) : Prop where
  there : ∀ j, j < n → ∃ v, cell h (a.add j) = some v
  free : ∀ j, j < n → frozenAt h (a.add j) = false

structure SameOut (W w : World) : Prop where
  os : w.os = W.os
  tape : w.tape = W.tape
  output : w.output = W.output
theorem SameOut.refl (w : World) : SameOut w w := ⟨rfl, rfl, rfl⟩
theorem SameOut.trans {a b c : World} (h : SameOut a b) (k : SameOut b c) : SameOut a c := ⟨k.os.trans h.os, k.tape.trans h.tape, k.output.trans h.output⟩

def funOk (P : Program) (f : FuncId) : Bool :=
  match P.funcs[f]? with
  | some fn => fn.body.isSome && !(fn.name == "runtime.NumGoroutine")
  | none => false

/-- Called in whatever world over this heap the function returns a value that, with the heap behind it, meets R (one of Go's own without a body answers at once). -/
structure HCalls (P : Program) (f : FuncId) (args : Array Value) (h : Heap) (R : Value → Heap → Prop) : Prop where
  holds : (funOk P f = true ∧ ∀ w : World, w.heap = h → Calls P f args w (fun e w' => ∃ v, e = .returned v ∧ R v w'.heap ∧ SameOut w w')) ∨
    ∀ w : World, w.heap = h → ∃ v w', (callFunc f args).run P w = .ok (.value v) w' ∧ SameOut w w' ∧ R v w'.heap
theorem HCalls.mono {P : Program} {f : FuncId} {args : Array Value} {h : Heap} {R R' : Value → Heap → Prop} (H : HCalls P f args h R) (hr : ∀ v h', R v h' → R' v h') : HCalls P f args h R' := by
  rcases H.holds with ⟨h1, h2⟩ | h3
  · exact ⟨.inl ⟨h1, fun w hw => (h2 w hw).mono fun _ _ ⟨v, he, hv, hs⟩ => ⟨v, he, hr _ _ hv, hs⟩⟩⟩
  · exact ⟨.inr fun w hw => let ⟨v, w', e, so, k⟩ := h3 w hw; ⟨v, w', e, so, hr _ _ k⟩⟩

/-! ### Temporaries -/
def ev (t : Tm) : Operand → Option Value
  | .tmp i => t i
  | .const v => some v
  | .global g => some (.pointer (some ⟨g, 0, none⟩))
  | .func f => some (.func (.func f) #[] #[])
def xev (t : Tm) (x : Operand) (K : Value → Prop) : Prop := match ev t x with | some v => K v | none => False
def xevs (t : Tm) : List Operand → (List Value → Prop) → Prop
  | [], K => K []
  | x :: xs, K => xev t x fun v => xevs t xs fun vs => K (v :: vs)
def upd (t : Tm) (d : Nat) (v : Option Value) : Tm := fun i => bif Nat.beq i d then v else t i
def tput (t : Tm) (d : Option Nat) (v : Option Value) : Tm := match d with | some d => upd t d v | none => t
abbrev xif (b : Bool) (X Y : Prop) : Prop := Bool.rec (motive := fun _ => Prop) Y X b
theorem xif_of {b : Bool} {X Y : Prop} (h1 : b = true → X) (h2 : b = false → Y) : Bool.rec (motive := fun _ => Prop) Y X b := by cases b; exact h2 rfl; exact h1 rfl
theorem xif_true {b : Bool} {X Y : Prop} (hb : b = true) (h : X) : Bool.rec (motive := fun _ => Prop) Y X b := by subst hb; exact h
theorem xif_false {b : Bool} {X Y : Prop} (hb : b = false) (h : Y) : Bool.rec (motive := fun _ => Prop) Y X b := by subst hb; exact h

structure Agree (N : Nat) (t : Tm) (a : Act) : Prop where
  size : a.tmps.size = N
  defers : a.defers = []
  val : ∀ i v, t i = some v → a.tmps[i]? = some v

theorem Agree.eval {N : Nat} {t : Tm} {a : Act} (h : Agree N t a) {x : Operand} {v : Value} (hx : ev t x = some v) : a.eval x = v := by
  cases x with
  | tmp i => have := h.val i v hx; simp [Act.eval, this]
  | const u => simpa [ev, Act.eval] using hx
  | global g => simpa [ev, Act.eval] using hx
  | func f => simpa [ev, Act.eval] using hx
theorem xev_elim {t : Tm} {x : Operand} {K : Value → Prop} (h : xev t x K) : ∃ v, ev t x = some v ∧ K v := by
  unfold xev at h; split at h
  · exact ⟨_, by assumption, h⟩
  · exact h.elim
theorem Agree.xev {N : Nat} {t : Tm} {a : Act} (h : Agree N t a) {x : Operand} {K : Value → Prop} (hx : xev t x K) : K (a.eval x) := by
  obtain ⟨v, e, hk⟩ := xev_elim hx
  rw [h.eval e]; exact hk
theorem Agree.xevs {N : Nat} {t : Tm} {a : Act} (h : Agree N t a) : ∀ {xs : List Operand} {K : List Value → Prop}, xevs t xs K → K (xs.map a.eval)
  | [], _, hx => hx
  | x :: xs, K, hx => by
    have h1 := Agree.xev h (K := fun v => YtjjempefncgfhaaGreatDoorE.xevs t xs fun vs => K (v :: vs)) hx
    exact Agree.xevs h (K := fun vs => K (a.eval x :: vs)) h1
theorem Agree.put {N : Nat} {t : Tm} {a : Act} (h : Agree N t a) {d : Option Nat} (hd : ∀ i, d = some i → i < N) (v : Value) : Agree N (tput t d (some v)) (a.put d v) := by
  cases d with
  | none => exact h
  | some d =>
    have hdN := hd d rfl
    refine ⟨by simpa [Act.put] using h.size, h.defers, fun i u hu => ?_⟩
    simp only [tput, upd] at hu
    by_cases e : i = d
    · subst e
      simp at hu; subst hu
      simp [Act.put, h.size, hdN]
    · have : Nat.beq i d = false := by
        cases hb : Nat.beq i d
        · rfl
        · exact absurd (Nat.eq_of_beq_eq_true hb) e
      rw [this] at hu; simp at hu
      simp only [Act.put]
      rw [Array.getElem?_setIfInBounds_ne (Ne.symm e)]
      exact h.val i u hu
theorem Agree.forget {N : Nat} {t t' : Tm} {a : Act} (h : Agree N t a) (hs : ∀ i v, t' i = some v → t i = some v) : Agree N t' a := ⟨h.size, h.defers, fun i v e => h.val i v (hs i v e)⟩
theorem Agree.undef {N : Nat} {t : Tm} {a : Act} (h : Agree N t a) {d : Option Nat} (hd : ∀ i, d = some i → i < N) : Agree N (tput t d none) (a.put d Go.undef) :=
  (h.put hd Go.undef).forget fun i v e => by
    cases d with
    | none => exact e
    | some d =>
      simp only [tput, upd] at e ⊢
      cases hb : Nat.beq i d <;> rw [hb] at e
      · exact e
      · cases e

/-! ### Operations that touch no memory -/
def xbinI (op : BinOp) (k : IntKind) (x y : Int) (K : Value → Prop) : Prop :=
  match op with
  | .add => K (.int k (k.wrap (x + y)))
  | .sub => K (.int k (k.wrap (x - y)))
  | .mul => K (.int k (k.wrap (x * y)))
  | .quo => y ≠ 0 ∧ K (.int k (k.wrap (x.tdiv y)))
  | .rem => y ≠ 0 ∧ K (.int k (x.tmod y))
  | .and => K (.int k (k.wrap (BitVec.ofInt k.bits x &&& BitVec.ofInt k.bits y).toNat))
  | .or => K (.int k (k.wrap (BitVec.ofInt k.bits x ||| BitVec.ofInt k.bits y).toNat))
  | .xor => K (.int k (k.wrap (BitVec.ofInt k.bits x ^^^ BitVec.ofInt k.bits y).toNat))
  | .andNot => K (.int k (k.wrap (BitVec.ofInt k.bits x &&& ~~~ (BitVec.ofInt k.bits y)).toNat))
  | .eql => K (.bool (x == y))
  | .neq => K (.bool (x != y))
  | .lss => K (.bool (decide (x < y)))
  | .leq => K (.bool (decide (x ≤ y)))
  | .gtr => K (.bool (decide (x > y)))
  | .geq => K (.bool (decide (x ≥ y)))
  | .shl => False
  | .shr => False

def partv (P : Program) (T : TypeId) (cs : List Value) (off : Nat) : Option Value :=
  match P.underlying T with
  | none => none
  | some (.struct _) | some (.array _ _) => match P.info? T with
    | some i => some (.agg ((cs.drop off).take i.size).toArray)
    | none => none
  | some _ => cs[off]?

/-- What is compared with a nil; plain values. -/
def nilEq (x y : Value) : Option Bool :=
  match y with
  | .slice none _ _ => match x with | .slice a _ _ => some a.isNone | _ => none
  | .pointer none => match x with | .pointer a => some a.isNone | _ => none
  | .pointer (some _) => match x with | .pointer none => some false | _ => none
  | .map none => match x with | .map a => some a.isNone | _ => none
  | .nilFunc => match x with | .nilFunc => some true | .func .. => some false | _ => none
  | .nilIface => match x with | .iface .. => some false | _ => none
  | _ => none
def fits (d : TypeDesc) (x : Value) : Bool :=
  match d, x with
  | .slice _, .slice .. | .pointer _, .pointer _ | .map _ _, .map _ | .func _ _ _, .nilFunc | .func _ _ _, .func .. | .interface _, .nilIface | .interface _, .iface .. => true
  | _, _ => false
mutual
def eqv (P : Program) : Nat → TypeId → Value → Value → Option Bool
  | 0, _, _, _ => none
  | d + 1, T, x, y =>
    match P.underlying T, x, y with
    | some .bool, .bool a, .bool b => some (a == b)
    | some (.int _), .int k a, .int k' b => if k = k' then some (a == b) else none
    | some .string, .string a, .string b => some (a == b)
    | some (.struct fields), .agg xs, .agg ys => if P.stoodInHeld T then none else eqFields P d fields.toList xs.toList ys.toList
    | some u, x, y => if fits u x && fits u y then nilEq x y else none
    | none, _, _ => none
def eqFields (P : Program) : Nat → List Field → List Value → List Value → Option Bool
  | 0, _, _, _ => none
  | _ + 1, [], _, _ => some true
  | d + 1, f :: fs, xs, ys =>
    if f.name = "_" then eqFields P d fs xs ys else
    match partv P f.type xs f.offset, partv P f.type ys f.offset with
    | some a, some b => match eqv P d f.type a b, eqFields P d fs xs ys with
      | some p, some q => some (p && q)
      | _, _ => none
    | _, _ => none
end

theorem run_partv {P : Program} {T : TypeId} {cs : List Value} {off : Nat} {v : Value} (h : partv P T cs off = some v) (w : World) : (part T cs.toArray off).run P w = .ok v w := by
  unfold partv at h
  split at h
  · cases h
  · rename_i fs hu
    split at h
    · rename_i i hi
      cases h
      simp [part, isAgg, run_underlying hu, sizeOf, typeInfo, hi]
    · cases h
  · rename_i n e hu
    split at h
    · rename_i i hi
      cases h
      simp [part, isAgg, run_underlying hu, sizeOf, typeInfo, hi]
    · cases h
  · rename_i u hna hns hu
    have : (isAgg T).run P w = .ok false w := by
      simp only [isAgg, Sem.run_bind, run_underlying hu, Result.andThen_ok]
      simp
    simp [part, this, h]

theorem nilEq_sound {P : Program} {d : Nat} {T : TypeId} {u : TypeDesc} {x y : Value} {r : Bool} (hu : P.underlying T = some u) (hf : (fits u x && fits u y) = true) (h : nilEq x y = some r) (w : World) :
    (Op.equalIn (d + 1) T x y).run P w = .ok r w := by
  simp only [Bool.and_eq_true] at hf
  obtain ⟨h1, h2⟩ := hf
  unfold nilEq at h
  cases y with
  | slice a n c =>
    cases a with
    | some a => cases h
    | none =>
      cases x with
      | slice b m d =>
        cases u <;> simp [fits] at h1
        cases h
        cases b <;> simp [Op.equalIn, run_underlying hu]
      | _ => simp at h
  | pointer a =>
    cases a with
    | some a =>
      cases x with
      | pointer b =>
        cases b with
        | some b => simp at h
        | none =>
          cases u <;> simp [fits] at h1
          simp at h
          subst h
          simp [Op.equalIn, run_underlying hu]
      | _ => simp at h
    | none =>
      cases x with
      | pointer b =>
        cases u <;> simp [fits] at h1
        cases h
        cases b <;> simp [Op.equalIn, run_underlying hu]
      | _ => simp at h
  | map a =>
    cases a with
    | some a => cases h
    | none =>
      cases x with
      | map b =>
        cases u <;> simp [fits] at h1
        cases h
        cases b <;> simp [Op.equalIn, run_underlying hu]
      | _ => simp at h
  | nilFunc =>
    cases x with
    | nilFunc => cases u <;> simp [fits] at h1; cases h; simp [Op.equalIn, run_underlying hu]
    | func => cases u <;> simp [fits] at h1; cases h; simp [Op.equalIn, run_underlying hu]
    | _ => simp at h
  | nilIface =>
    cases x with
    | iface => cases u <;> simp [fits] at h1; cases h; simp [Op.equalIn, run_underlying hu]
    | _ => simp at h
  | _ => simp at h

theorem eqv_sound (P : Program) : ∀ (d : Nat), (∀ n T x y r w, d ≤ n → eqv P d T x y = some r → (Op.equalIn n T x y).run P w = .ok r w) ∧
    (∀ n fs xs ys r w, d ≤ n → eqFields P d fs xs ys = some r → (Op.eqFields n xs.toArray ys.toArray fs).run P w = .ok r w) := by
  intro d
  induction d with
  | zero => exact ⟨fun _ _ _ _ _ _ _ h => by simp [eqv] at h, fun _ _ _ _ _ _ _ h => by simp [eqFields] at h⟩
  | succ d ih =>
    constructor
    · intro n T x y r w hn h
      obtain ⟨m, rfl⟩ : ∃ m, n = m + 1 := ⟨n - 1, by omega⟩
      unfold eqv at h
      split at h
      · rename_i a b hu; cases h; simp [Op.equalIn, run_underlying hu]
      · rename_i k' k a k2 b hu
        split at h
        · rename_i e; cases h; simp [Op.equalIn, run_underlying hu, e]
        · cases h
      · rename_i a b hu; cases h
        rw [beq_toListBytes]
        exact run_equalIn_string w m T a b hu
      · rename_i fs xs ys hu
        split at h
        · cases h
        · rename_i hp
          have hf : P.fieldsOf T = fs := by simp [Program.fieldsOf, hu]
          rw [run_equalIn_struct (P := P) w m T xs ys (by rw [hf]; exact hu) (by simpa using hp), hf]
          have := ih.2 m fs.toList xs.toList ys.toList r w (by omega) h
          simpa using this
      · rename_i u x y hu
        split at h
        · rename_i hf; exact nilEq_sound (by assumption) hf h w
        · cases h
      · cases h
    · intro n fs xs ys r w hn h
      cases fs with
      | nil => simp only [eqFields] at h; cases h; simp [Op.eqFields]
      | cons f fs =>
        simp only [eqFields] at h
        split at h
        · rename_i hn'
          rw [Op.eqFields, if_neg (by simpa using hn')]
          exact ih.2 n fs xs ys r w (by omega) h
        · rename_i hn'
          split at h
          · rename_i a b ha hb
            split at h
            · rename_i p q hp hq
              cases h
              have h1 := ih.1 n f.type a b p w (by omega) hp
              have h2 := ih.2 n fs xs ys q w (by omega) hq
              rw [Op.eqFields, if_pos hn']
              simp only [Sem.run_bind, run_partv ha, run_partv hb, h1, Result.andThen_ok]
              cases p
              · simp
              · simpa using h2
            · cases h
          · cases h

/-! ### Pure operations -/
def xfieldOff (P : Program) (S : TypeId) (f : Nat) : Option Nat :=
  match P.underlying S with
  | some (.struct fs) => match fs.toList[f]? with
    | some f => match P.info? f.type with
      | some i => if i.size = 0 then none else some f.offset
      | none => none
    | none => none
  | _ => none
def xfieldVal (P : Program) (S : TypeId) (f : Nat) (cs : List Value) : Option Value :=
  match P.underlying S with
  | some (.struct fs) => match fs.toList[f]? with
    | some f => partv P f.type cs f.offset
    | none => none
  | _ => none
def lset (cs : List Value) (off : Nat) : List Value → List Value
  | [] => cs
  | v :: vs => lset (cs.set off v) (off + 1) vs
def xfill (place : Nat → Option (Nat × Nat)) (cs : List Value) : List (Nat × Value) → Option (List Value)
  | [] => some cs
  | (i, v) :: rest =>
    match place i with
    | none => none
    | some (off, size) => if v.cells.size ≠ size || off + v.cells.size > cs.length then none else xfill place (lset cs off v.cells.toList) rest
def xplaces (P : Program) : List Field → Option (List (Nat × Nat))
  | [] => some []
  | f :: fs => match P.info? f.type, xplaces P fs with
    | some i, some l => some ((f.offset, i.size) :: l)
    | _, _ => none
def xzero (P : Program) (T : TypeId) : Option (List Value) :=
  match P.info? T with
  | some i => match i.zero with
    | some v => match v with
      | .agg ⟨l⟩ => some l
      | v => some [v]
    | none => none
  | none => none
/-- The list, its spine written out. -/
def forceL {α : Type} (l : List α) : (List α → Prop) → Prop := List.rec (motive := fun _ => (List α → Prop) → Prop) (fun K => K []) (fun x _ go K => go fun ys => K (x :: ys)) l
theorem forceL_elim {α : Type} : ∀ {l : List α} {K : List α → Prop}, forceL l K → K l
  | [], _, h => h
  | x :: xs, K, h => forceL_elim (l := xs) (K := fun ys => K (x :: ys)) h
def withCells (v : Value) (K : List Value → Prop) : Prop := match v with
  | .agg ⟨l⟩ => K l
  | v => K [v]
theorem withCells_elim {v : Value} {K : List Value → Prop} (h : withCells v K) : K v.cells.toList := by
  unfold withCells at h
  split at h
  · exact h
  · rename_i hn
    have : v.cells = #[v] := by
      cases v <;> first | rfl | (rename_i cs; exact absurd rfl (hn cs.toList))
    rw [this]; exact h
/-- Parts laid one behind the other, in the fields' order. -/
def xcat : List (Nat × Nat) → Nat → Nat → List Value → List (Nat × Value) → Option (List Value)
  | [], _, _, zs, parts => match parts with
    | [] => some zs
    | _ => none
  | (off, size) :: ps, k, pos, zs, parts =>
    bif !(Nat.beq off pos && Nat.ble size zs.length) then none else
    match parts with
    | [] => some zs
    | (i, v) :: rest =>
      bif Nat.beq i k then (bif Nat.beq v.cells.size size then (xcat ps (k + 1) (pos + size) (zs.drop size) rest).map (v.cells.toList ++ ·) else none)
      else (xcat ps (k + 1) (pos + size) (zs.drop size) ((i, v) :: rest)).map (zs.take size ++ ·)
/-- The places of a slice's elements. -/
def splaces (size : Nat) : Nat → Nat → List (Nat × Nat)
  | 0, _ => []
  | n + 1, k => (k * size, size) :: splaces size n (k + 1)
/-- A slice's elements, laid one behind the other. -/
def xfillS (n size : Nat) (zs : List Value) (parts : List (Nat × Value)) : Option (List Value) :=
  match xcat (splaces size n 0) 0 0 zs parts with
  | some cs => some cs
  | none => xfill (fun k => some (k * size, size)) zs parts
def xbuild (P : Program) (T : TypeId) (parts : List (Nat × Value)) : Option (List Value) :=
  match xzero P T, P.underlying T with
  | some zs, some (.struct fs) => match xplaces P fs.toList with
    | some l => match xcat l 0 0 zs parts with
      | some cs => some cs
      | none => xfill (l[·]?) zs parts
    | none => none
  | some zs, some (.array _ e) => match P.info? e with
    | some i => xfill (fun k => some (k * i.size, i.size)) zs parts
    | none => none
  | _, _ => none

def guardBad (P : Program) (T : TypeId) (a : Value) : Bool := match a with | .agg _ => P.eqGuardType P.depth T | _ => false
/-- '==' of two structs: the cells' comparisons together. -/
structure XEqAgg (P : Program) (T : TypeId) (a b : Value) (K : Bool → Prop) : Prop where
  holds : ∃ r, guardBad P T a = false ∧ eqv P 60 T a b = some r ∧ K r
theorem xeq_of {P : Program} {T : TypeId} {a b : Value} {K : Bool → Prop} {r : Bool} (hg : guardBad P T a = false) (he : eqv P 60 T a b = some r) (hk : K r) : XEqAgg P T a b K := ⟨r, hg, he, hk⟩
def eqFlat (P : Program) (T : TypeId) (x y : Value) : Option Bool :=
  match x with
  | .bool a => match y with
    | .bool b => match P.underlying T with | some .bool => some (a == b) | _ => none
    | _ => none
  | .agg _ => none
  | .int .. => none
  | .string _ => none
  | x => match P.underlying T with
    | some (.struct _) => none
    | some u => match (fits u x && fits u y) with | true => nilEq x y | false => none
    | none => none
def xeq (P : Program) (T : TypeId) (a b : Value) (K : Bool → Prop) : Prop :=
  match a with
  | .agg xs => XEqAgg P T (.agg xs) b K
  | a => match eqFlat P T a b with
    | some r => K r
    | none => False
def xeqOp (P : Program) (op : BinOp) (T : TypeId) (a b : Value) (K : Value → Prop) : Prop :=
  match op with
  | .eql => xeq P T a b fun r => K (.bool r)
  | .neq => xeq P T a b fun r => K (.bool (!r))
  | _ => False
def xbin (P : Program) (op : BinOp) (T : TypeId) (a b : Value) (K : Value → Prop) : Prop :=
  match a with
  | .int k x => match b with
    | .int k' y => match op with
      | .shl => 0 ≤ y ∧ K (.int k (k.wrap (x * 2 ^ (min y.toNat k.bits))))
      | .shr => 0 ≤ y ∧ K (.int k (x.fdiv (2 ^ (min y.toNat k.bits))))
      | op => if k = k' then xbinI op k x y K else False
    | _ => False
  | .string x => match b with
    | .string y => match op with
      | .eql => K (.bool (x.toList == y.toList))
      | .neq => K (.bool (!(x.toList == y.toList)))
      | .add => ((x.size + y.size : Nat) : Int) ≤ IntKind.i64.max ∧ K (.string (x ++ y))
      | _ => False
    | _ => False
  | .float k x => match b with
    | .float k' y => match op with
      | .eql => k = k' ∧ K (.bool (k.format.order x y == some .eq))
      | .neq => k = k' ∧ K (.bool (k.format.order x y != some .eq))
      | .lss => k = k' ∧ K (.bool (k.format.order x y == some .lt))
      | .gtr => k = k' ∧ K (.bool (k.format.order x y == some .gt))
      | _ => False
    | _ => False
  | .complex .. => False
  | .nilIface => False
  | a => xeqOp P op T a b K

def xbound (t : Tm) (o : Option Operand) (dflt : Int) (K : Int → Prop) : Prop :=
  match o with
  | none => K dflt
  | some x => xev t x fun v => match v with | .int _ i => K i | _ => False

def xpure (P : Program) (t : Tm) (o : Oper) (K : Value → Prop) : Prop :=
  match o.op with
  | .move x | .assign x => xev t x K
  | .pick c a b => xev t c fun v => match v with
    | .bool q => xif q (xev t a K) (xev t b K)
    | _ => False
  | .nilCheck x => xev t x fun v => match v with
    | .pointer p => match p with
      | some a => K (.pointer (some a))
      | none => False
    | .func (.func f) first cap => K (.func (.func f) first cap)
    | .iface u v => K (.iface u v)
    | _ => False
  | .binOp op T x y _ => xev t x fun a => xev t y fun b => xbin P op T a b K
  | .unOp op _ x => xev t x fun v => match op, v with
    | .not, .bool b => K (.bool (!b))
    | .neg, .int k n => K (.int k (k.wrap (0 - n)))
    | .neg, .float k n => K (.float k (Op.negFloat k n))
    | .xor, .int k n => xbinI .xor k (if k.signed then -1 else k.max) n K
    | _, _ => False
  | .convert src dst x => xev t x fun v => match v with
    | .int k n => match P.underlying src, P.underlying dst with
      | some _, some (.int k) => K (.int k (k.wrap n))
      | some _, some (.float k) => K (.float k (k.nearest n))
      | _, _ => False
    | .string s => match P.underlying src, P.underlying dst with
      | some _, some .string => K (.string s)
      | _, _ => False
    | _ => False
  | .fieldAddr S x f => xev t x fun v => match v with
    | .pointer (some a) => match xfieldOff P S f with
      | some n => K (.pointer (some (a.add n)))
      | none => False
    | _ => False
  | .field S x f => xev t x fun v => match v with
    | .agg cs => match xfieldVal P S f cs.toList with
      | some v => K v
      | none => False
    | _ => False
  | .indexAddr T x ix => xev t x fun v => xev t ix fun i => match i with
    | .int _ i => match P.underlying T with
      | some (.slice e) => match P.info? e with
        | some inf => match v with
          | .slice A n _ => ∃ a, A = some a ∧ 0 ≤ i ∧ i < n ∧ K (.pointer (some (a.add (i.toNat * inf.size))))
          | _ => False
        | none => False
      | some (.array n e) => match P.info? e with
        | some inf => match v with
          | .pointer (some a) => 0 ≤ i ∧ i < n ∧ K (.pointer (some (a.add (i.toNat * inf.size))))
          | _ => False
        | none => False
      | _ => False
    | _ => False
  | .index T x ix => xev t x fun v => xev t ix fun i => match i with
    | .int _ i => match v with
      | .string s => P.underlying T = some .string ∧ 0 ≤ i ∧ ∃ b, s[i.toNat]? = some b ∧ K (.int .u8 b.toNat)
      | .agg cs => match P.underlying T with
        | some (.array n e) => match P.info? e with
          | some inf => 0 ≤ i ∧ i < n ∧ ∃ v, partv P e cs.toList (i.toNat * inf.size) = some v ∧ K v
          | none => False
        | _ => False
      | _ => False
    | _ => False
  | .extract x i => xev t x fun v => match v with
    | .tuple vs => match vs.toList[i]? with
      | some v => K v
      | none => False
    | _ => False
  | .slice T x lo hi mx => xev t x fun v => match v with
    | .string s => match P.underlying T, mx with
      | some .string, none => xbound t lo 0 fun l => xbound t hi s.size fun h => 0 ≤ l ∧ l ≤ h ∧ h ≤ s.size ∧ K (.string (s.extract l.toNat h.toNat))
      | _, _ => False
    | .slice A n c => match P.underlying T with
      | some (.slice e) => match P.info? e with
        | some inf => xbound t lo 0 fun l => xbound t hi n fun h => xbound t mx c fun m => (mx.isSome = true → hi.isSome = true) ∧ 0 ≤ l ∧ l ≤ h ∧ h ≤ m ∧ m ≤ c ∧
            K (.slice (if m.toNat = l.toNat then A else A.map (·.add (l.toNat * inf.size))) (h.toNat - l.toNat) (m.toNat - l.toNat))
        | none => False
      | _ => False
    | _ => False
  | .build T parts => xevs t (parts.toList.map (·.2)) fun vs => match xbuild P T ((parts.toList.map (·.1)).zip vs) with
    | some cs => forceL cs fun cs => K (.agg cs.toArray)
    | none => False
  | .makeFunc fn first cap => xevs t first.toList fun fs => xevs t cap.toList fun cs => K (.func fn fs.toArray cs.toArray)
  | .makeInterface T x => xev t x fun v => match P.underlying T with
    | some (.interface _) => False
    | some _ => K (.iface T v)
    | none => False
  | .call c => match c.callee with
    | .builtin .len => xevs t c.args.toList fun vs => match vs with
      | [v] => match v with
        | .slice _ n _ => match c.argTypes.toList with
          | [T] => match P.underlying T with
            | some (.slice _) => K (.int .i64 n)
            | _ => False
          | _ => False
        | .string s => match c.argTypes.toList with
          | [T] => match P.underlying T with
            | some .string => K (.int .i64 s.size)
            | _ => False
          | _ => False
        | _ => False
      | _ => False
    | .builtin .min => xevs t c.args.toList fun vs => match vs with
      | [.int k x, .int _ y] => K (.int k (if y < x then y else x))
      | _ => False
    | .builtin .max => xevs t c.args.toList fun vs => match vs with
      | [.int k x, .int _ y] => K (.int k (if x < y then y else x))
      | _ => False
    | _ => False
  | _ => False

theorem lset_eq : ∀ (vs : List Value) (cs : List Value) (off : Nat), (vs.zipIdx 0).foldl (fun cs (p : Value × Nat) => cs.setIfInBounds (off + p.2) p.1) cs.toArray = (lset cs off vs).toArray := by
  have gen : ∀ (vs : List Value) (k : Nat) (cs : List Value) (off : Nat), (vs.zipIdx k).foldl (fun cs (p : Value × Nat) => cs.setIfInBounds (off + p.2) p.1) cs.toArray = (lset cs (off + k) vs).toArray := by
    intro vs
    induction vs with
    | nil => intro k cs off; simp [lset]
    | cons v vs ih =>
      intro k cs off
      simp only [List.zipIdx_cons, List.foldl_cons, lset]
      rw [List.setIfInBounds_toArray, ih (k + 1)]
      rfl
  intro vs cs off
  exact gen vs 0 cs off

theorem xfill_eq {place : Nat → Option (Nat × Nat)} : ∀ (parts : List (Nat × Value)) (cs out : List Value), xfill place cs parts = some out → Instr.fill place cs.toArray parts = some out.toArray := by
  intro parts
  induction parts with
  | nil => intro cs out h; cases h; rfl
  | cons p rest ih =>
    obtain ⟨i, v⟩ := p
    intro cs out h
    simp only [xfill] at h
    simp only [Instr.fill]
    split at h
    · cases h
    · rename_i off size hp
      rw [hp]
      simp only [List.size_toArray]
      split at h
      · cases h
      · rename_i hc
        rw [if_neg hc]
        have := ih _ _ h
        rw [← lset_eq] at this
        rw [← this]
        congr 1
        rw [← Array.foldl_toList]
        simp

theorem sizeOf_run {P : Program} {T : TypeId} {i : TypeInfo} (h : P.info? T = some i) (w : World) : (sizeOf T).run P w = .ok i.size w := by
  simp [sizeOf, typeInfo, h]

theorem run_xplaces {P : Program} : ∀ (fs : List Field) (l : List (Nat × Nat)), xplaces P fs = some l → ∀ w, (fs.mapM (m := Sem) fun f => do pure (f.offset, ← sizeOf f.type)).run P w = .ok l w := by
  intro fs
  induction fs with
  | nil => intro l h w; cases h; simp
  | cons f fs ih =>
    intro l h w
    simp only [xplaces] at h
    split at h
    · rename_i i l' hi hl
      cases h
      simp only [List.mapM_cons, Sem.run_bind, sizeOf_run hi, Result.andThen_ok, Sem.run_pure, ih l' hl w]
    · cases h

theorem xzero_run {P : Program} {T : TypeId} {zs : List Value} (h : xzero P T = some zs) : ∃ z, z.cells = zs.toArray ∧ ∀ w, (zeroValue T).run P w = .ok z w := by
  unfold xzero at h
  split at h
  · rename_i i hi
    split at h
    · rename_i z hz
      split at h
      · cases h
        exact ⟨.agg ⟨zs⟩, rfl, fun w => by simp [zeroValue, typeInfo, hi, hz]⟩
      · rename_i hn
        cases h
        refine ⟨z, ?_, fun w => by simp [zeroValue, typeInfo, hi, hz]⟩
        cases z <;> first | rfl | (rename_i cs; exact absurd rfl (hn cs.toList))
    · cases h
  · cases h

theorem lset_right : ∀ (vs a b : List Value) (o : Nat), lset (a ++ b) (a.length + o) vs = a ++ lset b o vs
  | [], _, _, _ => rfl
  | v :: vs, a, b, o => by
    simp only [lset]
    rw [List.set_append_right _ _ (by omega), Nat.add_sub_cancel_left, Nat.add_assoc, lset_right vs a (b.set o v) (o + 1)]
theorem lset_all : ∀ (ys rest : List Value), ys.length ≤ rest.length → lset rest 0 ys = ys ++ rest.drop ys.length := by
  intro ys
  have gen : ∀ (ys a rest : List Value), ys.length ≤ rest.length → lset (a ++ rest) a.length ys = a ++ (ys ++ rest.drop ys.length) := by
    intro ys
    induction ys with
    | nil => intro a rest _; simp [lset]
    | cons y ys ih =>
      intro a rest hle
      cases rest with
      | nil => simp at hle
      | cons r rest =>
        simp only [lset]
        rw [List.set_append_right _ _ (Nat.le_refl _), Nat.sub_self, List.set_cons_zero]
        have := ih (a ++ [y]) rest (by simpa using hle)
        simp only [List.length_append, List.length_cons, List.length_nil, Nat.zero_add] at this
        rw [List.append_cons, this]
        simp
  intro rest h
  exact gen ys [] rest h
theorem xcat_fill {l : List (Nat × Nat)} : ∀ (ps done : List (Nat × Nat)) (k pos : Nat) (pre zs : List Value) (parts : List (Nat × Value)) (out : List Value), l = done ++ ps → done.length = k → pre.length = pos → xcat ps k pos zs parts = some out → xfill (l[·]?) (pre ++ zs) parts = some (pre ++ out) := by
  intro ps
  induction ps with
  | nil =>
    intro done k pos pre zs parts out _ _ _ h
    cases parts with
    | nil => simp only [xcat] at h; cases h; rfl
    | cons p ps => simp only [xcat] at h; cases h
  | cons q ps ih =>
    obtain ⟨off, size⟩ := q
    intro done k pos pre zs parts out hl hk hp h
    unfold xcat at h
    cases hc : (Nat.beq off pos && Nat.ble size zs.length) with
    | false => rw [hc] at h; cases h
    | true =>
      rw [hc] at h
      simp only [Bool.not_true, cond_false] at h
      rw [Bool.and_eq_true] at hc
      have h1 := Nat.eq_of_beq_eq_true hc.1
      have h2 := Nat.le_of_ble_eq_true hc.2
      cases parts with
      | nil => simp only at h; cases h; rfl
      | cons p rest =>
        obtain ⟨i, v⟩ := p
        simp only at h
        have hl' : l = (done ++ [(off, size)]) ++ ps := by rw [hl]; simp
        have hk' : (done ++ [(off, size)]).length = k + 1 := by simp [hk]
        cases hi : Nat.beq i k with
        | true =>
          rw [hi] at h
          have hik := Nat.eq_of_beq_eq_true hi
          cases hs : Nat.beq v.cells.size size with
          | false => rw [hs] at h; cases h
          | true =>
            rw [hs] at h
            have hsz := Nat.eq_of_beq_eq_true hs
            simp only [cond_true] at h
            cases hx : xcat ps (k + 1) (pos + size) (zs.drop size) rest with
            | none => rw [hx] at h; cases h
            | some o =>
              rw [hx] at h
              simp only [Option.map_some, Option.some.injEq] at h
              subst h
              have hpl : l[i]? = some (off, size) := by rw [hl, hik, ← hk, List.getElem?_append_right (Nat.le_refl _), Nat.sub_self]; rfl
              simp only [xfill, hpl]
              have hlen : v.cells.toList.length = size := by rw [Array.length_toList]; exact hsz
              rw [if_neg (by simp [hsz]; omega)]
              have e1 : lset (pre ++ zs) off v.cells.toList = (pre ++ v.cells.toList) ++ zs.drop size := by
                rw [h1, ← hp, show pre.length = pre.length + 0 by omega, lset_right, lset_all _ _ (by omega), hlen, List.append_assoc]
              rw [e1, ih _ _ (pos + size) _ _ _ _ hl' hk' (by rw [List.length_append, hlen, hp]) hx, List.append_assoc]
        | false =>
          rw [hi] at h
          simp only [cond_false] at h
          cases hx : xcat ps (k + 1) (pos + size) (zs.drop size) ((i, v) :: rest) with
          | none => rw [hx] at h; cases h
          | some o =>
            rw [hx] at h
            simp only [Option.map_some, Option.some.injEq] at h
            subst h
            have := ih _ _ (pos + size) (pre ++ zs.take size) _ _ _ hl' hk' (by rw [List.length_append, List.length_take, hp]; omega) hx
            rw [List.append_assoc, List.take_append_drop] at this
            rw [this, List.append_assoc]
theorem splaces_get (size : Nat) : ∀ (n k j : Nat) (p : Nat × Nat), (splaces size n k)[j]? = some p → p = ((k + j) * size, size)
  | 0, k, j, p, h => by simp [splaces] at h
  | n + 1, k, 0, p, h => by simp [splaces] at h; rw [← h]; rfl
  | n + 1, k, j + 1, p, h => by
    rw [show k + (j + 1) = (k + 1) + j by omega]
    exact splaces_get size n (k + 1) j p (by simpa [splaces] using h)
theorem xfill_mono {f g : Nat → Option (Nat × Nat)} (hfg : ∀ i p, f i = some p → g i = some p) : ∀ (parts : List (Nat × Value)) (cs out : List Value), xfill f cs parts = some out → xfill g cs parts = some out
  | [], cs, out, h => h
  | (i, v) :: rest, cs, out, h => by
    simp only [xfill] at h ⊢
    cases hi : f i with
    | none => rw [hi] at h; cases h
    | some p =>
      rw [hi] at h
      rw [hfg i p hi]
      simp only at h ⊢
      split at h
      · cases h
      · rename_i hn
        rw [if_neg hn]
        exact xfill_mono hfg rest _ _ h
theorem xfillS_fill {n size : Nat} {zs : List Value} {parts : List (Nat × Value)} {out : List Value} (h : xfillS n size zs parts = some out) : xfill (fun k => some (k * size, size)) zs parts = some out := by
  unfold xfillS at h
  split at h
  · rename_i cs hc
    cases h
    refine xfill_mono (fun i p hp => ?_) _ _ _ (xcat_fill (splaces size n 0) [] 0 0 [] zs parts _ rfl rfl rfl hc)
    have := splaces_get size n 0 i p hp
    rw [this, Nat.zero_add]
  · exact h

theorem xbuild_run {P : Program} {T : TypeId} {parts : List (Nat × Value)} {cs : List Value} (h : xbuild P T parts = some cs) (w : World) :
    (Instr.build T parts.toArray).run P w = .ok (.agg cs.toArray) w := by
  unfold xbuild at h
  split at h
  · rename_i zs fs hz hu
    split at h
    · rename_i l hl
      obtain ⟨z, hzc, hzr⟩ := xzero_run hz
      have h : xfill (l[·]?) zs parts = some cs := by
        split at h
        · rename_i cs' hcs
          cases h
          exact xcat_fill l [] 0 0 [] zs parts cs rfl rfl rfl hcs
        · exact h
      have hm : (fs.mapM (m := Sem) fun f => do pure (f.offset, ← sizeOf f.type)).run P w = .ok l.toArray w := by
        rw [← Array.toArray_toList (xs := fs), List.mapM_toArray]
        have := run_xplaces _ _ hl w
        rw [map_eq_pure_bind, Sem.run_bind, this]
        rfl
      simp only [Instr.build, Sem.run_bind, hzr, Result.andThen_ok, run_underlying hu, hm, hzc]
      have : Instr.fill (fun x => l.toArray[x]?) zs.toArray parts = some cs.toArray := xfill_eq _ _ _ (by simpa using h)
      simp only [List.getElem?_toArray] at this ⊢
      rw [this]
      rfl
    · cases h
  · rename_i zs n e hz hu
    split at h
    · rename_i i hi
      obtain ⟨z, hzc, hzr⟩ := xzero_run hz
      simp only [Instr.build, Sem.run_bind, hzr, Result.andThen_ok, run_underlying hu, hzc, sizeOf, typeInfo, hi, run_program]
      have : Instr.fill (fun k => some (k * i.size, i.size)) zs.toArray parts = some cs.toArray := xfill_eq _ _ _ h
      simp [hi, this]
    · cases h
  · cases h

theorem xbinI_run {P : Program} {op : BinOp} {k : IntKind} {x y : Int} {K : Value → Prop} (T : TypeId) (h : xbinI op k x y K) :
    ∃ v, (∀ w, (binOp op T (.int k x) (.int k y)).run P w = .ok v w) ∧ K v := by
  cases op <;> simp only [xbinI] at h
  case quo => exact ⟨_, fun w => by simp [binOp, Op.intDiv, h.1], h.2⟩
  case rem => exact ⟨_, fun w => by simp [binOp, Op.intDiv, h.1], h.2⟩
  all_goals exact ⟨_, fun w => by simp [binOp, Op.intArith, Op.intBits, Op.intCmp]; try rfl, h⟩

theorem eqGuard_run {P : Program} (op : BinOp) (T : TypeId) (x y : Operand) (a b : Value) (h : ∀ cs, a = .agg cs → P.eqGuardType P.depth T = false) (hn : a ≠ .nilIface) (w : World) :
    (eqGuard op T x y a b).run P w = .ok () w := by
  cases a with
  | nilIface => exact absurd rfl hn
  | agg c =>
    cases b with
    | agg d => unfold eqGuard; split <;> simp [h c rfl]
    | _ => unfold eqGuard; split <;> simp
  | _ => unfold eqGuard; split <;> simp

theorem xbin_run {P : Program} {op : BinOp} {T : TypeId} {a b : Value} {K : Value → Prop} (x y : Operand) (h : xbin P op T a b K) :
    ∃ v, (∀ w, (do eqGuard op T x y a b; binOp op T a b : Sem Value).run P w = .ok v w) ∧ K v := by
  have other : ∀ (hg : ∀ cs, a = .agg cs → P.eqGuardType P.depth T = false) (hn : a ≠ .nilIface) (v : Value), (∀ w, (binOp op T a b).run P w = .ok v w) → K v → ∃ v, (∀ w, (do eqGuard op T x y a b; binOp op T a b : Sem Value).run P w = .ok v w) ∧ K v :=
    fun hg hn v hv hk => ⟨v, fun w => by simp only [Sem.run_bind, eqGuard_run op T x y a b hg hn, Result.andThen_ok, hv], hk⟩
  have eqOther : ∀ {J : Bool → Prop}, xeq P T a b J → ∃ r, J r ∧ (∀ w, (Op.equal T a b).run P w = .ok r w) ∧ ∀ cs, a = .agg cs → P.eqGuardType P.depth T = false := by
    intro J hj
    unfold xeq at hj
    split at hj
    · obtain ⟨r, hg, hr, hk⟩ := hj.holds
      exact ⟨r, hk, fun w => (eqv_sound P 60).1 Op.maxDepth T _ b _ w (by decide) hr, fun cs hcs => by cases hcs; exact hg⟩
    · rename_i a' hna
      split at hj
      · rename_i r hr
        refine ⟨r, hj, fun w => ?_, fun cs hcs => absurd hcs (hna cs)⟩
        unfold eqFlat at hr
        split at hr
        · split at hr
          · split at hr
            · rename_i hu; cases hr; exact run_equalIn_bool' w 9999 T _ _ hu
            · cases hr
          · cases hr
        · cases hr
        · cases hr
        · cases hr
        · split at hr
          · cases hr
          · rename_i u _ hu
            split at hr
            · rename_i hf; exact nilEq_sound (d := 9999) hu hf hr w
            · cases hr
          · cases hr
      · exact hj.elim
  have last : (∀ k n, a ≠ .int k n) → (∀ s, a ≠ .string s) → a ≠ .nilIface → (∀ k n, a ≠ .float k n) → (∀ k n m, a ≠ .complex k n m) →
      xeqOp P op T a b K → ∃ v, (∀ w, (do eqGuard op T x y a b; binOp op T a b : Sem Value).run P w = .ok v w) ∧ K v := by
    intro hi hs hn hf hc hh
    cases op <;> simp only [xeqOp] at hh
    all_goals
      obtain ⟨r, hk, hrun, hg⟩ := eqOther hh
      refine other hg hn _ (fun w => ?_) hk
      have := hrun w
      cases a <;> first | exact absurd rfl (hi _ _) | exact absurd rfl (hs _) | exact absurd rfl (hf _ _) | exact absurd rfl (hc _ _ _) | simp [binOp, this]
  cases a with
  | int k n =>
    cases b with
    | int k' m =>
      by_cases hl : op = .shl
      · subst hl
        simp only [xbin] at h
        exact other (by simp) (by simp) _ (fun w => by simp [binOp, Op.shift, Int.not_lt.2 h.1]) h.2
      by_cases hr : op = .shr
      · subst hr
        simp only [xbin] at h
        exact other (by simp) (by simp) _ (fun w => by simp [binOp, Op.shift, Int.not_lt.2 h.1]) h.2
      have h' : (if k = k' then xbinI op k n m K else False) := by cases op <;> first | exact absurd rfl hl | exact absurd rfl hr | exact h
      split at h'
      · rename_i e; subst e
        obtain ⟨v, hv, hk⟩ := xbinI_run T h'
        exact other (by simp) (by simp) v hv hk
      · exact h'.elim
    | _ => exact h.elim
  | string s =>
    cases b with
    | string u =>
      cases op <;> simp only [xbin] at h
      case add => exact other (by simp) (by simp) _ (fun w => by simp only [binOp, Op.stringOp]; rw [if_neg (by have := h.1; omega)]; rfl) h.2
      case eql => exact other (by simp) (by simp) _ (fun w => by simp [binOp, Op.stringOp]) h
      case neq => exact other (by simp) (by simp) _ (fun w => by simp [binOp, Op.stringOp]) h
    | _ => exact h.elim
  | float k n =>
    cases b with
    | float k' m =>
      cases op <;> simp only [xbin] at h
      all_goals
        first
        | exact h.elim
        | obtain ⟨rfl, h2⟩ := h
          exact other (by simp) (by simp) _ (fun w => by simp [binOp, Op.floatCmp]) h2
    | _ => exact h.elim
  | complex => exact h.elim
  | nilIface => exact h.elim
  | _ => exact last (by simp) (by simp) (by simp) (by simp) (by simp) h

theorem amap {α β : Type} (f : α → β) (xs : Array α) : xs.map f = (xs.toList.map f).toArray := by rw [← Array.toList_map, Array.toArray_toList]
theorem xbound_elim {N : Nat} {t : Tm} {a : Act} (hA : Agree N t a) {o : Option Operand} {d : Int} {K : Int → Prop} (h : xbound t o d K) :
    (o = none ∧ K d) ∨ ∃ x k i, o = some x ∧ a.eval x = .int k i ∧ K i := by
  cases o with
  | none => exact .inl ⟨rfl, h⟩
  | some x =>
    have := hA.xev h
    split at this
    · rename_i k i e; exact .inr ⟨x, k, i, rfl, e, this⟩
    · exact this.elim

theorem sliceBound_run {P : Program} {k : IntKind} {i : Int} {y : Nat} {c : BoundsCode} (h0 : 0 ≤ i) (h1 : i ≤ y) (w : World) : (Instr.sliceBound (.int k i) y c).run P w = .ok i.toNat w := by
  simp [Instr.sliceBound, asIntOf, h0, h1]

set_option maxHeartbeats 1000000 in
theorem xpure_sound {P : Program} {N : Nat} {t : Tm} {a : Act} {o : Oper} {K : Value → Prop} (hA : Agree N t a) (h : xpure P t o K) :
    ∃ v, (∀ w, (execOp a.eval o).run P w = .ok (.value v) w) ∧ K v := by
  unfold xpure at h
  split at h
  case h_1 x ho => exact ⟨_, fun w => by simp [execOp, ho], hA.xev h⟩
  case h_2 x ho => exact ⟨_, fun w => by simp [execOp, ho], hA.xev h⟩
  case h_3 c x y ho =>
    have h1 := hA.xev h
    split at h1
    · rename_i q hc
      cases q
      · exact ⟨_, fun w => by simp [execOp, ho, hc, asBool], hA.xev (xif_false (X := False) rfl h1 : xif false False _)⟩
      · exact ⟨_, fun w => by simp [execOp, ho, hc, asBool], hA.xev (show xev t x K from h1)⟩
    · exact h1.elim
  case h_4 x ho =>
    have h1 := hA.xev h
    split at h1
    · rename_i p hx
      split at h1
      · exact ⟨_, fun w => by simp [execOp, ho, hx], h1⟩
      · exact h1.elim
    · rename_i f first cap hx
      exact ⟨_, fun w => by simp [execOp, ho, hx], h1⟩
    · rename_i u v hx
      exact ⟨_, fun w => by simp [execOp, ho, hx], h1⟩
    · exact h1.elim
  case h_5 op T x y y2 ho =>
    have h1 := hA.xev (hA.xev h)
    obtain ⟨v, hv, hk⟩ := xbin_run x y h1
    refine ⟨v, fun w => ?_, hk⟩
    have := hv w
    simp only [execOp, ho]
    rw [Sem.run_bind, this]
    rfl
  case h_6 op T x ho =>
    have h1 := hA.xev h
    split at h1
    · rename_i b hx
      exact ⟨_, fun w => by simp [execOp, ho, hx, Op.unary], h1⟩
    · rename_i k n hx
      exact ⟨_, fun w => by simp [execOp, ho, hx, Op.unary, Op.intArith], h1⟩
    · rename_i k n hx
      exact ⟨_, fun w => by simp [execOp, ho, hx, Op.unary], h1⟩
    · rename_i k n hx
      exact ⟨_, fun w => by simp [execOp, ho, hx, Op.unary, Op.intBits], h1⟩
    · exact h1.elim
  case h_7 src dst x ho =>
    have h1 := hA.xev h
    split at h1
    · rename_i k n hx
      split at h1
      · rename_i d1 k' e1 e2
        exact ⟨_, fun w => by simp [execOp, ho, hx, convert, run_underlying e1, run_underlying e2, Conv.intToInt], h1⟩
      · rename_i d1 k' e1 e2
        exact ⟨_, fun w => by simp [execOp, ho, hx, convert, run_underlying e1, run_underlying e2, Conv.intToFloat], h1⟩
      · exact h1.elim
    · rename_i s hx
      split at h1
      · rename_i d1 e1 e2
        exact ⟨_, fun w => by simp [execOp, ho, hx, convert, run_underlying e1, run_underlying e2], h1⟩
      · exact h1.elim
    · exact h1.elim
  case h_8 S x f ho =>
    have h1 := hA.xev h
    split at h1
    · rename_i ad hx
      split at h1
      · rename_i n hn
        unfold xfieldOff at hn
        split at hn
        · rename_i fs hu
          split at hn
          · rename_i fd hfd
            split at hn
            · rename_i i hi
              split at hn
              · cases hn
              · rename_i hz
                cases hn
                have hfd' : fs[f]? = some fd := by simpa using hfd
                exact ⟨_, fun w => by simp [execOp, ho, hx, Instr.fieldAt, run_underlying hu, hfd', Instr.sureAddr, fieldPlace, sizeOf_run hi, hz], h1⟩
            · cases hn
          · cases hn
        · cases hn
      · exact h1.elim
    · exact h1.elim
  case h_9 S x f ho =>
    have h1 := hA.xev h
    split at h1
    · rename_i cs hx
      split at h1
      · rename_i v hv
        unfold xfieldVal at hv
        split at hv
        · rename_i fs hu
          split at hv
          · rename_i fd hfd
            have hfd' : fs[f]? = some fd := by simpa using hfd
            refine ⟨v, fun w => ?_, h1⟩
            have := run_partv hv w
            simp only [Array.toArray_toList] at this
            simp [execOp, ho, hx, Instr.field, run_underlying hu, hfd', asAgg, this]
          · cases hv
        · cases hv
      · exact h1.elim
    · exact h1.elim
  case h_10 T x ix ho =>
    have h1 := hA.xev (hA.xev h)
    split at h1
    · rename_i k i hi
      split at h1
      · rename_i e hu
        split at h1
        · rename_i inf hinf
          split at h1
          · rename_i A n c hx
            obtain ⟨ad, rfl, h0, hn, hk⟩ := h1
            exact ⟨_, fun w => by simp [execOp, ho, hx, hi, Instr.indexAt, asIntOf, run_underlying hu, h0, hn, sizeOf_run hinf], hk⟩
          · exact h1.elim
        · exact h1.elim
      · rename_i n e hu
        split at h1
        · rename_i inf hinf
          split at h1
          · rename_i ad hx
            obtain ⟨h0, hn, hk⟩ := h1
            exact ⟨_, fun w => by simp [execOp, ho, hx, hi, Instr.indexAt, asIntOf, run_underlying hu, h0, hn, sizeOf_run hinf, Instr.sureAddr], hk⟩
          · exact h1.elim
        · exact h1.elim
      · exact h1.elim
    · exact h1.elim
  case h_11 T x ix ho =>
    have h1 := hA.xev (hA.xev h)
    split at h1
    · rename_i k i hi
      split at h1
      · rename_i s hx
        obtain ⟨hu, h0, b, hb, hk⟩ := h1
        exact ⟨_, fun w => by simp [execOp, ho, hx, hi, Instr.index, asIntOf, run_underlying hu, h0, hb], hk⟩
      · rename_i cs hx
        split at h1
        · rename_i n e hu
          split at h1
          · rename_i inf hinf
            obtain ⟨h0, hn, v, hv, hk⟩ := h1
            refine ⟨v, fun w => ?_, hk⟩
            have := run_partv hv w
            simp only [Array.toArray_toList] at this
            simp [execOp, ho, hx, hi, Instr.index, asIntOf, run_underlying hu, h0, hn, sizeOf_run hinf, this]
          · exact h1.elim
        · exact h1.elim
      · exact h1.elim
    · exact h1.elim
  case h_12 x i ho =>
    have h1 := hA.xev h
    split at h1
    · rename_i vs hx
      split at h1
      · rename_i v hv
        have hv' : vs[i]? = some v := by simpa using hv
        exact ⟨_, fun w => by simp [execOp, ho, hx, Instr.extract, hv'], h1⟩
      · exact h1.elim
    · exact h1.elim
  case h_13 T x lo hi mx ho =>
    have h1 := hA.xev h
    split at h1
    · rename_i s hx
      split at h1
      · rename_i hu
        rcases xbound_elim hA h1 with ⟨rfl, h2⟩ | ⟨x1, k1, l, rfl, e1, h2⟩ <;> rcases xbound_elim hA h2 with ⟨rfl, h3⟩ | ⟨x2, k2, hh, rfl, e2, h3⟩ <;> obtain ⟨h0, h4, h5, hk⟩ := h3 <;> try simp only [Int.toNat_natCast] at hk
        · exact ⟨_, fun w => by simp [execOp, ho, hx, Instr.sliceAt, Instr.slice, run_underlying hu, Instr.sliceBounds], hk⟩
        · exact ⟨_, fun w => by simp [execOp, ho, hx, Instr.sliceAt, Instr.slice, run_underlying hu, Instr.sliceBounds, e2, sliceBound_run h4 h5], hk⟩
        · exact ⟨_, fun w => by simp [execOp, ho, hx, Instr.sliceAt, Instr.slice, run_underlying hu, Instr.sliceBounds, e1, sliceBound_run h0 h4], hk⟩
        · exact ⟨_, fun w => by simp [execOp, ho, hx, Instr.sliceAt, Instr.slice, run_underlying hu, Instr.sliceBounds, e1, e2, sliceBound_run (show 0 ≤ hh by omega) h5, sliceBound_run h0 (show l ≤ (hh.toNat : Int) by omega)], hk⟩
      · exact h1.elim
    · rename_i A n c hx
      split at h1
      · rename_i e hu
        split at h1
        · rename_i inf hinf
          rcases xbound_elim hA h1 with ⟨rfl, h2⟩ | ⟨x1, k1, l, rfl, e1, h2⟩ <;> rcases xbound_elim hA h2 with ⟨rfl, h3⟩ | ⟨x2, k2, hh, rfl, e2, h3⟩ <;> rcases xbound_elim hA h3 with ⟨rfl, h4⟩ | ⟨x3, k3, m, rfl, e3, h4⟩ <;> obtain ⟨hmx, h0, h5, h6, h7, hk⟩ := h4
          · exact ⟨_, fun w => by simp [execOp, ho, hx, Instr.sliceAt, Instr.slice, run_underlying hu, Instr.sliceBounds, sizeOf_run hinf], hk⟩
          · exact absurd (hmx rfl) (by simp)
          · exact ⟨_, fun w => by simp [execOp, ho, hx, Instr.sliceAt, Instr.slice, run_underlying hu, Instr.sliceBounds, sizeOf_run hinf, e2, sliceBound_run (show 0 ≤ hh by omega) h6], hk⟩
          · exact ⟨_, fun w => by simp [execOp, ho, hx, Instr.sliceAt, Instr.slice, run_underlying hu, Instr.sliceBounds, sizeOf_run hinf, e2, e3, sliceBound_run (show 0 ≤ m by omega) h7, sliceBound_run (show 0 ≤ hh by omega) (show hh ≤ (m.toNat : Int) by omega)], hk⟩
          · exact ⟨_, fun w => by simp [execOp, ho, hx, Instr.sliceAt, Instr.slice, run_underlying hu, Instr.sliceBounds, sizeOf_run hinf, e1, sliceBound_run h0 h5], hk⟩
          · exact absurd (hmx rfl) (by simp)
          · exact ⟨_, fun w => by simp [execOp, ho, hx, Instr.sliceAt, Instr.slice, run_underlying hu, Instr.sliceBounds, sizeOf_run hinf, e1, e2, sliceBound_run (show 0 ≤ hh by omega) h6, sliceBound_run h0 (show l ≤ (hh.toNat : Int) by omega)], hk⟩
          · exact ⟨_, fun w => by simp [execOp, ho, hx, Instr.sliceAt, Instr.slice, run_underlying hu, Instr.sliceBounds, sizeOf_run hinf, e1, e2, e3, sliceBound_run (show 0 ≤ m by omega) h7, sliceBound_run (show 0 ≤ hh by omega) (show hh ≤ (m.toNat : Int) by omega), sliceBound_run h0 (show l ≤ (hh.toNat : Int) by omega)], hk⟩
        · exact h1.elim
      · exact h1.elim
    · exact h1.elim
  case h_14 T parts ho =>
    have h1 := Agree.xevs hA h
    split at h1
    · rename_i cs hcs
      refine ⟨_, fun w => ?_, forceL_elim h1⟩
      have := xbuild_run hcs w
      have e : ((parts.toList.map (·.1)).zip (parts.toList.map (·.2) |>.map a.eval)).toArray = parts.map fun (i, x) => (i, a.eval x) := by
        rw [amap]
        simp [List.zip_map', List.map_map]
      simp only [execOp, ho]
      rw [← e, Sem.run_bind, this]
      rfl
    · exact h1.elim
  case h_15 fn first cap ho =>
    have h1 := Agree.xevs hA (Agree.xevs hA h)
    refine ⟨_, fun w => ?_, h1⟩
    simp [execOp, ho, Instr.makeFunc, amap]
  case h_16 T x ho =>
    have h1 := hA.xev h
    split at h1
    · exact h1.elim
    · rename_i d hd hu
      exact ⟨_, fun w => by simp only [execOp, ho, Instr.makeInterface, Sem.run_bind, run_underlying hu, Result.andThen_ok]; simp, h1⟩
    · exact h1.elim
  case h_17 c ho =>
    split at h
    · rename_i hc
      have h1 := Agree.xevs hA h
      split at h1
      · rename_i v hvs
        have hargs : c.args.map a.eval = #[v] := by rw [amap, hvs]
        split at h1
        · rename_i A n cp
          split at h1
          · rename_i T hT
            have hT' : c.argTypes = #[T] := by rw [← Array.toArray_toList (xs := c.argTypes), hT]
            split at h1
            · rename_i e hu
              exact ⟨_, fun w => by simp [execOp, ho, resolve, hc, hargs, invoke, builtin, Builtin.len_, hT', run_underlying hu, goInt], h1⟩
            · exact h1.elim
          · exact h1.elim
        · rename_i s
          split at h1
          · rename_i T hT
            have hT' : c.argTypes = #[T] := by rw [← Array.toArray_toList (xs := c.argTypes), hT]
            split at h1
            · rename_i hu
              exact ⟨_, fun w => by simp [execOp, ho, resolve, hc, hargs, invoke, builtin, Builtin.len_, hT', run_underlying hu, goInt], h1⟩
            · exact h1.elim
          · exact h1.elim
        · exact h1.elim
      · exact h1.elim
    · rename_i hc
      have h1 := Agree.xevs hA h
      split at h1
      · rename_i k x k2 y hvs
        have hargs : c.args.map a.eval = #[.int k x, .int k2 y] := by rw [amap, hvs]
        exact ⟨_, fun w => by simp [execOp, ho, resolve, hc, hargs, invoke, builtin, Builtin.min_, Builtin.min2], h1⟩
      · exact h1.elim
    · rename_i hc
      have h1 := Agree.xevs hA h
      split at h1
      · rename_i k x k2 y hvs
        have hargs : c.args.map a.eval = #[.int k x, .int k2 y] := by rw [amap, hvs]
        exact ⟨_, fun w => by simp [execOp, ho, resolve, hc, hargs, invoke, builtin, Builtin.max_, Builtin.max2], h1⟩
      · exact h1.elim
    · exact h.elim
  case h_18 => exact h.elim

/-! ### Operations that read memory -/
def cellsAt (a : Addr) (vs : List Value) (h : Heap) : Prop := Reads h a vs
def xload (P : Program) (T : TypeId) (h : Heap) (a : Addr) (K : Value → (Heap → Prop) → Prop) : Prop :=
  match P.underlying T with
  | none => False
  | some (.struct _) | some (.array _ _) => match P.info? T with
    | some i => ∃ vs : List Value, vs.length = i.size ∧ Reads h a vs ∧ K (.agg vs.toArray) (cellsAt a vs)
    | none => False
  | some _ => ∃ v, cell h a = some v ∧ K v (fun h => cell h a = some v)

/-- A reading, by its own run: what it gives wherever the fact F holds of the heap. -/
structure XGet (P : Program) (s : Sem Value) (h : Heap) (K : Value → (Heap → Prop) → Prop) : Prop where
  holds : ∃ v F, F h ∧ (∀ w : World, F w.heap → s.run P w = .ok v w) ∧ K v F
/-- Something that is done, by its own run. -/
structure XRun (P : Program) (s : Sem Value) (h : Heap) (K : Value → Heap → Prop) : Prop where
  holds : ∀ w : World, w.heap = h → ∃ v w', s.run P w = .ok v w' ∧ SameOut w w' ∧ K v w'.heap
structure XRunU (P : Program) (s : Sem Unit) (h : Heap) (K : Heap → Prop) : Prop where
  holds : ∀ w : World, w.heap = h → ∃ w', s.run P w = .ok () w' ∧ SameOut w w' ∧ K w'.heap
def xread (P : Program) (t : Tm) (o : Oper) (h : Heap) (K : Value → (Heap → Prop) → Prop) : Prop :=
  match o.op with
  | .load T x => xev t x fun v => match v with
    | .pointer (some a) => xload P T h a K
    | _ => False
  | .lookup T x ix ok => xev t x fun vx => xev t ix fun vi => XGet P (Instr.lookup T vx vi ok) h K
  | .call c => match c.callee with
    | .builtin .len => xevs t c.args.toList fun vs => XGet P (Builtin.len_ c.argTypes o.type vs.toArray) h K
    | _ => False
  | _ => False

theorem loadCells_run {P : Program} {a : Addr} {vs : List Value} {w : World} (h : Reads w.heap a vs) : (loadCells a vs.length).run P w = .ok vs.toArray w := by
  have := run_loadCells_list (P := P) w a vs (fun j v hj => h j v hj)
  simpa using this

theorem xload_run {P : Program} {T : TypeId} {h : Heap} {a : Addr} {K : Value → (Heap → Prop) → Prop} (H : xload P T h a K) :
    ∃ v F, F h ∧ (∀ w : World, F w.heap → (loadVar T a).run P w = .ok v w) ∧ K v F := by
  unfold xload at H
  split at H
  · exact H.elim
  · rename_i fs hu
    split at H
    · rename_i i hi
      obtain ⟨vs, hl, hr, hk⟩ := H
      refine ⟨_, _, hr, fun w hw => ?_, hk⟩
      simp only [loadVar, isAgg, Sem.run_bind, run_underlying hu, Result.andThen_ok, Sem.run_pure, if_true, sizeOf_run hi, ← hl, loadCells_run hw]
    · exact H.elim
  · rename_i n e hu
    split at H
    · rename_i i hi
      obtain ⟨vs, hl, hr, hk⟩ := H
      refine ⟨_, _, hr, fun w hw => ?_, hk⟩
      simp only [loadVar, isAgg, Sem.run_bind, run_underlying hu, Result.andThen_ok, Sem.run_pure, if_true, sizeOf_run hi, ← hl, loadCells_run hw]
    · exact H.elim
  · rename_i u hna hns hu
    obtain ⟨v, hc, hk⟩ := H
    refine ⟨v, _, hc, fun w hw => ?_, hk⟩
    have hw' : w.cell? a = some v := hw
    have hag : (isAgg T).run P w = .ok false w := by
      simp only [isAgg, Sem.run_bind, run_underlying hu, Result.andThen_ok]
      simp
    simp only [loadVar, Sem.run_bind, hag, Result.andThen_ok, Bool.false_eq_true, if_false]
    simp [load, Sem.run, hw']

theorem xread_sound {P : Program} {N : Nat} {t : Tm} {a : Act} {o : Oper} {h : Heap} {K : Value → (Heap → Prop) → Prop} (hA : Agree N t a) (H : xread P t o h K) :
    ∃ v F, F h ∧ (∀ w : World, F w.heap → (execOp a.eval o).run P w = .ok (.value v) w) ∧ K v F := by
  unfold xread at H
  split at H
  · rename_i T x ho
    have h1 := hA.xev H
    split at h1
    · rename_i ad hx
      obtain ⟨v, F, h2, h3, h4⟩ := xload_run h1
      refine ⟨v, F, h2, fun w hw => ?_, h4⟩
      simp only [execOp, ho, hx, Instr.loadAt, Instr.sureAddr, Sem.run_bind, Sem.run_pure, Result.andThen_ok, h3 w hw]
    · exact h1.elim
  · rename_i T x ix ok ho
    obtain ⟨v, F, h2, h3, h4⟩ := (hA.xev (hA.xev H)).holds
    refine ⟨v, F, h2, fun w hw => ?_, h4⟩
    simp only [execOp, ho, Sem.run_bind, Sem.run_pure, Result.andThen_ok, h3 w hw]
  · rename_i c ho
    split at H
    · rename_i hc
      obtain ⟨v, F, h2, h3, h4⟩ := (Agree.xevs hA H).holds
      refine ⟨v, F, h2, fun w hw => ?_, h4⟩
      have h5 := h3 w hw
      have e : (c.args.toList.map a.eval).toArray = c.args.map a.eval := by apply Array.ext'; simp
      rw [e] at h5
      simp only [execOp, ho, Sem.run_bind, resolve, hc, Sem.run_pure, Result.andThen_ok, invoke, builtin, h5]
    · exact H.elim
  · exact H.elim

/-! ### Operations that write, make memory, call -/
def xnew (h : Heap) (o : Obj) (K : Nat → Heap → Prop) : Prop := ∀ b h', New h h' b o → K b h'
def xstore (P : Program) (T : TypeId) (h : Heap) (a : Addr) (vs : List Value) (K : Heap → Prop) : Prop :=
  match P.info? T with
  | some i => vs.length = i.size ∧ vs.all Value.oneCell' = true ∧ CanSet h a vs.length ∧ ∀ h', Stored h a vs h' → K h'
  | none => False
def readsOf (h : Heap) (A : Option Addr) (vs : List Value) : Prop := match A with | none => vs = [] | some a => Reads h a vs
structure AppendOk (h : Heap) (A : Option Addr) (n c size m bytes : Nat) (xs ys : List Value) (B : Option Addr) : Prop where
  fit : (n + m) * bytes ≤ 140737488355328
  pos : 0 < bytes
  lx : A ≠ none → xs.length = n * size
  ly : B ≠ none → ys.length = m * size
  rx : readsOf h A xs
  ry : readsOf h B ys
  one : ys.all Value.oneCell' = true
  set : n + m ≤ c → ∀ a, A = some a → CanSet h (a.add (n * size)) ys.length
structure XAppend (P : Program) (e : TypeId) (h : Heap) (A : Option Addr) (n c : Nat) (B : Option Addr) (m : Nat) (K : Value → Heap → Prop) : Prop where
  holds : ∃ i zs xs ys, P.info? e = some i ∧ xzero P e = some zs ∧ AppendOk h A n c i.size m i.bytes xs ys B ∧
        (n + m ≤ c → A = none → K (.slice none (n + m) c) h) ∧
        (n + m ≤ c → ∀ a h', A = some a → Stored h (a.add (n * i.size)) ys h' → K (.slice (some a) (n + m) c) h') ∧
        (c < n + m → ∀ cap b h', n + m ≤ cap → New h h' b (.cells (xs ++ ys ++ (List.replicate (cap - (n + m)) zs).flatten).toArray e) → K (.slice (some ⟨b, 0, none⟩) (n + m) cap) h')

/-- Floating numbers are reckoned with (a bit pattern of a result that is no number is anything). -/
structure XFloat (op : BinOp) (a b : Value) (h : Heap) (K : Value → Heap → Prop) : Prop where
  holds : ∃ x y, a = .float .f64 x ∧ b = .float .f64 y ∧ (op = .add ∨ op = .sub ∨ op = .mul ∨ op = .quo) ∧
    ∀ r, (∀ z, (match op with | .add => FloatKind.f64.format.add x y | .sub => FloatKind.f64.format.sub x y | .mul => FloatKind.f64.format.mul x y | .quo => FloatKind.f64.format.div x y | _ => none) = some z → r = z) → K (.float .f64 r) h
def isSlice (P : Program) (T : TypeId) : Option TypeId := match P.underlying T with | some (.slice e) => some e | _ => none

def xeff (P : Program) (t : Tm) (o : Oper) (h : Heap) (K : Value → Heap → Prop) : Prop :=
  match o.op with
  | .alloc T => match xzero P T with
    | some zs => xnew h (.cells zs.toArray T) fun b h' => K (.pointer (some ⟨b, 0, none⟩)) h'
    | none => False
  | .box T x => xev t x fun v => withCells v fun l => xnew h (.cells l.toArray T) fun b h' => K (.pointer (some ⟨b, 0, none⟩)) h'
  | .store T x y => xev t x fun p => xev t y fun v => match p with
    | .pointer (some a) => withCells v fun l => xstore P T h a l fun h' => K Go.undef h'
    | _ => False
  | .buildSlice T n parts => match isSlice P T with
    | some e => match xzero P e with
      | some zs => match P.info? e with
        | some i => match (zs.length == i.size && decide (n * i.size ≤ 16777216)) with
          | true => xevs t (parts.toList.map (·.2)) fun vs => match xfillS n i.size (List.replicate n zs).flatten ((parts.toList.map (·.1)).zip vs) with
            | some cs => forceL cs fun cs => xnew h (.cells cs.toArray e) fun b h' => K (.slice (some ⟨b, 0, none⟩) n n) h'
            | none => False
          | false => False
        | none => False
      | none => False
    | none => False
  | .makeSlice T l c => match isSlice P T with
    | some e => match xzero P e with
      | some zs => match P.info? e with
        | some i => match zs.length == i.size with
          | true => xev t l fun vl => xev t c fun vc => match vl, vc with
            | .int _ l, .int _ c => 0 ≤ l ∧ l ≤ c ∧ (i.bytes : Int) * c ≤ 140737488355328 ∧ c ≤ 9223372036854775807 ∧
                xnew h (.cells (List.replicate c.toNat zs).flatten.toArray e) fun b h' => K (.slice (some ⟨b, 0, none⟩) l.toNat c.toNat) h'
            | _, _ => False
          | false => False
        | none => False
      | none => False
    | none => False
  | .call c => match c.callee with
    | .value f => xev t f fun v => match v with
      | .func (.func g) first cap => xevs t c.args.toList fun vs => HCalls P g (first.toList ++ vs ++ cap.toList).toArray h K
      | _ => False
    | .builtin .append => match c.argTypes.toList with
      | [sT, xT] => match isSlice P sT, isSlice P xT with
        | some e, some _ => xevs t c.args.toList fun vs => match vs with
          | [s, x] => match s with
            | .slice A n cp => match x with
              | .slice B m _ => XAppend P e h A n cp B m K
              | _ => False
            | _ => False
          | _ => False
        | some _, none => xevs t c.args.toList fun vs => XRun P (Builtin.append_ c.argTypes o.type vs.toArray) h K
        | _, _ => False
      | _ => False
    | .builtin .delete => xevs t c.args.toList fun vs => XRun P (Builtin.delete_ c.argTypes o.type vs.toArray) h K
    | .builtin .copy => xevs t c.args.toList fun vs => XRun P (Builtin.copy_ c.argTypes o.type vs.toArray) h K
    | .builtin .clear => xevs t c.args.toList fun vs => XRun P (Builtin.clear_ c.argTypes o.type vs.toArray) h K
    | _ => False
  | .makeMap T r => match r with
    | none => XRun P (Instr.makeMap T none) h K
    | some _ => False
  | .mapUpdate T m k x => xev t m fun vm => xev t k fun vk => xev t x fun vx => XRunU P (Instr.mapUpdate T vm vk vx) h (K Go.undef)
  | .convert s d x => xev t x fun v => XRun P (convert s d v) h K
  | .binOp op T x y _ => xev t x fun a => xev t y fun b => XFloat op a b h K
  | .mapEntry T m k => xev t m fun vm => xev t k fun vk => XRun P (Instr.mapEntry T vm vk) h K
  | .entryStore T m k x => xev t m fun vm => xev t k fun vk => xev t x fun vx => XRunU P (Instr.entryStore T vm vk vx) h (K Go.undef)
  | .range T x => xev t x fun v => XRun P (Instr.range T v) h K
  | .next x s => xev t x fun v => XRun P (Instr.next v s o.type) h K
  | .entry x => xev t x fun v => XRun P (Instr.entry v) h K
  | _ => False

theorem wr_size : ∀ (vs : List Value) (c : Array Value) (o : Nat), (wr c o vs).size = c.size := by
  intro vs
  induction vs with
  | nil => intro c o; rfl
  | cons v vs ih => intro c o; simp only [wr]; rw [ih]; simp

theorem add_off (a : Addr) (i : Nat) : (a.add i).off = a.off + i := by
  unfold Addr.add; split <;> simp_all
theorem add_block (a : Addr) (i : Nat) : (a.add i).block = a.block := by
  unfold Addr.add; split <;> simp_all
theorem add_add (a : Addr) (i j : Nat) : (a.add i).add j = a.add (i + j) := by
  unfold Addr.add
  by_cases h : i = 0 <;> by_cases k : j = 0 <;> simp [h, k]
  omega

theorem cell_some {h : Heap} {a : Addr} {v : Value} (H : cell h a = some v) : ∃ c e f, h[a.block]? = some (.cells c e f) ∧ a.spot = none ∧ c[a.off]? = some v := by
  unfold cell at H
  split at H
  · rename_i c e f hb
    split at H
    · cases H
    · rename_i hs
      exact ⟨c, e, f, hb, by simpa using hs, H⟩
  · cases H

theorem storeCells_run {P : Program} {a : Addr} : ∀ (vs : List Value) (i : Nat) (w : World), (∀ j, j < vs.length → ∃ v, cell w.heap (a.add (i + j)) = some v) → (∀ j, j < vs.length → frozenAt w.heap (a.add (i + j)) = false) →
    (∀ v ∈ vs, v.oneCell' = true) → ∃ w', (storeCells a vs i).run P w = .ok () w' ∧ Stored w.heap (a.add i) vs w'.heap ∧ SameOut w w' := by
  intro vs
  induction vs with
  | nil => intro i w _ _ _; exact ⟨w, by simp [storeCells], ⟨rfl, fun _ _ => rfl, fun c e f h => h⟩, SameOut.refl w⟩
  | cons v vs ih =>
    intro i w hc hf h1
    obtain ⟨u, hu⟩ := hc 0 (by simp)
    have hfz := hf 0 (by simp)
    simp only [Nat.add_zero] at hu hfz
    have hv := h1 v (by simp)
    obtain ⟨c, e, f, hb, hs, hoff⟩ := cell_some hu
    have hb1 : (w.setCell (a.add i) v).heap[(a.add i).block]? = some (.cells (c.setIfInBounds (a.add i).off v) e f) := by
      simp [World.setCell, Array.getElem?_modify, hb, hs]
    have hbo : ∀ k, k ≠ (a.add i).block → (w.setCell (a.add i) v).heap[k]? = w.heap[k]? := by
      intro k hk
      simp only [World.setCell, Array.getElem?_modify]
      rw [if_neg (by omega)]
    obtain ⟨w', hr, hst, hso⟩ := ih (i + 1) (w.setCell (a.add i) v) (by
      intro j hj
      obtain ⟨u', hu'⟩ := hc (j + 1) (by simp; omega)
      obtain ⟨c', e', f', hb', hs', ho'⟩ := cell_some hu'
      have e1 : i + 1 + j = i + (j + 1) := by omega
      rw [e1]
      rw [add_block] at hb' hb hb1
      rw [hb] at hb'
      cases hb'
      have hlt : (a.add (i + (j + 1))).off < c.size := (Array.getElem?_eq_some_iff.1 ho').1
      refine ⟨(c.setIfInBounds (a.add i).off v)[(a.add (i + (j + 1))).off]'(by simpa using hlt), ?_⟩
      unfold cell
      rw [add_block, hb1]
      simp [hs', hlt]) (by
      intro j hj
      have h2 := hf (j + 1) (by simp; omega)
      have e1 : i + 1 + j = i + (j + 1) := by omega
      rw [e1]
      unfold frozenAt at h2 ⊢
      rw [add_block] at h2 ⊢
      rw [add_block] at hb hb1
      rw [hb1]
      rw [hb] at h2
      exact h2) (fun u hu => h1 u (by simp [hu]))
    refine ⟨w', ?_, ⟨?_, ?_, ?_⟩, ⟨hso.os, hso.tape, hso.output⟩⟩
    · simp only [storeCells, Sem.run_bind]
      have : (store (a.add i) v).run P w = .ok () (w.setCell (a.add i) v) := by
        have hu' : w.cell? (a.add i) = some u := hu
        have hf' : w.frozen? (a.add i) = false := hfz
        cases v <;> first | (simp [Value.oneCell'] at hv; done) | simp [store, Sem.run, hu', hf']
      rw [this]
      exact hr
    · rw [hst.size]; simp [World.setCell]
    · intro k hk
      rw [hst.other k (by rw [add_block] at hk ⊢; exact hk), hbo k hk]
    · intro c' e' f' hb'
      rw [hb] at hb'
      cases hb'
      have := hst.this (c.setIfInBounds (a.add i).off v) e f (by rw [add_block] at hb1 ⊢; exact hb1)
      rw [add_block] at this ⊢
      simp only [add_off] at this ⊢
      rw [this]
      simp only [wr]
      rfl

theorem new_push (h : Heap) (o : Obj) : New h (h.push o) h.size o :=
  ⟨rfl, by simp, fun k hk => by rw [Array.getElem?_push, if_neg (by omega)], by simp⟩

theorem newRow_run {P : Program} {e : TypeId} {cs : Array Value} {w : World} : (newRow e cs).run P w = .ok ⟨w.heap.size, 0, none⟩ { w with heap := w.heap.push (.cells cs e) } := by
  simp [newRow, newObj, Sem.run]

theorem made_eq (zs : List Value) : ∀ n, madeCells zs.toArray (n * zs.length) = (List.replicate n zs).flatten.toArray := by
  intro n
  apply Array.ext'
  simp only [madeCells, Array.toList_map, Array.toList_range]
  by_cases hz : zs.length = 0
  · have : zs = [] := by simpa using hz
    subst this; simp
  induction n with
  | zero => simp
  | succ n ih =>
    have e1 : (n + 1) * zs.length = n * zs.length + zs.length := Nat.succ_mul n zs.length
    rw [e1, List.range_add, List.map_append, ih, List.replicate_succ', List.flatten_append]
    congr 1
    simp only [List.flatten_cons, List.flatten_nil, List.append_nil, List.map_map]
    apply List.ext_getElem
    · simp
    · intro i h1 h2
      simp only [List.length_map, List.length_range] at h1
      simp [Nat.add_mod, Nat.mod_eq_of_lt h1, h1]

theorem zeroCells_eq (zs : List Value) (n : Nat) : Builtin.zeroCells zs.toArray n = (List.replicate n zs).flatten.toArray := made_eq zs n

theorem upon_val {P : Program} {o : Oper} {a : Act} {w w' : World} {v : Value} {next : Act → World → Prop} {Q : Exit → Act → World → Prop} (hr : (execOp a.eval o).run P w = .ok (.value v) w') (hn : next (a.put o.dst v) w') : o.wp P a w next Q := by
  unfold Oper.wp; rw [hr]; exact hn

theorem isSlice_u {P : Program} {T e : TypeId} (h : isSlice P T = some e) : P.underlying T = some (.slice e) := by
  unfold isSlice at h
  split at h
  · cases h; assumption
  · cases h

theorem choose_run {P : Program} (q : Question) (w : World) : ∃ n w', (choose q).run P w = .ok n w' ∧ SameOut w w' ∧ w'.heap = w.heap := by
  by_cases h : q.forced = true
  · exact ⟨0, w, by simp [choose, Sem.run, h], SameOut.refl w, rfl⟩
  · exact ⟨_, w.drew, by simp [choose, Sem.run, h]; rfl, ⟨rfl, rfl, rfl⟩, rfl⟩
theorem callFunc_run {P : Program} {g : FuncId} {args : Array Value} (h : funOk P g = true) (w : World) : (callFunc g args).run P w = .ok (.enter g args) w := by
  unfold funOk at h
  split at h
  · rename_i fn hf
    simp only [Bool.and_eq_true, Bool.not_eq_true'] at h
    have hb : fn.body ≠ none := by intro hh; simp [hh] at h
    have hnm : fn.name ≠ "runtime.NumGoroutine" := by simpa using h.2
    simp [callFunc, hf, hnm, hb]
  · cases h

theorem HCalls.calls {P : Program} {f : FuncId} {args : Array Value} {h : Heap} {R : Value → Heap → Prop} (H : HCalls P f args h R) (hok : funOk P f = true) : ∀ w : World, w.heap = h → Calls P f args w (fun e w' => ∃ v, e = .returned v ∧ R v w'.heap ∧ SameOut w w') := by
  rcases H.holds with ⟨_, h2⟩ | h3
  · exact h2
  · intro w hw
    obtain ⟨v, w', e, _⟩ := h3 w hw
    rw [callFunc_run hok] at e
    cases e

theorem readsOf_run {P : Program} {A : Option Addr} {vs : List Value} {w : World} {size n m c : Nat} (hr : readsOf w.heap A vs) (hl : A ≠ none → vs.length = n * size) : (Builtin.firstCells size n (.slice A m c)).run P w = .ok vs.toArray w := by
  cases A with
  | none => simp only [readsOf] at hr; subst hr; simp [Builtin.firstCells]
  | some a =>
    have := loadCells_run (P := P) hr
    rw [hl (by simp)] at this
    simpa [Builtin.firstCells] using this

theorem xappend_sound {P : Program} {sT xT ty e e2 : TypeId} {w : World} {A B : Option Addr} {n cp m c2 : Nat} {K : Value → Heap → Prop} (he : isSlice P sT = some e) (he2 : isSlice P xT = some e2) (H : XAppend P e w.heap A n cp B m K) :
    ∃ v w', (Builtin.append_ #[sT, xT] ty #[.slice A n cp, .slice B m c2]).run P w = .ok v w' ∧ K v w'.heap ∧ SameOut w w' := by
  obtain ⟨i, zs, xs, ys, hi, hz, ok, h1, h2, h3⟩ := H.holds
  obtain ⟨z, hzc, hzr⟩ := xzero_run hz
  have hneed : n + m ≤ 140737488355328 := Nat.le_trans (Nat.le_mul_of_pos_right _ ok.pos) ok.fit
  by_cases hroom : n + m ≤ cp
  · have hf := readsOf_run (P := P) (c := c2) (m := m) ok.ry ok.ly
    cases A with
    | none =>
      refine ⟨_, w, ?_, h1 hroom rfl, SameOut.refl w⟩
      simp [Builtin.append_, run_underlying (isSlice_u he), run_underlying (isSlice_u he2), sizeOf_run hi, Builtin.lenOf, hroom, hf]
    | some ad =>
      have hset := ok.set hroom ad rfl
      obtain ⟨w', hr, hst, hso⟩ := storeCells_run (P := P) (a := ad.add (n * i.size)) ys 0 w (by simpa using hset.there) (by simpa using hset.free) (List.all_eq_true.1 ok.one)
      have e0 : (ad.add (n * i.size)).add 0 = ad.add (n * i.size) := by simp [Addr.add]
      rw [e0] at hst
      refine ⟨_, w', ?_, h2 hroom ad _ rfl hst, hso⟩
      simp [Builtin.append_, run_underlying (isSlice_u he), run_underlying (isSlice_u he2), sizeOf_run hi, Builtin.lenOf, hroom, hf, hr]
  · have hrx := ok.rx
    have hry := ok.ry
    have hfit := growslice_fits (need := n + m) (old := cp) (bytes := i.bytes) (by omega) ok.fit
    have hb0 : i.bytes ≠ 0 := by have := ok.pos; omega
    have hdrew : ∀ (w2 : World), w2.heap = w.heap → (Builtin.firstCells i.size m (.slice B m c2)).run P w2 = .ok ys.toArray w2 := fun w2 e => readsOf_run (by rw [e]; exact hry) ok.ly
    have hdrew2 : ∀ (w2 : World), w2.heap = w.heap → (Builtin.firstCells i.size n (.slice A n cp)).run P w2 = .ok xs.toArray w2 := fun w2 e => readsOf_run (by rw [e]; exact hrx) ok.lx
    have hcap := grownCap_ge w (n + m) cp e
    refine ⟨.slice (some ⟨w.heap.size, 0, none⟩) (n + m) (grownCap w (n + m) cp e), { w.drew with heap := w.heap.push (.cells (xs ++ ys ++ (List.replicate (grownCap w (n + m) cp e - (n + m)) zs).flatten).toArray e) }, ?_, h3 (by omega) _ _ _ hcap (new_push _ _), ⟨rfl, rfl, rfl⟩⟩
    have h48 : ¬ (Builtin.nextslicecap (n + m) cp * i.bytes > 2 ^ 48) := by omega
    have h63 : ¬ (((n + m : Nat) : Int) > IntKind.i64.max) := by
      have : IntKind.i64.max = 9223372036854775807 := by decide
      omega
    simp only [Builtin.append_, Sem.run_bind, Sem.run_pure, Result.andThen_ok, List.getElem?_toArray, List.getElem?_cons_zero, List.getElem?_cons_succ, run_underlying (isSlice_u he), run_underlying (isSlice_u he2), sizeOf_run hi]
    simp [Builtin.lenOf, hroom, typeInfo, hi, hb0]
    rw [if_neg (by omega), if_neg (by simp [Question.forced]), hdrew2 w.drew rfl]
    simp only [Result.andThen_ok]
    rw [hdrew w.drew rfl]
    simp only [Result.andThen_ok, hzr, newRow_run, hzc, zeroCells_eq]
    simp [grownCap]
    rfl

set_option maxHeartbeats 1000000 in
theorem xeff_sound {P : Program} {N : Nat} {t : Tm} {a : Act} {o : Oper} {w : World} {K : Value → Heap → Prop} {next : Act → World → Prop} {Q : Exit → Act → World → Prop} (hA : Agree N t a) (H : xeff P t o w.heap K)
    (hn : ∀ v w', K v w'.heap → SameOut w w' → next (a.put o.dst v) w') : o.wp P a w next Q := by
  unfold xeff at H
  split at H
  · rename_i T ho
    split at H
    · rename_i zs hz
      obtain ⟨z, hzc, hzr⟩ := xzero_run hz
      refine upon_val (v := .pointer (some ⟨w.heap.size, 0, none⟩)) (w' := { w with heap := w.heap.push (.cells zs.toArray T) }) ?_ (hn _ _ (H _ _ (new_push _ _)) ⟨rfl, rfl, rfl⟩)
      simp [execOp, ho, Instr.alloc, hzr, newVar, newRow_run, hzc]
    · exact H.elim
  · rename_i T x ho
    have h1 := withCells_elim (hA.xev H)
    simp only [Array.toArray_toList] at h1
    refine upon_val (v := .pointer (some ⟨w.heap.size, 0, none⟩)) (w' := { w with heap := w.heap.push (.cells (a.eval x).cells T) }) ?_ (hn _ _ (h1 _ _ (new_push _ _)) ⟨rfl, rfl, rfl⟩)
    simp [execOp, ho, Instr.box, newVar, newRow_run]
  · rename_i T x y ho
    have h1 := hA.xev (hA.xev H)
    split at h1
    · rename_i ad hx
      replace h1 := withCells_elim h1
      unfold xstore at h1
      split at h1
      · rename_i i hi
        obtain ⟨hl, hone, hset, hk⟩ := h1
        obtain ⟨w', hr, hst, hso⟩ := storeCells_run (P := P) (a := ad) (a.eval y).cells.toList 0 w (by simpa using hset.there) (by simpa using hset.free) (List.all_eq_true.1 hone)
        have e0 : ad.add 0 = ad := by simp [Addr.add]
        rw [e0] at hst
        have hrun : (execOp a.eval o).run P w = .ok .skip w' := by
          have hl' : (a.eval y).cells.size = i.size := by simpa using hl
          simp [execOp, ho, hx, Instr.storeAt, Instr.sureAddr, storeVar, sizeOf_run hi, hl', hr]
        unfold Oper.wp
        rw [hrun]
        exact hn _ _ (hk _ hst) hso
      · exact h1.elim
    · exact h1.elim
  · rename_i T n parts ho
    split at H
    · rename_i e he
      split at H
      · rename_i zs hz
        split at H
        · rename_i i hi
          split at H
          · rename_i hb
            simp only [Bool.and_eq_true, beq_iff_eq, decide_eq_true_eq] at hb
            have h1 := Agree.xevs hA H
            split at h1
            · rename_i cs hcs
              replace h1 := forceL_elim h1
              obtain ⟨z, hzc, hzr⟩ := xzero_run hz
              refine upon_val (v := .slice (some ⟨w.heap.size, 0, none⟩) n n) (w' := { w with heap := w.heap.push (.cells cs.toArray e) }) ?_ (hn _ _ (h1 _ _ (new_push _ _)) ⟨rfl, rfl, rfl⟩)
              have e2 : (((parts.toList.map (·.1)).zip (parts.toList.map (·.2) |>.map a.eval))) = (parts.map fun (i, x) => (i, a.eval x)).toList := by
                rw [Array.toList_map]
                simp [List.zip_map', List.map_map]
              have hfill := xfill_eq _ _ _ (xfillS_fill hcs)
              rw [e2] at hfill
              have hnle : ¬ (n * i.size > 2 ^ 24) := by omega
              have hrun : (Instr.buildSlice T n (parts.map fun (i, x) => (i, a.eval x))).run P w = .ok (.slice (some ⟨w.heap.size, 0, none⟩) n n) { w with heap := w.heap.push (.cells cs.toArray e) } := by
                by_cases h0 : n * i.size = 0
                · have hz0 : (List.replicate n zs).flatten = [] := by
                    rw [← List.length_eq_zero_iff, List.length_flatten]
                    simp [hb.1, h0]
                  rw [hz0] at hfill
                  simp only [Instr.buildSlice, Sem.run_bind, run_underlying (isSlice_u he), Result.andThen_ok, sizeOf_run hi, h0]
                  rw [if_neg (by decide : ¬ (0 > 2 ^ 24))]
                  simp only [Sem.run_bind, if_true, Sem.run_pure, Result.andThen_ok]
                  have e3 : (Array.range 0).map (fun x => (#[] : Array Value)[x % (#[] : Array Value).size]!) = ([] : List Value).toArray := by simp
                  rw [e3, hfill]
                  simp [newRow_run]
                · simp only [Instr.buildSlice, Sem.run_bind, run_underlying (isSlice_u he), Result.andThen_ok, sizeOf_run hi, if_neg hnle, if_neg h0, hzr, Sem.run_pure, hzc]
                  have e3 := made_eq zs n
                  rw [hb.1] at e3
                  simp only [madeCells] at e3
                  rw [e3, hfill]
                  simp [newRow_run]
              simp only [execOp, ho]
              rw [Sem.run_bind, hrun]
              rfl
            · exact h1.elim
          · exact H.elim
        · exact H.elim
      · exact H.elim
    · exact H.elim
  · rename_i T l c ho
    split at H
    · rename_i e he
      split at H
      · rename_i zs hz
        split at H
        · rename_i i hi
          split at H
          · rename_i hb
            simp only [beq_iff_eq] at hb
            have h1 := hA.xev (hA.xev H)
            split at h1
            · rename_i k1 lv k2 cv hl hc
              obtain ⟨h0, hlc, hby, h63, hk⟩ := h1
              obtain ⟨z, hzc, hzz⟩ : ∃ z, z.cells = zs.toArray ∧ i.zero = some z := by
                unfold xzero at hz
                rw [hi] at hz
                simp only at hz
                split at hz
                · rename_i z hzz
                  refine ⟨z, ?_, hzz⟩
                  split at hz
                  · cases hz; rfl
                  · rename_i hnn
                    cases hz
                    cases z <;> first | rfl | (rename_i cs; exact absurd rfl (hnn cs.toList))
                · cases hz
              have hm := run_make (P := P) w T e i z (isSlice_u he) hi hzz k1 k2 lv cv h0 hlc (by omega) h63
              have hcells : madeCells z.cells (cv.toNat * i.size) = (List.replicate cv.toNat zs).flatten.toArray := by
                have := made_eq zs cv.toNat
                rw [hb] at this
                rw [hzc]
                exact this
              rw [hcells] at hm
              refine upon_val (v := .slice (some ⟨w.heap.size, 0, none⟩) lv.toNat cv.toNat) (w' := { w with heap := w.heap.push (.cells (List.replicate cv.toNat zs).flatten.toArray e) }) ?_ (hn _ _ (hk _ _ (new_push _ _)) ⟨rfl, rfl, rfl⟩)
              simp only [execOp, ho, hl, hc]
              rw [Sem.run_bind, hm]
              rfl
            · exact h1.elim
          · exact H.elim
        · exact H.elim
      · exact H.elim
    · exact H.elim
  · rename_i c ho
    split at H
    · rename_i f hc
      have h1 := hA.xev H
      split at h1
      · rename_i g first cap hf
        have h2 := Agree.xevs hA h1
        have e1 : (first ++ c.args.map a.eval) ++ cap = (first.toList ++ c.args.toList.map a.eval ++ cap.toList).toArray := by
          apply Array.ext'; simp
        rcases h2.holds with ⟨hok, hcalls⟩ | hext
        rotate_left
        · obtain ⟨v, w', hr, hso, hk⟩ := hext w rfl
          refine upon_val (v := v) (w' := w') ?_ (hn _ _ hk hso)
          simp only [execOp, ho, Sem.run_bind, resolve, hc, hf, Deferred.ofValue, Sem.run_pure, Result.andThen_ok, invoke]
          rw [e1, hr]
        have hrun : (execOp a.eval o).run P w = .ok (.enter g (first.toList ++ c.args.toList.map a.eval ++ cap.toList).toArray) w := by
          simp only [execOp, ho, Sem.run_bind, resolve, hc, hf, Deferred.ofValue, Sem.run_pure, Result.andThen_ok, invoke]
          rw [e1, callFunc_run hok]
        unfold Oper.wp
        rw [hrun]
        show Calls P g _ w _
        refine (hcalls w rfl).mono ?_
        rintro ed w' ⟨v, rfl, hk, hso⟩
        exact hn _ _ hk hso
      · exact h1.elim
    · rename_i hc
      split at H
      · rename_i sT xT hT
        have hT' : c.argTypes = #[sT, xT] := by rw [← Array.toArray_toList (xs := c.argTypes), hT]
        split at H
        · rename_i e e2 he he2
          have h1 := Agree.xevs hA H
          split at h1
          · rename_i s x hvs
            have hargs : c.args.map a.eval = #[s, x] := by rw [amap, hvs]
            split at h1
            · rename_i A n cp
              split at h1
              · rename_i B m c2
                have hrun : (execOp a.eval o).run P w = ((Builtin.append_ #[sT, xT] o.type #[.slice A n cp, .slice B m c2]).run P w).andThen fun v w' => .ok (.value v) w' := by
                  simp only [execOp, ho, Sem.run_bind, resolve, hc, Sem.run_pure, Result.andThen_ok, invoke, builtin, hargs, hT']
                obtain ⟨v, w', hr, hk, hso⟩ := xappend_sound (sT := sT) (xT := xT) (ty := o.type) (c2 := c2) he he2 h1
                rw [hr] at hrun
                exact upon_val hrun (hn _ _ hk hso)
              · exact h1.elim
            · exact h1.elim
          · exact h1.elim
        · obtain ⟨v, w', hr, hso, hk⟩ := (Agree.xevs hA H).holds w rfl
          have e : (c.args.toList.map a.eval).toArray = c.args.map a.eval := by apply Array.ext'; simp
          rw [e] at hr
          refine upon_val (v := v) (w' := w') ?_ (hn _ _ hk hso)
          simp only [execOp, ho, Sem.run_bind, resolve, hc, Sem.run_pure, Result.andThen_ok, invoke, builtin, hr]
        · exact H.elim
      · exact H.elim
    · rename_i hc
      obtain ⟨v, w', hr, hso, hk⟩ := (Agree.xevs hA H).holds w rfl
      have e : (c.args.toList.map a.eval).toArray = c.args.map a.eval := by apply Array.ext'; simp
      rw [e] at hr
      refine upon_val (v := v) (w' := w') ?_ (hn _ _ hk hso)
      simp only [execOp, ho, Sem.run_bind, resolve, hc, Sem.run_pure, Result.andThen_ok, invoke, builtin, hr]
    · rename_i hc
      obtain ⟨v, w', hr, hso, hk⟩ := (Agree.xevs hA H).holds w rfl
      have e : (c.args.toList.map a.eval).toArray = c.args.map a.eval := by apply Array.ext'; simp
      rw [e] at hr
      refine upon_val (v := v) (w' := w') ?_ (hn _ _ hk hso)
      simp only [execOp, ho, Sem.run_bind, resolve, hc, Sem.run_pure, Result.andThen_ok, invoke, builtin, hr]
    · rename_i hc
      obtain ⟨v, w', hr, hso, hk⟩ := (Agree.xevs hA H).holds w rfl
      have e : (c.args.toList.map a.eval).toArray = c.args.map a.eval := by apply Array.ext'; simp
      rw [e] at hr
      refine upon_val (v := v) (w' := w') ?_ (hn _ _ hk hso)
      simp only [execOp, ho, Sem.run_bind, resolve, hc, Sem.run_pure, Result.andThen_ok, invoke, builtin, hr]
    · exact H.elim
  · rename_i T r ho
    split at H
    · obtain ⟨v, w', hr, hso, hk⟩ := H.holds w rfl
      refine upon_val (v := v) (w' := w') ?_ (hn _ _ hk hso)
      simp only [execOp, ho, Option.map_none, Sem.run_bind, Sem.run_pure, Result.andThen_ok, hr]
    · exact H.elim
  · rename_i T m k x ho
    obtain ⟨w', hr, hso, hk⟩ := (hA.xev (hA.xev (hA.xev H))).holds w rfl
    have hrun : (execOp a.eval o).run P w = .ok .skip w' := by
      simp only [execOp, ho, Sem.run_bind, Sem.run_pure, Result.andThen_ok, hr]
    unfold Oper.wp
    rw [hrun]
    exact hn _ _ hk hso
  · rename_i s d x ho
    obtain ⟨v, w', hr, hso, hk⟩ := (hA.xev H).holds w rfl
    refine upon_val (v := v) (w' := w') ?_ (hn _ _ hk hso)
    simp only [execOp, ho, Sem.run_bind, Sem.run_pure, Result.andThen_ok, hr]
  · rename_i op T x y y2 ho
    obtain ⟨xf, yf, ha, hb, hop, hk⟩ := (hA.xev (hA.xev H)).holds
    have key : ∃ r w', (binOp op T (.float .f64 xf) (.float .f64 yf)).run P w = .ok (.float .f64 r) w' ∧ SameOut w w' ∧ w'.heap = w.heap ∧ ∀ z, (match op with | .add => FloatKind.f64.format.add xf yf | .sub => FloatKind.f64.format.sub xf yf | .mul => FloatKind.f64.format.mul xf yf | .quo => FloatKind.f64.format.div xf yf | _ => none) = some z → r = z := by
      rcases hop with rfl | rfl | rfl | rfl
      · cases e : FloatKind.f64.format.add xf yf with
        | some z => exact ⟨z, w, by simp [binOp, Op.floatArith, e], SameOut.refl w, rfl, fun z' hz => by simpa using hz⟩
        | none =>
          obtain ⟨n, w', hr, so, hh⟩ := choose_run (P := P) (.nanBits .f64 xf yf) w
          exact ⟨n, w', by simp [binOp, Op.floatArith, e, Sem.run_bind, hr], so, hh, fun z' hz => by simp at hz⟩
      · cases e : FloatKind.f64.format.sub xf yf with
        | some z => exact ⟨z, w, by simp [binOp, Op.floatArith, e], SameOut.refl w, rfl, fun z' hz => by simpa using hz⟩
        | none =>
          obtain ⟨n, w', hr, so, hh⟩ := choose_run (P := P) (.nanBits .f64 xf yf) w
          exact ⟨n, w', by simp [binOp, Op.floatArith, e, Sem.run_bind, hr], so, hh, fun z' hz => by simp at hz⟩
      · cases e : FloatKind.f64.format.mul xf yf with
        | some z => exact ⟨z, w, by simp [binOp, Op.floatArith, e], SameOut.refl w, rfl, fun z' hz => by simpa using hz⟩
        | none =>
          obtain ⟨n, w', hr, so, hh⟩ := choose_run (P := P) (.nanBits .f64 xf yf) w
          exact ⟨n, w', by simp [binOp, Op.floatArith, e, Sem.run_bind, hr], so, hh, fun z' hz => by simp at hz⟩
      · cases e : FloatKind.f64.format.div xf yf with
        | some z => exact ⟨z, w, by simp [binOp, Op.floatArith, e], SameOut.refl w, rfl, fun z' hz => by simpa using hz⟩
        | none =>
          obtain ⟨n, w', hr, so, hh⟩ := choose_run (P := P) (.nanBits .f64 xf yf) w
          exact ⟨n, w', by simp [binOp, Op.floatArith, e, Sem.run_bind, hr], so, hh, fun z' hz => by simp at hz⟩
    obtain ⟨r, w', hr, hso, hh, hz⟩ := key
    refine upon_val (v := .float .f64 r) (w' := w') ?_ (hn _ _ (by rw [hh]; exact hk r hz) hso)
    simp only [execOp, ho, ha, hb, Sem.run_bind, Sem.run_pure, Result.andThen_ok, eqGuard_run op T x y (.float .f64 xf) (.float .f64 yf) (by simp) (by simp), hr]
  · rename_i T m k ho
    obtain ⟨v, w', hr, hso, hk⟩ := (hA.xev (hA.xev H)).holds w rfl
    refine upon_val (v := v) (w' := w') ?_ (hn _ _ hk hso)
    simp only [execOp, ho, Sem.run_bind, Sem.run_pure, Result.andThen_ok, hr]
  · rename_i T m k x ho
    obtain ⟨w', hr, hso, hk⟩ := (hA.xev (hA.xev (hA.xev H))).holds w rfl
    have hrun : (execOp a.eval o).run P w = .ok .skip w' := by
      simp only [execOp, ho, Sem.run_bind, Sem.run_pure, Result.andThen_ok, hr]
    unfold Oper.wp
    rw [hrun]
    exact hn _ _ hk hso
  · rename_i T x ho
    obtain ⟨v, w', hr, hso, hk⟩ := (hA.xev H).holds w rfl
    refine upon_val (v := v) (w' := w') ?_ (hn _ _ hk hso)
    simp only [execOp, ho, Sem.run_bind, Sem.run_pure, Result.andThen_ok, hr]
  · rename_i x s ho
    obtain ⟨v, w', hr, hso, hk⟩ := (hA.xev H).holds w rfl
    refine upon_val (v := v) (w' := w') ?_ (hn _ _ hk hso)
    simp only [execOp, ho, Sem.run_bind, Sem.run_pure, Result.andThen_ok, hr]
  · rename_i x ho
    obtain ⟨v, w', hr, hso, hk⟩ := (hA.xev H).holds w rfl
    refine upon_val (v := v) (w' := w') ?_ (hn _ _ hk hso)
    simp only [execOp, ho, Sem.run_bind, Sem.run_pure, Result.andThen_ok, hr]
  · exact H.elim

/-! ### Regions -/
def convEff (P : Program) (src dst : TypeId) : Bool :=
  match P.underlying src with
  | some .string => match P.underlying dst with | some (.slice _) => true | _ => false
  | some (.slice _) => match P.underlying dst with | some .string => true | _ => false
  | _ => false
def lenReads (P : Program) (ts : List TypeId) : Bool :=
  match ts with
  | [T] => match P.underlying T with | some (.map _ _) => true | _ => false
  | _ => false
def floatEff (P : Program) (op : BinOp) (T : TypeId) : Bool :=
  match P.underlying T with
  | some (.float _) => (match op with | .add => true | .sub => true | .mul => true | .quo => true | _ => false)
  | _ => false
/-- 0: touches no memory; 1: reads; 2: else. -/
def opKind (P : Program) (o : Oper) : Nat :=
  match o.op with
  | .binOp op T _ _ _ => bif floatEff P op T then 2 else 0
  | .move _ | .assign _ | .pick .. | .nilCheck _ | .unOp .. | .fieldAddr .. | .field .. | .indexAddr .. | .index .. | .extract .. | .slice .. | .build .. | .makeFunc .. | .makeInterface .. => 0
  | .convert s d _ => bif convEff P s d then 2 else 0
  | .load .. => 1
  | .lookup .. => 1
  | .call c => match c.callee with
    | .builtin .len => bif lenReads P c.argTypes.toList then 1 else 0
    | .builtin .min | .builtin .max => 0
    | _ => 2
  | _ => 2

def xop (P : Program) (t : Tm) (o : Oper) (h : Heap) (K : Value → Heap → Prop) : Prop :=
  match opKind P o with
  | 0 => xpure P t o fun v => K v h
  | 1 => xread P t o h fun v _ => K v h
  | _ => xeff P t o h K
def dstAt (all : List Oper) (j : Nat) : Option Nat := match all[j]? with | some o => o.dst | none => none
def xguard (all : List Oper) (t : Tm) (o : Oper) (run skip : Tm → Prop) : Prop :=
  match o.guard with
  | none => run t
  | some (j, want) => match dstAt all j with
    | none => False
    | some d => match t d with
      | some (.bool b) => match want with
        | true => xif b (run (upd t d (some (.bool true)))) (skip (upd t d (some (.bool false))))
        | false => xif b (skip (upd t d (some (.bool true)))) (run (upd t d (some (.bool false))))
      | some (.tuple _) => skip t
      | _ => False
/-- Along the list; by the recursor itself, so that whoever unfolds it comes to the same terms. -/
def xops (P : Program) (all : List Oper) (l : List Oper) (K : Tm → Heap → Prop) : Tm → Heap → Prop :=
  List.rec (motive := fun _ => Tm → Heap → Prop) K
    (fun o _ go t h => xguard all t o (fun t => xop P t o h fun v h' => go (tput t o.dst (some v)) h') (fun t => go (tput t o.dst (some Go.undef)) h)) l

theorem xop_sound {P : Program} {N : Nat} {t : Tm} {a : Act} {o : Oper} {w : World} {K : Value → Heap → Prop} {next : Act → World → Prop} {Q : Exit → Act → World → Prop} (hA : Agree N t a) (H : xop P t o w.heap K)
    (hn : ∀ v w', K v w'.heap → SameOut w w' → next (a.put o.dst v) w') : o.wp P a w next Q := by
  unfold xop at H
  split at H
  · obtain ⟨v, hr, hk⟩ := xpure_sound hA H
    exact upon_val (hr w) (hn _ _ hk (SameOut.refl w))
  · obtain ⟨v, F, hF, hr, hk⟩ := xread_sound hA H
    exact upon_val (hr w hF) (hn _ _ hk (SameOut.refl w))
  · exact xeff_sound hA H hn

theorem Agree.know {N : Nat} {t : Tm} {a : Act} (h : Agree N t a) {d : Nat} {v : Value} (hv : t d = some v) : Agree N (upd t d (some v)) a :=
  h.forget fun i u e => by
    unfold upd at e
    cases hb : Nat.beq i d <;> rw [hb] at e
    · exact e
    · have : i = d := Nat.eq_of_beq_eq_true hb
      subst this
      cases e
      exact hv

theorem xguard_sound {N : Nat} {ops : Array Oper} {t : Tm} {a : Act} {o : Oper} {run skip : Tm → Prop} (hA : Agree N t a) (H : xguard ops.toList t o run skip) :
    (Region.wanted o (yielded ops a.tmps) = true ∧ ∃ t', Agree N t' a ∧ run t') ∨ (Region.wanted o (yielded ops a.tmps) = false ∧ ∃ t', Agree N t' a ∧ skip t') := by
  unfold xguard at H
  split at H
  · rename_i hg
    exact .inl ⟨by simp [Region.wanted, hg], t, hA, H⟩
  · rename_i j want hg
    split at H
    · exact H.elim
    · rename_i d hd
      split at H
      · rename_i b hb
        have hy : yielded ops a.tmps j = some b := by
          have hd' : (ops[j]?).bind (·.dst) = some d := by
            unfold dstAt at hd
            split at hd
            · rename_i o' ho'
              have : ops[j]? = some o' := by simpa using ho'
              rw [this]; exact hd
            · cases hd
          unfold yielded
          rw [hd']
          simp [hA.val d _ hb]
        have hk := hA.know hb
        split at H
        · cases b
          · exact .inr ⟨by simp [Region.wanted, hg, hy], _, hk, H⟩
          · exact .inl ⟨by simp [Region.wanted, hg, hy], _, hk, H⟩
        · cases b
          · exact .inl ⟨by simp [Region.wanted, hg, hy], _, hk, H⟩
          · exact .inr ⟨by simp [Region.wanted, hg, hy], _, hk, H⟩
      · rename_i vs hb
        have hy : yielded ops a.tmps j = none := by
          have hd' : (ops[j]?).bind (·.dst) = some d := by
            unfold dstAt at hd
            split at hd
            · rename_i o' ho'
              have : ops[j]? = some o' := by simpa using ho'
              rw [this]; exact hd
            · cases hd
          unfold yielded
          rw [hd']
          simp [hA.val d _ hb]
        exact .inr ⟨by simp [Region.wanted, hg, hy], _, hA, H⟩
      · exact H.elim

theorem xops_sound {P : Program} {N : Nat} {ops : Array Oper} {Q : Exit → Act → World → Prop} {K : Tm → Heap → Prop} {W : World} : ∀ (l : List Oper) (t : Tm) (a : Act) (w : World), (∀ o ∈ l, ∀ d, o.dst = some d → d < N) → Agree N t a → SameOut W w → xops P ops.toList l K t w.heap →
    (∀ t a w, Agree N t a → SameOut W w → K t w.heap → Q .normal a w) → wpList P ops Q l a w := by
  intro l
  induction l with
  | nil => intro t a w _ hA hS H hQ; exact hQ t a w hA hS H
  | cons o l ih =>
    intro t a w hd hA hS H hQ
    have hd' : ∀ o ∈ l, ∀ d, o.dst = some d → d < N := fun o ho => hd o (by simp [ho])
    have hdo := hd o (by simp)
    simp only [wpList]
    replace H : xguard ops.toList t o (fun t => xop P t o w.heap fun v h' => xops P ops.toList l K (tput t o.dst (some v)) h') (fun t => xops P ops.toList l K (tput t o.dst (some Go.undef)) w.heap) := H
    rcases xguard_sound hA H with ⟨hw, t', hA', hr⟩ | ⟨hw, t', hA', hr⟩
    · rw [if_pos hw]
      left
      exact xop_sound hA' hr fun v w' hk hs => ih _ _ _ hd' (hA'.put hdo v) (hS.trans hs) hk hQ
    · rw [if_neg (by simp [hw])]
      exact ih _ _ _ hd' (hA'.put hdo _) hS hr hQ

/-! ### Regions whose order is drawn -/
section draw
variable {P : Program} {ops : Array Oper} {Q : Exit → Act → World → Prop}

/-- Which operations stand ahead of which, by their numbers' bits. -/
def prec (bits : List Nat) (i k : Nat) : Bool := (bits.getD k 0).testBit i
def bitsOk (ops : Array Oper) (bits : List Nat) : Bool :=
  bits.length == ops.size && (List.range ops.size).all fun k => match ops[k]? with
    | some o => bits.getD k 0 == o.after.toList.foldl (fun s e => if Region.binds .any e then s ||| 2 ^ e.on ||| bits.getD e.on 0 else s) 0
    | none => true

theorem foldl_bits (bits : List Nat) (i : Nat) : ∀ (l : List Edge) (s : Nat), (l.foldl (fun s e => if Region.binds .any e then s ||| 2 ^ e.on ||| bits.getD e.on 0 else s) s).testBit i = true →
    s.testBit i = true ∨ ∃ e ∈ l, Region.binds .any e = true ∧ (e.on = i ∨ (bits.getD e.on 0).testBit i = true) := by
  intro l
  induction l with
  | nil => intro s h; exact .inl h
  | cons e l ih =>
    intro s h
    simp only [List.foldl_cons] at h
    rcases ih _ h with h | ⟨e', he', hb, h⟩
    · split at h
      · rename_i hb
        simp only [Nat.testBit_or, Bool.or_eq_true] at h
        rcases h with (h | h) | h
        · exact .inl h
        · refine .inr ⟨e, by simp, hb, .inl ?_⟩
          rw [Nat.testBit_two_pow] at h
          simpa using h
        · exact .inr ⟨e, by simp, hb, .inr h⟩
      · exact .inl h
    · exact .inr ⟨e', by simp [he'], hb, h⟩

theorem prec_step {bits : List Nat} (hb : bitsOk ops bits = true) {i k : Nat} (h : prec bits i k = true) : ∃ o, ops[k]? = some o ∧ ∃ e ∈ o.after, Region.binds .any e = true ∧ (e.on = i ∨ prec bits i e.on = true) := by
  simp only [bitsOk, Bool.and_eq_true, beq_iff_eq, List.all_eq_true, List.mem_range] at hb
  obtain ⟨hl, hall⟩ := hb
  have hk : k < ops.size := by
    rcases Nat.lt_or_ge k ops.size with hk | hk
    · exact hk
    · unfold prec at h
      rw [List.getD_eq_getElem?_getD, List.getElem?_eq_none (by omega)] at h
      simp at h
  have h1 := hall k hk
  have ho : ops[k]? = some ops[k] := Array.getElem?_eq_getElem hk
  rw [ho] at h1
  simp only [beq_iff_eq] at h1
  unfold prec at h
  rw [h1] at h
  rcases foldl_bits bits i _ _ h with h | ⟨e, he, hb, h⟩
  · simp at h
  · exact ⟨_, ho, e, by simpa using he, hb, h⟩

def Closed (bits : List Nat) (listed : Array Bool) : Prop := ∀ k, listed.getD k false = true → ∀ i, prec bits i k = true → listed.getD i false = true
/-- Whatever order is picked from here on; each operation keeps the facts of such readings as need not stand ahead of it. -/
def wpAnyX (P : Program) (ops : Array Oper) (bits : List Nat) (Q : Exit → Act → World → Prop) (held : List (Nat × (World → Prop))) : Nat → Array Bool → Act → World → Prop
  | 0, listed, a, w => Region.ready .any ops listed = [] ∧ Q .normal a w
  | fuel + 1, listed, a, w =>
    (Region.ready .any ops listed = [] → Q .normal a w) ∧
    ∀ i ∈ Region.ready .any ops listed, wpOp P ops Q i (fun a' w' => (∀ p ∈ held, prec bits p.1 i = false → p.2 w → p.2 w') ∧ wpAnyX P ops bits Q held fuel (listed.setIfInBounds i true) a' w') a w

theorem wpAny_of_X {bits : List Nat} {held : List (Nat × (World → Prop))} : ∀ (fuel : Nat) (listed : Array Bool) (a : Act) (w : World), wpAnyX P ops bits Q held fuel listed a w → wpAny P .any ops Q fuel listed a w
  | 0, _, _, _, h => h
  | fuel + 1, _, _, _, h => ⟨h.1, fun i hi => wpOp_mono (fun a' w' h' => wpAny_of_X fuel _ a' w' h'.2) (h.2 i hi)⟩

theorem getD_set {listed : Array Bool} {i j : Nat} (h : (listed.setIfInBounds i true).getD j false = true) : j = i ∨ listed.getD j false = true := by
  by_cases e : i = j
  · exact .inl e.symm
  · rw [getD_set_ne false e] at h; exact .inr h

theorem closed_set {bits : List Nat} (hb : bitsOk ops bits = true) {listed : Array Bool} (hc : Closed bits listed) {j : Nat} (hj : j ∈ Region.ready .any ops listed) : Closed bits (listed.setIfInBounds j true) := by
  intro k hk i hp
  obtain ⟨hun, oj, hoj, hall⟩ := mem_ready.1 hj
  rcases getD_set hk with rfl | hk
  · obtain ⟨o, ho, e, he, hbn, h⟩ := prec_step hb hp
    rw [hoj] at ho; cases ho
    have h1 := hall e he hbn
    rcases h with rfl | h
    · exact getD_set_true h1
    · exact getD_set_true (hc _ h1 _ h)
  · exact getD_set_true (hc k hk i hp)

theorem prec_ready {bits : List Nat} (hb : bitsOk ops bits = true) {listed : Array Bool} (hc : Closed bits listed) {i j : Nat} (hi : i ∈ Region.ready .any ops listed) (hj : j ∈ Region.ready .any ops listed) : prec bits i j = false := by
  cases hp : prec bits i j with
  | false => rfl
  | true =>
    exfalso
    obtain ⟨hun, oi, hoi, _⟩ := mem_ready.1 hi
    have hi' : listed.getD i false = false := by
      cases h : listed.getD i false with
      | false => rfl
      | true =>
        rcases Nat.lt_or_ge i listed.size with h' | h'
        · simp [h'] at hun h; rw [hun] at h; cases h
        · simp [Array.getElem?_eq_none h'] at h
    obtain ⟨_, oj, hoj, hall⟩ := mem_ready.1 hj
    obtain ⟨o, ho, e, he, hbn, h⟩ := prec_step hb hp
    rw [hoj] at ho; cases ho
    have h1 := hall e he hbn
    rcases h with rfl | h
    · rw [hi'] at h1; cases h1
    · have := hc _ h1 _ h
      rw [hi'] at this; cases this

/-- An operation that reads (or touches nothing) may be taken first. -/
theorem wpAnyX_first {bits : List Nat} (hb : bitsOk ops bits = true) {i : Nat} {oi : Oper} {v : Value} {G : World → Prop} (hi : ops[i]? = some oi) (hsel : ∀ (j : Nat) (o : Oper) cs b, ops[j]? = some o → o.op ≠ .select cs b)
    (hQ : ∀ c a w, Q (.panic c) (a.put oi.dst v) w → Q (.panic c) a w) :
    ∀ (fuel : Nat) (listed : Array Bool) (held : List (Nat × (World → Prop))) (a : Act) (w : World), Closed bits listed →
      (∀ j oj, ops[j]? = some oj → j ≠ i → listed.getD j true = false → (∀ e ∈ oj.after, Region.binds .any e = true → e.on ≠ i) → oi.apart ops oj = true) →
      i ∈ Region.ready .any ops listed → YieldsIf P ops G oi v a → G w →
      wpAnyX P ops bits Q ((i, G) :: held) fuel (listed.setIfInBounds i true) (a.put oi.dst v) w → wpAnyX P ops bits Q held (fuel + 1) listed a w := by
  intro fuel
  induction fuel with
  | zero =>
    intro listed held a w hcl _ hr hy hS H
    refine ⟨fun h => (by rw [h] at hr; cases hr), fun j hj => ?_⟩
    by_cases hji : j = i
    · subst hji; exact hy.wpOp hi hS ⟨fun _ _ _ h => h, H⟩
    · have := ready_mono hj hji
      rw [H.1] at this
      cases this
  | succ fuel ih =>
    intro listed held a w hcl hfree hr hy hS H
    have weak : ∀ (fuel : Nat) (listed : Array Bool) (a : Act) (w : World), wpAnyX P ops bits Q ((i, G) :: held) fuel listed a w → wpAnyX P ops bits Q held fuel listed a w := by
      intro fuel
      induction fuel with
      | zero => exact fun _ _ _ h => h
      | succ fuel ih => exact fun listed a w h => ⟨h.1, fun j hj => wpOp_mono (fun a' w' h' => ⟨fun p hp => h'.1 p (by simp [hp]), ih _ _ _ h'.2⟩) (h.2 j hj)⟩
    refine ⟨fun h => (by rw [h] at hr; cases hr), fun j hj => ?_⟩
    by_cases hji : j = i
    · subst hji; exact hy.wpOp hi hS ⟨fun _ _ _ h => h, weak _ _ _ _ H⟩
    · have h1 := H.2 j (ready_mono hj hji)
      obtain ⟨hjun, oj, hoj, hall⟩ := mem_ready.1 hj
      have hnot : ∀ e ∈ oj.after, Region.binds .any e = true → e.on ≠ i := fun e he hb heq => by
        have h1 := hall e he hb
        have h0 := (mem_ready.1 hr).1
        rw [heq] at h1
        rcases Nat.lt_or_ge i listed.size with h' | h'
        · simp [h'] at h0 h1; rw [h0] at h1; cases h1
        · simp [Array.getElem?_eq_none h'] at h1
      have h2 := wpOp_putIf hoj (hfree j oj hoj hji hjun hnot) (fun cs b => hsel i oi cs b hi) (fun cs b => hsel j oj cs b hoj) hQ hy h1
      have hfree' : ∀ k ok, ops[k]? = some ok → k ≠ i → (listed.setIfInBounds j true).getD k true = false →
          (∀ e ∈ ok.after, Region.binds .any e = true → e.on ≠ i) → oi.apart ops ok = true := fun k ok hk hki hun hno => by
        refine hfree k ok hk hki ?_ hno
        by_cases hjk : j = k
        · subst hjk; exact hjun
        · rw [getD_set_ne true hjk] at hun; exact hun
      refine wpOp_mono (fun a' w' h3 => ?_) h2
      obtain ⟨hy', hpost, hX⟩ := h3
      refine ⟨fun p hp => hpost p (by simp [hp]), ?_⟩
      have hG : G w' := hpost (i, G) (by simp) (prec_ready hb hcl hr hj) hS
      refine ih (listed.setIfInBounds j true) held a' w' (closed_set hb hcl hj) hfree' (ready_mono hr (Ne.symm hji)) hy' hG ?_
      rw [Array.setIfInBounds_comm _ _ hji]
      exact hX
end draw

def heldOk (hs : List Nat) : List (Nat × (Heap → Prop)) → Heap → Prop
  | [], _ => True
  | p :: ps, h => match hs.contains p.1 with
    | true => p.2 h ∧ heldOk hs ps h
    | false => heldOk hs ps h
def xheld (hs : List Nat) (held : List (Nat × (Heap → Prop))) (h : Heap) (K : Prop) : Prop := match hs with | [] => K | _ :: _ => heldOk hs held h ∧ K
/-- In which order a drawn region is walked: one operation behind the other; where two that do something stand free of each other, both ways. -/
inductive OT where
  | nil
  | op (i : Nat) (hs : List Nat) (rest : OT)
  | alt (a b : OT)
def OT.heads : OT → List Nat
  | .nil => []
  | .op i _ _ => [i]
  | .alt a b => a.heads ++ b.heads
def xdraw (P : Program) (all : List Oper) (l : OT) (K : Tm → Heap → Prop) : List (Nat × (Heap → Prop)) → Tm → Heap → Prop :=
  OT.rec (motive := fun _ => List (Nat × (Heap → Prop)) → Tm → Heap → Prop) (fun _ t h => K t h)
    (fun i hs _ go held t h => match all[i]? with
      | none => False
      | some o => xguard all t o
          (fun t => match opKind P o with
            | 0 => xpure P t o fun v => go held (tput t o.dst (some v)) h
            | 1 => xread P t o h fun v G => go ((i, G) :: held) (tput t o.dst (some v)) h
            | _ => xeff P t o h fun v h' => xheld hs held h' (go held (tput t o.dst (some v)) h'))
          (fun t => match opKind P o with
            | 1 => go ((i, fun _ => True) :: held) (tput t o.dst (some Go.undef)) h
            | _ => go held (tput t o.dst (some Go.undef)) h))
    (fun _ _ ga gb held t h => ga held t h ∧ gb held t h) l
/-- 'lone': of all that is ready this one alone is to be taken; else it is one of several that a node above names. -/
def okOrd (P : Program) (ops : Array Oper) (bits : List Nat) : OT → Bool → Nat → Array Bool → List Nat → Bool
  | .nil, lone, _, listed, _ => lone && (Region.ready .any ops listed).isEmpty
  | .op i hs rest, lone, n, listed, reads => match n with
    | 0 => false
    | n + 1 => match ops[i]? with
      | none => false
      | some o => (Region.ready .any ops listed).contains i &&
          (match opKind P o with
            | 0 => lone && Region.free .any ops listed i && okOrd P ops bits rest true n (listed.setIfInBounds i true) reads
            | 1 => lone && Region.free .any ops listed i && okOrd P ops bits rest true n (listed.setIfInBounds i true) (i :: reads)
            | _ => (!lone || Region.ready .any ops listed == [i]) && reads.all (fun r => hs.contains r || prec bits r i) && okOrd P ops bits rest true n (listed.setIfInBounds i true) reads)
  | .alt x y, lone, n, listed, reads => Nat.blt 0 n && (!lone || (!(Region.ready .any ops listed).isEmpty && (Region.ready .any ops listed).all fun j => x.heads.contains j || y.heads.contains j)) &&
      okOrd P ops bits x false n listed reads && okOrd P ops bits y false n listed reads

theorem heldOk_spec {hs : List Nat} : ∀ {held : List (Nat × (Heap → Prop))} {h : Heap}, heldOk hs held h → ∀ p ∈ held, hs.contains p.1 = true → p.2 h := by
  intro held
  induction held with
  | nil => intro h _ p hp; cases hp
  | cons q qs ih =>
    intro h H p hp hc
    simp only [heldOk] at H
    split at H
    · rename_i hq
      rcases List.mem_cons.1 hp with rfl | hp
      · exact H.1
      · exact ih H.2 p hp hc
    · rename_i hq
      rcases List.mem_cons.1 hp with rfl | hp
      · rw [hq] at hc; cases hc
      · exact ih H p hp hc
theorem xheld_spec {hs : List Nat} {held : List (Nat × (Heap → Prop))} {h : Heap} {K : Prop} (H : xheld hs held h K) : (∀ p ∈ held, hs.contains p.1 = true → p.2 h) ∧ K := by
  cases hs with
  | nil => exact ⟨fun p _ hc => by simp at hc, H⟩
  | cons x xs => exact ⟨heldOk_spec H.1, H.2⟩

def liftHeld (held : List (Nat × (Heap → Prop))) : List (Nat × (World → Prop)) := held.map fun p => (p.1, fun w => p.2 w.heap)

section
variable {P : Program} {ops : Array Oper} {Q : Exit → Act → World → Prop}

theorem xdraw_sound {N : Nat} {bits : List Nat} {K : Tm → Heap → Prop} {W : World} (hb : bitsOk ops bits = true) (hsel : Region.noSelect ops = true) (hdst : ∀ o ∈ ops.toList, ∀ d, o.dst = some d → d < N)
    (hQp : ∀ c a w, ¬ Q (.panic c) a w) (hQ : ∀ t a w, Agree N t a → SameOut W w → K t w.heap → Q .normal a w) :
    ∀ (ord : OT) (lone : Bool) (n : Nat) (held : List (Nat × (Heap → Prop))) (t : Tm) (a : Act) (w : World) (listed : Array Bool), okOrd P ops bits ord lone n listed (held.map (·.1)) = true → Closed bits listed → Agree N t a → SameOut W w →
      xdraw P ops.toList ord K held t w.heap →
      (lone = true → wpAnyX P ops bits Q (liftHeld held) n listed a w) ∧
      (lone = false → ∀ j ∈ ord.heads, ∃ m, n = m + 1 ∧ wpOp P ops Q j (fun a' w' => (∀ p ∈ liftHeld held, prec bits p.1 j = false → p.2 w → p.2 w') ∧ wpAnyX P ops bits Q (liftHeld held) m (listed.setIfInBounds j true) a' w') a w) := by
  intro ord
  induction ord with
  | nil =>
    intro lone n held t a w listed hok hcl hA hS H
    simp only [okOrd, Bool.and_eq_true, List.isEmpty_iff] at hok
    obtain ⟨hlone, hok⟩ := hok
    have hq : Q .normal a w := hQ t a w hA hS H
    refine ⟨fun _ => ?_, fun h => (by rw [hlone] at h; cases h)⟩
    cases n with
    | zero => exact ⟨hok, hq⟩
    | succ n => exact ⟨fun _ => hq, by rw [hok]; simp⟩
  | alt x y ihx ihy =>
    intro lone n held t a w listed hok hcl hA hS H
    simp only [okOrd, Bool.and_eq_true] at hok
    obtain ⟨⟨⟨hn, hcov⟩, hokx⟩, hoky⟩ := hok
    have H : xdraw P ops.toList x K held t w.heap ∧ xdraw P ops.toList y K held t w.heap := H
    have hx := (ihx false n held t a w listed hokx hcl hA hS H.1).2 rfl
    have hy := (ihy false n held t a w listed hoky hcl hA hS H.2).2 rfl
    have both : ∀ j, (x.heads.contains j || y.heads.contains j) = true → ∃ m, n = m + 1 ∧ wpOp P ops Q j (fun a' w' => (∀ p ∈ liftHeld held, prec bits p.1 j = false → p.2 w → p.2 w') ∧ wpAnyX P ops bits Q (liftHeld held) m (listed.setIfInBounds j true) a' w') a w := by
      intro j hj
      rcases Bool.or_eq_true _ _ ▸ hj with h | h
      · exact hx j (by simpa using h)
      · exact hy j (by simpa using h)
    refine ⟨fun hlone => ?_, fun _ j hj => both j ?_⟩
    · subst hlone
      simp only [Bool.not_true, Bool.false_or, Bool.and_eq_true, Bool.not_eq_true', List.isEmpty_eq_false_iff, List.all_eq_true] at hcov
      obtain ⟨hne, hall⟩ := hcov
      cases n with
      | zero => simp at hn
      | succ n =>
        refine ⟨fun h => absurd h hne, fun j hj => ?_⟩
        obtain ⟨m, hm, h⟩ := both j (hall j hj)
        cases hm
        exact h
    · simp only [OT.heads, List.mem_append] at hj
      simpa using hj
  | op i hs rest ih =>
    intro lone n held t a w listed hok hcl hA hS H
    cases n with
    | zero => simp [okOrd] at hok
    | succ n =>
    simp only [okOrd] at hok
    replace H : (match ops.toList[i]? with
      | none => False
      | some o => xguard ops.toList t o
          (fun t => match opKind P o with
            | 0 => xpure P t o fun v => xdraw P ops.toList rest K held (tput t o.dst (some v)) w.heap
            | 1 => xread P t o w.heap fun v G => xdraw P ops.toList rest K ((i, G) :: held) (tput t o.dst (some v)) w.heap
            | _ => xeff P t o w.heap fun v h' => xheld hs held h' (xdraw P ops.toList rest K held (tput t o.dst (some v)) h'))
          (fun t => match opKind P o with
            | 1 => xdraw P ops.toList rest K ((i, fun _ => True) :: held) (tput t o.dst (some Go.undef)) w.heap
            | _ => xdraw P ops.toList rest K held (tput t o.dst (some Go.undef)) w.heap)) := H
    split at hok
    · cases hok
    rename_i o ho
    have ho' : ops.toList[i]? = some o := by simpa using ho
    rw [ho'] at H
    simp only [Bool.and_eq_true] at hok
    obtain ⟨hrdy, hok⟩ := hok
    have hrdy' : i ∈ Region.ready .any ops listed := by simpa using hrdy
    have hcl' := closed_set hb hcl hrdy'
    have hdo : ∀ d, o.dst = some d → d < N := hdst o (by simpa using Array.mem_of_getElem? ho)
    have take : Region.free .any ops listed i = true → ∀ (v : Value) (G : World → Prop), YieldsIf P ops G o v a → G w → wpAnyX P ops bits Q ((i, G) :: liftHeld held) n (listed.setIfInBounds i true) (a.put o.dst v) w → wpAnyX P ops bits Q (liftHeld held) (n + 1) listed a w :=
      fun hf v G hy hG hX => wpAnyX_first hb ho (Region.noSelect_spec hsel) (fun c a w h => absurd h (hQp c _ w)) _ _ _ _ _ hcl (Region.free_spec ho hf) hrdy' hy hG hX
    have weakX : ∀ (x : Nat × (World → Prop)) (hl : List (Nat × (World → Prop))), (∀ w, x.2 w) → ∀ (fuel : Nat) (listed : Array Bool) (a : Act) (w : World), wpAnyX P ops bits Q hl fuel listed a w → wpAnyX P ops bits Q (x :: hl) fuel listed a w := by
      intro x hl hx fuel
      induction fuel with
      | zero => exact fun _ _ _ h => h
      | succ fuel ih =>
        exact fun listed a w h => ⟨h.1, fun j hj => wpOp_mono (fun a' w' h' => ⟨fun p hp => (List.mem_cons.1 hp).elim (fun e => by subst e; exact fun _ _ => hx w') (fun hp => h'.1 p hp), ih _ _ _ h'.2⟩) (h.2 j hj)⟩
    have only : lone = true → wpAnyX P ops bits Q (liftHeld held) (n + 1) listed a w → (lone = true → wpAnyX P ops bits Q (liftHeld held) (n + 1) listed a w) ∧
        (lone = false → ∀ j ∈ (OT.op i hs rest).heads, ∃ m, n + 1 = m + 1 ∧ wpOp P ops Q j (fun a' w' => (∀ p ∈ liftHeld held, prec bits p.1 j = false → p.2 w → p.2 w') ∧ wpAnyX P ops bits Q (liftHeld held) m (listed.setIfInBounds j true) a' w') a w) :=
      fun hl h => ⟨fun _ => h, fun h' => by rw [hl] at h'; cases h'⟩
    have effStep : (lone = true → Region.ready .any ops listed = [i]) → wpOp P ops Q i (fun a' w' => (∀ p ∈ liftHeld held, prec bits p.1 i = false → p.2 w → p.2 w') ∧ wpAnyX P ops bits Q (liftHeld held) n (listed.setIfInBounds i true) a' w') a w →
        (lone = true → wpAnyX P ops bits Q (liftHeld held) (n + 1) listed a w) ∧
        (lone = false → ∀ j ∈ (OT.op i hs rest).heads, ∃ m, n + 1 = m + 1 ∧ wpOp P ops Q j (fun a' w' => (∀ p ∈ liftHeld held, prec bits p.1 j = false → p.2 w → p.2 w') ∧ wpAnyX P ops bits Q (liftHeld held) m (listed.setIfInBounds j true) a' w') a w) := by
      intro hone hop
      refine ⟨fun hl => ⟨fun h0 => (by rw [hone hl] at h0; cases h0), fun j hj => ?_⟩, fun _ j hj => ?_⟩
      · rw [hone hl] at hj
        simp only [List.mem_singleton] at hj
        subst hj
        exact hop
      · simp only [OT.heads, List.mem_singleton] at hj
        subst hj
        exact ⟨n, rfl, hop⟩
    have effOk : opKind P o ≠ 0 → opKind P o ≠ 1 → (lone = true → Region.ready .any ops listed = [i]) ∧ (∀ r ∈ held.map (·.1), (hs.contains r || prec bits r i) = true) ∧ okOrd P ops bits rest true n (listed.setIfInBounds i true) (held.map (·.1)) = true := by
      intro hk0 hk1
      split at hok
      · exact absurd (by assumption) hk0
      · exact absurd (by assumption) hk1
      · simp only [Bool.and_eq_true, List.all_eq_true, Bool.or_eq_true, Bool.not_eq_true', beq_iff_eq] at hok
        refine ⟨fun hl => hok.1.1.resolve_left (by rw [hl]; simp), fun r hr => ?_, hok.2⟩
        simpa using hok.1.2 r hr
    rcases xguard_sound (ops := ops) hA H with ⟨hw, t', hA', hr⟩ | ⟨hw, t', hA', hr⟩
    · split at hr
      · rename_i hk
        rw [hk] at hok
        simp only [Bool.and_eq_true] at hok
        obtain ⟨v, hrun, hx⟩ := xpure_sound hA' hr
        refine only hok.1.1 (take hok.1.2 v (fun _ => True) (.inl ⟨hw, fun w _ => hrun w⟩) trivial ?_)
        refine weakX _ _ (fun _ => trivial) _ _ _ _ ?_
        exact (ih true n held _ _ w _ hok.2 hcl' (hA'.put hdo v) hS hx).1 rfl
      · rename_i hk
        rw [hk] at hok
        simp only [Bool.and_eq_true] at hok
        obtain ⟨v, F, hF, hrun, hx⟩ := xread_sound hA' hr
        refine only hok.1.1 (take hok.1.2 v (fun w => F w.heap) (.inl ⟨hw, hrun⟩) hF ?_)
        exact (ih true n ((i, F) :: held) _ _ w _ hok.2 hcl' (hA'.put hdo v) hS hx).1 rfl
      · rename_i hk0 hk1
        have hok2 := effOk hk0 hk1
        refine effStep hok2.1 ?_
        unfold wpOp
        rw [ho]
        simp only [hw, if_true]
        left
        refine xeff_sound hA' hr fun v w' hk hso => ?_
        obtain ⟨hh, hx⟩ := xheld_spec hk
        refine ⟨?_, (ih true n held _ _ w' _ hok2.2.2 hcl' (hA'.put hdo v) (hS.trans hso) hx).1 rfl⟩
        intro p hp hpr hpw
        simp only [liftHeld, List.mem_map] at hp
        obtain ⟨q, hq, rfl⟩ := hp
        have := hok2.2.1 q.1 (List.mem_map.2 ⟨q, hq, rfl⟩)
        simp only [Bool.or_eq_true] at this
        rcases this with h1 | h1
        · exact hh q hq h1
        · simp only at hpr; rw [h1] at hpr; cases hpr
    · have skipX : ∀ held', xdraw P ops.toList rest K held' (tput t' o.dst (some Go.undef)) w.heap → okOrd P ops bits rest true n (listed.setIfInBounds i true) (held'.map (·.1)) = true → wpAnyX P ops bits Q (liftHeld held') n (listed.setIfInBounds i true) (a.put o.dst undef) w :=
        fun held' hx hok' => (ih true n held' _ _ w _ hok' hcl' (hA'.put hdo _) hS hx).1 rfl
      split at hr
      · rename_i hk
        rw [hk] at hok
        simp only [Bool.and_eq_true] at hok
        exact only hok.1.1 (take hok.1.2 undef (fun _ => True) (.inr ⟨hw, rfl⟩) trivial (skipX _ hr hok.2))
      · rename_i hk1
        by_cases hk0 : opKind P o = 0
        · rw [hk0] at hok
          simp only [Bool.and_eq_true] at hok
          exact only hok.1.1 (take hok.1.2 undef (fun _ => True) (.inr ⟨hw, rfl⟩) trivial (weakX _ _ (fun _ => trivial) _ _ _ _ (skipX _ hr hok.2)))
        · have hok2 := effOk hk0 hk1
          refine effStep hok2.1 ?_
          unfold wpOp
          rw [ho]
          simp only [hw, Bool.false_eq_true, if_false]
          exact ⟨fun _ _ _ h => h, skipX _ hr hok2.2.2⟩
end

/-! ### Code -/
structure Ann where
  ord : OT
  bits : List Nat
  /-- Ahead of this region all that is known is named anew. -/
  cut : Bool
def okDraw (P : Program) (ops : Array Oper) (A : Ann) : Bool :=
  P.follows .mixedOrders && bitsOk ops A.bits && Region.noSelect ops && okOrd P ops A.bits A.ord true ops.size (Array.replicate ops.size false) []
def dstsOk (N : Nat) (ops : Array Oper) : Bool := ops.all fun o => match o.dst with | some d => Nat.blt d N | none => true
def codeOk (P : Program) (N : Nat) (env : Nat → Ann) : Code → Bool
  | .region id ops draw => dstsOk N ops && (!draw || okDraw P ops (env id))
  | .seq a b => codeOk P N env a && codeOk P N env b
  | .cond _ a b => codeOk P N env a && codeOk P N env b
  | .block _ b => codeOk P N env b
  | .loop b => codeOk P N env b
  | .scope b => codeOk P N env b
  | _ => true

def subT (l : List (Nat × Value)) (t : Tm) : Prop := match l with | [] => True | (i, v) :: l => t i = some v ∧ subT l t
def slots (l : List (Nat × Value)) : Tm := fun i => match l with | [] => none | (j, v) :: l => bif Nat.beq i j then some v else slots l i

def xloop (body : (Exit → Tm → Heap → Prop) → Tm → Heap → Prop) (K : Exit → Tm → Heap → Prop) (t : Tm) (h : Heap) : Prop :=
  ∃ (α : Type) (S : α → List (Nat × Value)) (J : α → Heap → Prop) (μ : α → Nat) (x : α), subT (S x) t ∧ J x h ∧
    ∀ x h, J x h → body (fun e t' h' => match e with
      | .normal => ∃ x', subT (S x') t' ∧ J x' h' ∧ μ x' < μ x
      | e => K e t' h') (slots (S x)) h

abbrev XK := Exit → Tm → Heap → Prop
/-- The region at which a code begins. -/
def headId : Code → Option Nat
  | .region id _ _ => some id
  | .seq x y => match headId x with | some i => some i | none => headId y
  | .block _ x => headId x
  | .loop x => headId x
  | .scope x => headId x
  | _ => none
def headCut (env : Nat → Ann) (c : Code) : Bool := match headId c with | some i => (env i).cut | none => false
/-- Whatever way it comes here, this is known from here on. -/
def xcut (x : (Exit → Tm → Heap → Prop) → Tm → Heap → Prop) (y : (Exit → Tm → Heap → Prop) → Tm → Heap → Prop) (K : Exit → Tm → Heap → Prop) (t : Tm) (h : Heap) : Prop :=
  ∃ (α : Type) (S : α → List (Nat × Value)) (J : α → Heap → Prop), x (fun e t' h' => match e with
      | .normal => ∃ x', subT (S x') t' ∧ J x' h'
      | e => K e t' h') t h ∧ ∀ x h, J x h → y K (slots (S x)) h
def xcode (P : Program) (env : Nat → Ann) (c : Code) : XK → Tm → Heap → Prop :=
  Code.rec (motive := fun _ => XK → Tm → Heap → Prop)
    (fun K t h => K .normal t h)
    (fun id ops draw K t h => match draw with
      | false => xops P ops.toList ops.toList (K .normal) t h
      | true => xdraw P ops.toList (env id).ord (K .normal) [] t h)
    (fun _ b x y K t h => match headCut env b with
      | false => x (fun e t h => match e with | .normal => y K t h | e => K e t h) t h
      | true => xcut x y K t h)
    (fun c _ _ x y K t h => xev t c fun v => match v with
      | .bool q => xif q (x K t h) (y K t h)
      | _ => False)
    (fun id _ x K t h => x (fun e t h => match e with
      | .exit i => match Nat.beq i id with | true => K .normal t h | false => K (.exit i) t h
      | e => K e t h) t h)
    (fun _ x K t h => xloop x K t h)
    (fun _ _ _ _ _ _ _ _ _ => False)
    (fun id K t h => K (.exit id) t h)
    (fun _ x K t h => x (fun e t h => match e with | .goto _ => False | e => K e t h) t h)
    (fun _ K t h => K .normal t h)
    (fun l K t h => K (.goto l) t h)
    (fun K t h => K .ret t h)
    (fun _ _ _ _ => False)
    c

def lift (N : Nat) (W : World) (K : Exit → Tm → Heap → Prop) : Exit → Act → World → Prop := fun e a w =>
  match e with
  | .panic _ => False
  | .outgrown => False
  | e => ∃ t, Agree N t a ∧ SameOut W w ∧ K e t w.heap

theorem subT_slots : ∀ (l : List (Nat × Value)) (t : Tm), subT l t → ∀ i v, slots l i = some v → t i = some v := by
  intro l
  induction l with
  | nil => intro t _ i v h; cases h
  | cons p l ih =>
    obtain ⟨j, u⟩ := p
    intro t h i v e
    simp only [slots] at e
    cases hb : Nat.beq i j with
    | false => rw [hb] at e; exact ih t h.2 i v e
    | true =>
      rw [hb] at e
      have : i = j := Nat.eq_of_beq_eq_true hb
      subst this
      cases e
      exact h.1

theorem xcode_sound {P : Program} {N : Nat} {env : Nat → Ann} {W : World} : ∀ (c : Code) (K : Exit → Tm → Heap → Prop) (t : Tm) (a : Act) (w : World), codeOk P N env c = true → Agree N t a → SameOut W w → xcode P env c K t w.heap → c.wp P (lift N W K) a w := by
  intro c
  induction c with
  | skip => intro K t a w _ hA hS H; exact wp_skip ⟨t, hA, hS, H⟩
  | region id ops draw =>
    intro K t a w hok hA hS H
    simp only [codeOk, Bool.and_eq_true] at hok
    have hd : ∀ o ∈ ops.toList, ∀ d, o.dst = some d → d < N := by
      intro o ho d hod
      have := Array.all_eq_true_iff_forall_mem.1 hok.1 o (by simpa using ho)
      rw [hod] at this
      simpa [Nat.blt_eq] using this
    cases draw with
    | false =>
      refine wp_region_list (xops_sound (W := W) _ t a w hd hA hS H fun t a w hA hS hk => ?_)
      exact ⟨t, hA, hS, hk⟩
    | true =>
      have h2 := hok.2
      simp only [Bool.not_true, Bool.false_or, okDraw, Bool.and_eq_true, beq_iff_eq] at h2
      obtain ⟨⟨⟨hm, hb⟩, hsel⟩, hord⟩ := h2
      refine wp_region_any hm (wpAny_of_X (bits := (env id).bits) (held := []) _ _ _ _ ?_)
      have hX := xdraw_sound (N := N) (W := W) (Q := lift N W K) (K := K .normal) hb hsel hd (fun c a w h => h) (fun t a w hA hS hk => ⟨t, hA, hS, hk⟩) (env id).ord true ops.size [] t a { w with drawn := w.drawn + 1 } (Array.replicate ops.size false) hord (by
        intro k hk
        simp [Array.getD_eq_getD_getElem?, Array.getElem?_replicate] at hk
        split at hk <;> simp at hk) hA ⟨hS.os, hS.tape, hS.output⟩ H
      exact hX.1 rfl
  | seq x y ihx ihy =>
    intro K t a w hok hA hS H
    simp only [codeOk, Bool.and_eq_true] at hok
    have H' : match headCut env y with
      | false => xcode P env x (fun e t h => match e with | .normal => xcode P env y K t h | e => K e t h) t w.heap
      | true => xcut (xcode P env x) (xcode P env y) K t w.heap := H
    split at H'
    · refine wp_seq (wp_mono (ihx _ t a w hok.1 hA hS H') ?_)
      intro e a w hq
      cases e <;> simp only [lift, Exit.then] at hq ⊢ <;> try exact hq
      obtain ⟨t, hA, hS, hk⟩ := hq
      exact ihy K t a w hok.2 hA hS hk
    · obtain ⟨α, S, J, hx, hy⟩ := H'
      refine wp_seq (wp_mono (ihx _ t a w hok.1 hA hS hx) ?_)
      intro e a w hq
      cases e <;> simp only [lift, Exit.then] at hq ⊢ <;> try exact hq
      obtain ⟨t, hA, hS, x', hsub, hJ⟩ := hq
      exact ihy K _ a w hok.2 (hA.forget (subT_slots _ _ hsub)) hS (hy x' w.heap hJ)
  | cond c x y ihx ihy =>
    intro K t a w hok hA hS H
    simp only [codeOk, Bool.and_eq_true] at hok
    have h1 := hA.xev H
    split at h1
    · rename_i q hq
      cases q
      · exact wp_cond_false hq (ihy K t a w hok.2 hA hS h1)
      · exact wp_cond_true hq (ihx K t a w hok.1 hA hS h1)
    · exact h1.elim
  | block id b ih =>
    intro K t a w hok hA hS H
    refine wp_block (wp_mono (ih _ t a w hok hA hS H) ?_)
    intro e a w hq
    cases e <;> simp only [lift, Exit.inBlock] at hq ⊢ <;> try exact hq
    rename_i i
    obtain ⟨t, hA, hS, hk⟩ := hq
    cases hb : Nat.beq i id with
    | true =>
      rw [hb] at hk
      rw [if_pos (Nat.eq_of_beq_eq_true hb)]
      exact ⟨t, hA, hS, hk⟩
    | false =>
      rw [hb] at hk
      rw [if_neg (Nat.ne_of_beq_eq_false hb)]
      exact ⟨t, hA, hS, hk⟩
  | loop b ih =>
    intro K t a w hok hA hS H
    obtain ⟨α, S, J, μ, x, hsub, hJ, hround⟩ := H
    refine wp_loop_ghost (fun n a w => ∃ x, μ x = n ∧ J x w.heap ∧ Agree N (slots (S x)) a ∧ SameOut W w) (μ x) ⟨x, rfl, hJ, hA.forget (subT_slots _ _ hsub), hS⟩ ?_
    rintro n a w ⟨x, rfl, hJ, hA, hS⟩
    refine wp_mono (ih _ _ a w hok hA hS (hround x w.heap hJ)) ?_
    intro e a w hq
    cases e <;> simp only [lift, Exit.then] at hq ⊢ <;> try exact hq
    obtain ⟨t', hA', hS', x', hsub', hJ', hlt⟩ := hq
    exact ⟨_, hlt, x', rfl, hJ', hA'.forget (subT_slots _ _ hsub'), hS'⟩
  | rangeFunc => intro K t a w _ _ _ H; exact H.elim
  | exit id => intro K t a w _ hA hS H; exact wp_exit ⟨t, hA, hS, H⟩
  | scope b ih =>
    intro K t a w hok hA hS H
    refine wp_scope_straight (wp_mono (ih _ t a w hok hA hS H) ?_)
    intro e a w hq
    cases e <;> simp only [lift, Exit.noGoto] at hq ⊢ <;> try exact hq
    obtain ⟨t, hA, hS, hk⟩ := hq
    exact hk
  | label l => intro K t a w _ hA hS H; exact wp_label ⟨t, hA, hS, H⟩
  | goto l => intro K t a w _ hA hS H; exact wp_goto ⟨t, hA, hS, H⟩
  | ret => intro K t a w _ hA hS H; exact wp_ret ⟨t, hA, hS, H⟩
  | refuse why => intro K t a w _ _ _ H; exact H.elim

def xresult (P : Program) (t : Tm) (h : Heap) : List ResultVar → (List Value → Prop) → Prop
  | [], K => K []
  | .tmp i :: rs, K => match t i with
    | some v => xresult P t h rs fun vs => K (v :: vs)
    | none => False
  | .cell i T :: rs, K => match t i with
    | some (.pointer (some a)) => xload P T h a fun v _ => xresult P t h rs fun vs => K (v :: vs)
    | _ => False
def tuple1 : List Value → Value
  | [v] => v
  | vs => .tuple vs.toArray
def xret (P : Program) (rs : List ResultVar) (R : Value → Heap → Prop) : Exit → Tm → Heap → Prop := fun e t h =>
  match e with
  | .normal => xresult P t h rs fun vs => R (tuple1 vs) h
  | .ret => xresult P t h rs fun vs => R (tuple1 vs) h
  | _ => False

theorem xresult_run {P : Program} {N : Nat} {t : Tm} {a : Act} (hA : Agree N t a) : ∀ (rs : List ResultVar) (w : World) (K : List Value → Prop), xresult P t w.heap rs K →
    ∃ vs, (rs.mapM (m := Sem) fun | .tmp t => pure (a.tmps.getD t undef) | .cell x T => do loadVar T (← asAddr (a.tmps.getD x undef))).run P w = .ok vs w ∧ K vs := by
  intro rs
  induction rs with
  | nil => intro w K H; exact ⟨[], by simp, H⟩
  | cons r rs ih =>
    intro w K H
    cases r with
    | tmp i =>
      simp only [xresult] at H
      split at H
      · rename_i v hv
        obtain ⟨vs, hr, hk⟩ := ih w _ H
        refine ⟨v :: vs, ?_, hk⟩
        have := hA.val i v hv
        simp only [List.mapM_cons, Sem.run_bind, Sem.run_pure, Result.andThen_ok, hr]
        simp [this]
      · exact H.elim
    | cell i T =>
      simp only [xresult] at H
      split at H
      · rename_i ad hv
        obtain ⟨v, F, hF, hl, hk⟩ := xload_run H
        obtain ⟨vs, hr, hk⟩ := ih w _ hk
        refine ⟨v :: vs, ?_, hk⟩
        have := hA.val i _ hv
        have e1 : (do loadVar T (← asAddr (a.tmps.getD i undef)) : Sem Value).run P w = .ok v w := by
          simp [this, asAddr, hl w hF]
        simp only [List.mapM_cons, Sem.run_bind (f := fun _ => _ >>= _), Sem.run_bind, Sem.run_pure, Result.andThen_ok] at e1 ⊢
        rw [e1]
        simp only [Result.andThen_ok, hr]
      · exact H.elim

theorem results_run {P : Program} {N : Nat} {t : Tm} {a : Act} {fn : Func} {w : World} {R : Value → Heap → Prop} (hA : Agree N t a) (H : xresult P t w.heap fn.results.toList fun vs => R (tuple1 vs) w.heap) :
    ∃ v, (results fn a.tmps).run P w = .ok v w ∧ R v w.heap := by
  obtain ⟨vs, hr, hk⟩ := xresult_run hA _ w _ H
  refine ⟨_, ?_, hk⟩
  have e : (fn.results.mapM (m := Sem) fun | .tmp t => pure (a.tmps.getD t undef) | .cell x T => do loadVar T (← asAddr (a.tmps.getD x undef))).run P w = .ok vs.toArray w := by
    rw [← Array.toArray_toList (xs := fn.results), List.mapM_toArray, map_eq_pure_bind, Sem.run_bind, hr]
    rfl
  have key : ∀ r : Result (Array Value), r = .ok vs.toArray w → (r.andThen fun a w' => (pure (if h : a.size = 1 then a[0] else .tuple a) : Sem Value).run P w') = .ok (tuple1 vs) w := by
    rintro _ rfl
    match vs with
    | [] => simp [tuple1]
    | [v] => simp [tuple1]
    | v :: u :: vs => simp [tuple1]
  unfold results
  rw [Sem.run_bind]
  exact key _ e

def args (l : List Value) : Tm := fun i => l[i]?

theorem xcalls {P : Program} {f : FuncId} {fn : Func} {c : Code} (env : Nat → Ann) {vs : List Value} {h : Heap} {R : Value → Heap → Prop} (hf : P.funcs[f]? = some fn) (hb : fn.body = some c) (hn : (fn.name == "runtime.NumGoroutine") = false)
    (hN : Nat.ble vs.length fn.ntmps = true) (hok : codeOk P fn.ntmps env c = true) (H : xcode P env c (xret P fn.results.toList R) (args vs) h) : HCalls P f vs.toArray h R := by
  refine ⟨.inl ⟨by simp [funOk, hf, hb, hn], fun w hw => ?_⟩⟩
  subst hw
  have hA : Agree fn.ntmps (args vs) { tmps := vs.toArray ++ Array.replicate (fn.ntmps - vs.toArray.size) undef, defers := [] } := by
    have hN := Nat.le_of_ble_eq_true hN
    refine ⟨by simp; omega, rfl, fun i v e => ?_⟩
    unfold args at e
    have hi : i < vs.length := (List.getElem?_eq_some_iff.1 e).1
    rw [Array.getElem?_append_left (by simpa using hi)]
    simpa using e
  refine calls_of_wp hf hb (wp_mono (xcode_sound (W := w) c _ _ _ w hok hA (SameOut.refl w) H) ?_)
  intro e a w' hq
  cases e <;> simp only [lift, bodyPost, xret] at hq ⊢ <;> try exact hq
  all_goals
    obtain ⟨t, hA', hS, hk⟩ := hq
    first
      | exact hk.elim
      | (obtain ⟨v, hr, hR⟩ := results_run hA' hk
         exact ⟨hA'.defers, v, hr, v, rfl, hR, hS⟩)
#print axioms xcalls
end Go.Proofs.YtjjempefncgfhaaGreatDoorE
