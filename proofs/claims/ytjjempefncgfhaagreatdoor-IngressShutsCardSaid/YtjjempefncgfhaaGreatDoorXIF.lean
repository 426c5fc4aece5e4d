/- Frames' bytes are read; a frame without a tag, of zeros. Conditions: the bytes are bytes, and not many. -/
import Derived.Test.YtjjempefncgfhaaGreatDoorXByt
import Derived.Test.YtjjempefncgfhaaGreatDoorXN8
set_option linter.unusedVariables false
set_option linter.unusedSimpArgs false
set_option maxRecDepth 100000
namespace Go.Proofs.YtjjempefncgfhaaGreatDoorE
open Go Go.Proofs
def env_fTwo : Nat → Ann
  | 1 => ⟨.op 0 [] <| .op 1 [] <| .op 2 [] <| .op 3 [] <| .op 4 [] <| .op 5 [] <| .op 6 [] <| .op 7 [] <| .op 8 [] <| .op 9 [] <| .op 10 [] <| .nil, [0, 1, 3, 7, 15, 0, 32, 96, 224, 511, 1023], false⟩
  | _ => ⟨.nil, [], false⟩
def env_fParse : Nat → Ann
  | 6 => ⟨.op 0 [] <| .op 1 [] <| .op 2 [] <| .op 3 [] <| .op 4 [] <| .op 6 [] <| .op 7 [] <| .op 8 [] <| .op 9 [] <| .alt (.op 5 [] <| .alt (.op 10 [] <| .op 11 [] <| .op 12 [] <| .op 13 [] <| .nil) (.op 12 [] <| .op 10 [] <| .op 11 [] <| .op 13 [] <| .nil)) (.op 12 [] <| .op 5 [] <| .op 10 [] <| .op 11 [] <| .op 13 [] <| .nil), [0, 0, 0, 0, 12, 28, 0, 0, 128, 448, 1020, 2047, 0, 8191], false⟩
  | 7 => ⟨.nil, [], true⟩
  | _ => ⟨.nil, [], false⟩
theorem row_first {α : Type} {enc : α → List Value} {sz : Nat} {h : Heap} {A : Option Addr} {xs : List α} (H : Row enc sz h A xs) (n : Nat) {q : Prop} {inst : Decidable q} {f : Addr → Addr} (hf : ∀ a, f a = a) : Row enc sz h (@ite _ q inst A (Option.map f A)) (xs.take n) := by
  have e : (@ite _ q inst A (Option.map f A)) = A := by
    split
    · rfl
    · cases A with
      | none => rfl
      | some a => rw [Option.map_some, hf]
  rw [e]
  intro i x hx
  rw [List.getElem?_take] at hx
  split at hx
  · exact H i x hx
  · cases hx
theorem row_from {α : Type} {enc : α → List Value} {sz : Nat} {h : Heap} {A : Option Addr} {xs : List α} (H : Row enc sz h A xs) (k : Nat) {q : Prop} {inst : Decidable q} (hq : q → xs.length ≤ k) : Row enc sz h (@ite _ q inst A (Option.map (fun a => a.add (k * sz)) A)) (xs.drop k) := by
  intro i x hx
  rw [List.getElem?_drop] at hx
  have hl := (List.getElem?_eq_some_iff.1 hx).1
  obtain ⟨a, hA, hr⟩ := H (k + i) x hx
  rw [if_neg (fun h => by have := hq h; omega), hA]
  refine ⟨_, rfl, ?_⟩
  rw [add_add, ← Nat.add_mul]
  exact hr
/-- Two bytes as a number. -/
def two (bs : List Int) (i : Nat) : Int := bs.getD i 0 * 256 + bs.getD (i + 1) 0
def tagged (bs : List Int) : Bool := decide (two bs 12 = 33024)
def behindN (bs : List Int) : Nat := if tagged bs = true then 16 else 12
def formM (t n : Int) : Bool := decide (1536 ≤ t ∨ (t ≤ 1500 ∧ t ≤ n))
def parseE (bs : List Int) : Int := if bs.length < 60 then 2 else if formM (two bs (behindN bs)) ((bs.length : Int) - (behindN bs + 2 : Nat)) = true then 0 else 4
def outE (bs : List Int) (t : Bool) (vid : Int) : Int := if parseE bs ≠ 0 then parseE bs else if t = true ∧ (vid < 1 ∨ 4094 < vid) then 6 else 0
def tciM (bs : List Int) : Int := if tagged bs = true then two bs 14 else 0
def padM (l : List Int) : List Int := l ++ List.replicate (60 - l.length) 0
def tagB (t : Int) : List Int := [129, 0, t / 256, t % 256]
def outB (bs : List Int) (t : Bool) (vid : Int) : List Int :=
  padM ((bs.take 12 ++ if t = true then tagB (tciM bs / 4096 * 4096 + vid) else []) ++ bs.drop (behindN bs))
def IsB (bs : List Int) : Prop := ∀ y ∈ bs, 0 ≤ y ∧ y < 256
theorem isB_get {bs : List Int} (H : IsB bs) (i : Nat) : 0 ≤ bs.getD i 0 ∧ bs.getD i 0 < 256 := by
  rw [List.getD_eq_getElem?_getD]
  cases h : bs[i]? with
  | none => exact ⟨by decide, by decide⟩
  | some y => exact H y (List.mem_of_getElem? h)
theorem two_range {bs : List Int} (H : IsB bs) (i : Nat) : 0 ≤ two bs i ∧ two bs i < 65536 := by
  have a := isB_get H i
  have b := isB_get H (i + 1)
  unfold two; omega
theorem two_drop (bs : List Int) (k : Nat) : two (bs.drop k) 0 = two bs k := by
  unfold two
  rw [List.getD_eq_getElem?_getD, List.getD_eq_getElem?_getD, List.getElem?_drop, List.getElem?_drop, List.getD_eq_getElem?_getD, List.getD_eq_getElem?_getD]
  rfl
theorem wrapU16 (x : Int) : IntKind.u16.wrap x = x % 65536 := by simp [IntKind.wrap, IntKind.bits, IntKind.signed]
theorem or_bytes {a b : Int} (ha : 0 ≤ a ∧ a < 256) (hb : 0 ≤ b ∧ b < 256) :
    IntKind.u16.wrap (BitVec.ofInt IntKind.u16.bits (IntKind.u16.wrap (a * 2 ^ (min (8 : Int).toNat IntKind.u16.bits))) ||| BitVec.ofInt IntKind.u16.bits b).toNat = a * 256 + b := by
  obtain ⟨x, rfl⟩ : ∃ x : Nat, a = x := ⟨a.toNat, by omega⟩
  obtain ⟨y, rfl⟩ : ∃ y : Nat, b = y := ⟨b.toNat, by omega⟩
  have e8 : min (8 : Int).toNat IntKind.u16.bits = 8 := by decide
  have hb16 : IntKind.u16.bits = 16 := rfl
  rw [e8, hb16]
  simp only [wrapU16, BitVec.toNat_or, BitVec.toNat_ofInt]
  have e1 : (((x : Int) * 2 ^ 8 % 65536) % ((2 ^ 16 : Nat) : Int)).toNat = x <<< 8 := by
    rw [Nat.shiftLeft_eq]
    have : (2 : Int) ^ 8 = 256 := by decide
    rw [this]
    have : ((2 ^ 16 : Nat) : Int) = 65536 := by decide
    rw [this]
    have : (2 : Nat) ^ 8 = 256 := by decide
    rw [this]
    omega
  have e2 : ((y : Int) % ((2 ^ 16 : Nat) : Int)).toNat = y := by
    have : ((2 ^ 16 : Nat) : Int) = 65536 := by decide
    rw [this]; omega
  rw [e1, e2, ← Nat.shiftLeft_add_eq_or_of_lt (show y < 2 ^ 8 by omega), Nat.shiftLeft_eq]
  have : (2 : Nat) ^ 8 = 256 := by decide
  rw [this]
  omega
theorem wU16 {x : Int} (h0 : 0 ≤ x) (h1 : x < 65536) : IntKind.u16.wrap x = x := by rw [wrapU16]; omega
theorem low12 {a v : Int} (ha : 0 ≤ a ∧ a < 65536) (hv : 0 ≤ v ∧ v < 4096) :
    IntKind.u16.wrap (BitVec.ofInt IntKind.u16.bits (IntKind.u16.wrap (BitVec.ofInt IntKind.u16.bits a &&& ~~~ (BitVec.ofInt IntKind.u16.bits 4095)).toNat) ||| BitVec.ofInt IntKind.u16.bits v).toNat = a / 4096 * 4096 + v := by
  obtain ⟨x, rfl⟩ : ∃ x : Nat, a = x := ⟨a.toNat, by omega⟩
  obtain ⟨y, rfl⟩ : ∃ y : Nat, v = y := ⟨v.toNat, by omega⟩
  have hb16 : IntKind.u16.bits = 16 := rfl
  rw [hb16]
  have e0 : (BitVec.ofInt 16 (x : Int) &&& ~~~ (BitVec.ofInt 16 4095)) = (BitVec.ofInt 16 (x : Int) >>> 12) <<< 12 := by
    have k : ∀ i : Fin 16, (~~~ (BitVec.ofInt 16 4095)).getLsbD i.1 = decide (12 ≤ i.1) := by decide
    apply BitVec.eq_of_getLsbD_eq
    intro i hi
    rw [BitVec.getLsbD_and, k ⟨i, hi⟩, BitVec.getLsbD_shiftLeft, BitVec.getLsbD_ushiftRight]
    by_cases h : 12 ≤ i
    · rw [show 12 + (i - 12) = i by omega]; simp [h, hi]
    · simp [h]
  have e1 : (BitVec.ofInt 16 (x : Int)).toNat = x := by
    rw [BitVec.toNat_ofInt]
    have : ((2 ^ 16 : Nat) : Int) = 65536 := by decide
    rw [this]; omega
  have e3 : (BitVec.ofInt 16 (y : Int)).toNat = y := by
    rw [BitVec.toNat_ofInt]
    have : ((2 ^ 16 : Nat) : Int) = 65536 := by decide
    rw [this]; omega
  have e2 : ((BitVec.ofInt 16 (x : Int) >>> 12) <<< 12).toNat = (x / 4096) <<< 12 := by
    rw [BitVec.toNat_shiftLeft, BitVec.toNat_ushiftRight, e1, Nat.shiftRight_eq_div_pow]
    have : (2 : Nat) ^ 12 = 4096 := by decide
    rw [this, Nat.mod_eq_of_lt]
    rw [Nat.shiftLeft_eq, this]
    have : (2 : Nat) ^ 16 = 65536 := by decide
    omega
  have e4 : (BitVec.ofInt 16 (IntKind.u16.wrap ((((x / 4096) <<< 12 : Nat)) : Int))).toNat = (x / 4096) <<< 12 := by
    have hl : (x / 4096) <<< 12 < 65536 := by
      rw [Nat.shiftLeft_eq]
      have : (2 : Nat) ^ 12 = 4096 := by decide
      rw [this]; omega
    rw [wrapU16, BitVec.toNat_ofInt]
    have : ((2 ^ 16 : Nat) : Int) = 65536 := by decide
    rw [this]; omega
  rw [e0, e2, BitVec.toNat_or, e4, e3, ← Nat.shiftLeft_add_eq_or_of_lt (show y < 2 ^ 12 by omega), wrapU16, Nat.shiftLeft_eq]
  have : (2 : Nat) ^ 12 = 4096 := by decide
  rw [this]
  omega
section
variable {h : Heap}
theorem u8_at {A : Option Addr} {bs : List Int} (hr : Row encU8 1 h A bs) {i : Nat} (hi : i < bs.length) : ∃ a, A = some a ∧ cell h (a.add (i * 1)) = some (.int .u8 (bs.getD i 0)) := by
  obtain ⟨a, hA, hrd⟩ := hr i bs[i] (List.getElem?_eq_getElem hi)
  have c := hrd.get 0 (v := .int .u8 bs[i]) rfl
  rw [add_zero'] at c
  refine ⟨a, hA, ?_⟩
  rw [c, List.getD_eq_getElem?_getD, List.getElem?_eq_getElem hi]; rfl
theorem fTwo_spec {A : Option Addr} {n c : Nat} {bs : List Int} (hr : Row encU8 1 h A bs) (hl : bs.length = n) (h2 : 2 ≤ n) (hb : IsB bs) : HCalls Tryz.prog 164 #[.slice A n c] h (fun v h' => v = .int .u16 (two bs 0) ∧ h' = h) := by
  refine xcalls env_fTwo Tryz.func164 rfl (by kernel_rfl) rfl (by kernel_rfl) ?_
  obtain ⟨a, hA, c0⟩ := u8_at hr (i := 0) (by omega)
  obtain ⟨a', hA', c1⟩ := u8_at hr (i := 1) (by omega)
  refine ⟨a, hA, by decide, by omega, _, c0, by decide, a', hA', by decide, by omega, _, c1, ?_⟩
  have g0 := isB_get hb 0
  have g1 := isB_get hb 1
  refine ⟨congrArg (Value.int .u16) ?_, rfl⟩
  rw [wU16 (x := bs.getD 0 0) (by omega) (by omega), wU16 (x := bs.getD 1 0) (by omega) (by omega), or_bytes g0 g1]; rfl
theorem fBehind_spec {A : Option Addr} {n c : Nat} {bs : List Int} (hr : Row encU8 1 h A bs) (hl : bs.length = n) (h2 : 60 ≤ n) (hc : n ≤ c) (hb : IsB bs) : HCalls Tryz.prog 163 #[.slice A n c] h (fun v h' => v = .tuple #[.int .i64 (behindN bs : Nat), .bool (tagged bs), .int .u16 (tciM bs)] ∧ h' = h) := by
  refine xcalls env0 Tryz.func163 rfl (by kernel_rfl) rfl (by kernel_rfl) ?_
  have t12 : Int.toNat 12 = 12 := rfl
  have t14 : Int.toNat 14 = 14 := rfl
  refine ⟨by decide, by decide, by omega, by omega, Int.le_refl _, ?_⟩
  refine (fTwo_spec (row_from hr 12 (fun e => by omega)) (by rw [List.length_drop]; omega) (by omega) (fun y hy => hb y (List.mem_of_mem_drop hy))).mono ?_
  rintro v h2 ⟨rfl, rfl⟩
  rw [two_drop]
  refine xif_of (fun q => ?_) (fun q => ?_)
  · have q : ¬ two bs 12 = 33024 := by simpa using q
    have e : tagged bs = false := decide_eq_false q
    exact ⟨by unfold behindN tciM; rw [e]; rfl, rfl⟩
  · have q : two bs 12 = 33024 := by simpa using q
    have e : tagged bs = true := decide_eq_true q
    refine ⟨by decide, by decide, by omega, by omega, Int.le_refl _, ?_⟩
    refine (fTwo_spec (row_from hr 14 (fun e => by omega)) (by rw [List.length_drop]; omega) (by omega) (fun y hy => hb y (List.mem_of_mem_drop hy))).mono ?_
    rintro v h3 ⟨rfl, rfl⟩
    rw [two_drop]
    exact ⟨by unfold behindN tciM; rw [e]; rfl, rfl⟩
theorem fForm_spec {t n : Int} (ht : 0 ≤ t ∧ t < 65536) : HCalls Tryz.prog 165 #[.int .u16 t, .int .i64 n] h (fun v h' => v = .bool (formM t n) ∧ h' = h) := by
  refine xcalls env0 Tryz.func165 rfl (by kernel_rfl) rfl (by kernel_rfl) ?_
  unfold formM
  refine xif_of (fun q => ?_) (fun q => ?_)
  · have q : t ≥ 1536 := of_decide_eq_true q
    exact ⟨by rw [decide_eq_true (.inl q)]; rfl, rfl⟩
  have q : ¬ t ≥ 1536 := of_decide_eq_false q
  refine xif_of (fun q2 => ?_) (fun q2 => ?_)
  · have q2 : t ≤ 1500 := of_decide_eq_true q2
    refine ⟨congrArg Value.bool ?_, rfl⟩
    rw [wrap_i64 (by omega) (by omega), Bool.eq_iff_iff, decide_eq_true_iff, decide_eq_true_iff]; omega
  · have q2 : ¬ t ≤ 1500 := of_decide_eq_false q2
    exact ⟨by rw [decide_eq_false (by omega)]; rfl, rfl⟩
theorem macOf_spec {A : Option Addr} {n c : Nat} {bs : List Int} (hr : Row encU8 1 h A bs) (hl : bs.length = n) (h2 : 6 ≤ n) (hc : n ≤ c) : HCalls Tryz.prog 166 #[.slice A n c] h (fun v h' => (∃ m, v = .tuple #[.int .u64 m, .int .i64 0] ∧ ((∀ y ∈ bs, y = 0) → m = 0)) ∧ h' = h) := by
  refine xcalls env0 Tryz.func166 rfl (by kernel_rfl) rfl (by kernel_rfl) ?_
  refine xif_of (fun q => absurd (show (n : Int) < 6 from of_decide_eq_true q) (by omega)) (fun _ => ?_)
  refine ⟨by decide, by decide, by decide, by omega, by omega, ?_⟩
  have t6 : Int.toNat 6 = 6 := rfl
  have t0 : Int.toNat 0 = 0 := rfl
  have hr6 := row_first hr 6 (q := (c : Int).toNat = Int.toNat 0) (inst := inferInstance) (f := fun x => x.add (Int.toNat 0 * 1)) (fun a => add_zero' a)
  have hl6 : (bs.take 6).length = 6 := by rw [List.length_take]; omega
  obtain ⟨A6, hA6⟩ : ∃ A6, (if (c : Int).toNat = Int.toNat 0 then A else Option.map (fun x => x.add (Int.toNat 0 * 1)) A) = A6 := ⟨_, rfl⟩
  rw [hA6] at hr6
  refine ⟨Nat × Int, fun z => [(4, .int .u64 z.2), (11, .slice A6 6 ((c : Int).toNat - Int.toNat 0)), (12, .int .i64 6), (13, .int .i64 z.1)], fun z h' => z.1 ≤ 6 ∧ ((∀ y ∈ bs, y = 0) → z.2 = 0) ∧ h' = h, fun z => 6 - z.1, (0, 0), ⟨rfl, congrArg (fun a => some (Value.slice a 6 ((c : Int).toNat - Int.toNat 0))) hA6, rfl, rfl, trivial⟩, ⟨by decide, fun _ => rfl, rfl⟩, ?_⟩
  rintro ⟨i, m⟩ h3 ⟨hi, hm0, rfl⟩
  simp only at hi hm0
  refine xif_of (fun hlt => ?_) (fun hge => ?_)
  · have hlt : (i : Int) < 6 := of_decide_eq_true hlt
    obtain ⟨a, hA, c0⟩ := u8_at hr6 (i := i) (by omega)
    refine ⟨a, hA, by omega, hlt, _, c0, ?_⟩
    refine ⟨by decide, ?_⟩
    exact ⟨(i + 1, _), ⟨rfl, rfl, rfl, slot_inc (by omega), trivial⟩, ⟨by show i + 1 ≤ 6; omega, fun hz => by
      have e : (bs.take 6).getD i 0 = 0 := by
        rw [List.getD_eq_getElem?_getD]
        cases hg : (bs.take 6)[i]? with
        | none => rfl
        | some y => exact hz y (List.mem_of_mem_take (List.mem_of_getElem? hg))
      have e2 := hm0 hz
      subst e2
      rw [e]
      show _ = (0 : Int)
      kernel_rfl, rfl⟩, by show 6 - (i + 1) < 6 - i; omega⟩
  · exact ⟨⟨_, rfl, hm0⟩, rfl⟩
theorem u8Info : (Tryz.prog.info? 5).map (fun i => (i.size, i.bytes)) = some (1, 1) := by kernel_rfl
theorem u8Zero : xzero Tryz.prog 5 = some (encU8 0) := by kernel_rfl
theorem bClone_spec {A : Option Addr} {c n : Nat} {l : List Int} (hr : Row encU8 1 h A l) (hA : A = none → l = []) (hl : l.length = n) (hn : l.length ≤ 100000) :
    HCalls Tryz.prog 49 #[.slice A n c] h (fun v h' => ∃ A' c', v = .slice A' n c' ∧ OwnA encU8 1 5 h.size h' A' c' l ∧ Ext h h') := by
  subst hl
  refine xcalls env0 Tryz.func49 rfl (by kernel_rfl) rfl (by kernel_rfl) ?_
  cases A with
  | none =>
    obtain rfl := hA rfl
    exact ⟨none, 0, rfl, .inl ⟨rfl, rfl, rfl⟩, Ext.refl _⟩
  | some a =>
    intro b1 h1 n1
    have own1 : OwnA encU8 1 5 h.size h1 (some ⟨b1, 0, none⟩) 0 ([] : List Int) := .inr ⟨b1, [], rfl, n1.ge (Ext.refl _), n1.this, rfl, Nat.le_refl _⟩
    refine xappend_many (xs := []) (ys := l) u8Info u8Zero rfl (by decide) encU8_len encU8_one own1 rfl rfl (row_readsOf encU8_len (n1.ext.row hr)) (by omega) n1.ext.size fun A' c' h' o k => ?_
    exact ⟨A', c', by rw [Nat.zero_add]; rfl, o, k.ext n1.ext (fun b' e => by cases e; exact n1.ge (Ext.refl _))⟩
theorem row_none {α : Type} {enc : α → List Value} {sz : Nat} {xs : List α} (H : Row enc sz h none xs) : xs = [] := by
  cases xs with
  | nil => rfl
  | cons x l => obtain ⟨a, ha, _⟩ := H 0 x rfl; cases ha
def frmV (d s : Int) (t : Bool) (c ty : Int) (A : Option Addr) (n cp : Nat) : List Value := [.int .u64 d, .int .u64 s, .bool t, .int .u16 c, .int .u16 ty, .slice A n cp]
theorem Stored.fill0 {h h' : Heap} {b : Nat} {zs vs : List Value} {T : TypeId} {f : Nat × Nat} (s : Stored h ⟨b, 0, none⟩ vs h') (H : h[b]? = some (.cells zs.toArray T f)) (hl : zs.length = vs.length) : h'[b]? = some (.cells vs.toArray T f) := by
  have := s.put H
  rwa [lset_full vs zs hl] at this
theorem fParse_spec {A : Option Addr} {n c : Nat} {bs : List Int} (hr : Row encU8 1 h A bs) (hl : bs.length = n) (hn : n ≤ 210) (hc : n ≤ c) (hb : IsB bs) :
    HCalls Tryz.prog 105 #[.slice A n c] h (fun v h' => ∃ d s t tc ty A' n' c', v = .tuple #[.agg (frmV d s t tc ty A' n' c').toArray, .int .i64 (parseE bs)] ∧ (parseE bs = 0 → t = tagged bs ∧ tc = tciM bs ∧ ((∀ y ∈ bs, y = 0) → d = 0 ∧ s = 0)) ∧ Ext h h') := by
  refine xcalls env_fParse Tryz.func105 rfl (by kernel_rfl) rfl (by kernel_rfl) ?_
  unfold parseE
  rw [hl]
  intro b h1 n1
  refine xif_of (fun q => ?_) (fun q => ?_)
  · have q : (n : Int) < 60 := of_decide_eq_true q
    refine ⟨rfl, rfl, canset_blk n1.this rfl, fun h2 s2 => ?_⟩
    have hb2 : h2[b]? = some (.cells (frmV 0 0 false 0 0 none 0 0).toArray 140 (0, 0)) := n1.fill rfl s2
    exact ⟨_, rfl, reads_all hb2, 0, 0, false, 0, 0, none, 0, 0, by rw [if_pos (by omega)]; rfl, by rw [if_pos (by omega)]; exact fun e => absurd e (by decide), n1.ext.stored s2 (n1.ge (Ext.refl _))⟩
  have q : ¬ (n : Int) < 60 := of_decide_eq_false q
  rw [if_neg (by omega)]
  refine (fBehind_spec (n1.ext.row hr) hl (by omega) hc hb).mono ?_
  rintro v h2 ⟨rfl, rfl⟩
  have bN : behindN bs = 16 ∨ behindN bs = 12 := by unfold behindN; split <;> simp
  have e1 : IntKind.i64.wrap ((behindN bs : Nat) + 2 : Int) = ((behindN bs + 2 : Nat) : Int) := by rw [wrap_i64 (by omega) (by omega)]; omega
  have e2 : IntKind.i64.wrap (IntKind.i64.wrap ((behindN bs : Nat) + 2 : Int) + 1500) = ((behindN bs + 1502 : Nat) : Int) := by rw [e1, wrap_i64 (by omega) (by omega)]; omega
  refine xif_of (fun q2 => ?_) (fun _ => ?_)
  · have q2 : (n : Int) > IntKind.i64.wrap (IntKind.i64.wrap ((behindN bs : Nat) + 2 : Int) + 1500) := of_decide_eq_true q2
    rw [e2] at q2
    omega
  have hb2 : h2[b]? = some (.cells (frmV 0 0 false 0 0 none 0 0).toArray 140 (0, 0)) := n1.this
  have kt : (IntKind.i64.wrap (((behindN bs : Nat) : Int) + 2)).toNat = behindN bs + 2 := by rw [e1, Int.toNat_natCast]
  have r1 := fun (g : Heap) (x : Ext h2 g) => row_from ((n1.ext.trans x).row hr) ((behindN bs : Nat) : Int).toNat (q := (c : Int).toNat = ((behindN bs : Nat) : Int).toNat) (inst := inferInstance) (fun e => by omega)
  have r2 := fun (g : Heap) (x : Ext h2 g) => row_from ((n1.ext.trans x).row hr) (IntKind.i64.wrap (((behindN bs : Nat) : Int) + 2)).toNat (q := (c : Int).toNat = (IntKind.i64.wrap (((behindN bs : Nat) : Int) + 2)).toNat) (inst := inferInstance) (fun e => by omega)
  have hnone : ∀ k : Nat, n ≤ c → (if (c : Int).toNat = k then A else Option.map (fun a => a.add (k * 1)) A) = none → bs.drop k = [] := fun k _ e => by
    by_cases q : (c : Int).toNat = k
    · exact List.drop_eq_nil_of_le (by omega)
    · rw [if_neg q] at e
      cases A with
      | none => rw [row_none hr]; exact List.drop_nil
      | some a => cases e
  refine ⟨Nat × Option Addr × Nat, fun z => [(0, .slice A n c), (2, .pointer (some ⟨b, 0, none⟩)), (7, .pointer (some ⟨z.1, 0, none⟩))],
    fun z h' => h'[z.1]? = some (.cells (frmV 0 0 (tagged bs) (tciM bs) (two bs (behindN bs)) z.2.1 (n - (behindN bs + 2)) z.2.2).toArray 140 (0, 0)) ∧ h'[b]? = some (.cells (frmV 0 0 false 0 0 none 0 0).toArray 140 (0, 0)) ∧ Ext h h' ∧ b ≠ z.1 ∧ h.size ≤ z.1, ?_, ?_⟩
  · refine ⟨by decide, by omega, by omega, by omega, Int.le_refl _, by decide, by rw [e1]; omega, by rw [e1]; omega, by omega, Int.le_refl _, ?_, ?_⟩
    · refine (fTwo_spec (r1 _ (Ext.refl _)) (by rw [List.length_drop, hl]; rfl) (by have : ((behindN bs : Nat) : Int).toNat = behindN bs := Int.toNat_natCast _; omega) (fun y hy => hb y (List.mem_of_mem_drop hy))).mono ?_
      rintro v g3 ⟨rfl, rfl⟩
      refine ⟨?_, ?_⟩
      · refine (bClone_spec (r2 _ (Ext.refl _)) (hnone _ hc) (n := (n : Int).toNat - (IntKind.i64.wrap (((behindN bs : Nat) : Int) + 2)).toNat) (by rw [List.length_drop, hl]; rfl) (by rw [List.length_drop, hl]; omega)).mono ?_
        rintro v g4 ⟨A', c', rfl, oA, y4⟩
        have z4 := (Ext.refl _).trans y4
        intro fb g5 m
        have z5 := z4.trans m.ext
        have fbge := m.ge z4
        refine ⟨rfl, rfl, canset_blk (m.this) rfl, fun h5 s5 => ?_⟩
        have hfb : h5[fb]? = some (.cells (frmV 0 0 (tagged bs) (tciM bs) (two bs (behindN bs)) A' (n - (behindN bs + 2)) c').toArray 140 (0, 0)) := by
          have := s5.fill0 (m.this) rfl
          rw [two_drop, Int.toNat_natCast, Int.toNat_natCast, kt] at this
          exact this
        have lt := blk_lt hb2
        have ne : b ≠ fb := by omega
        exact ⟨(fb, A', c'), ⟨rfl, rfl, rfl, trivial⟩, hfb, s5.blk (z5.blk hb2) ne, (n1.ext.trans z5).stored s5 (Nat.le_trans n1.ext.size fbge), ne, Nat.le_trans n1.ext.size fbge⟩
      · intro fb g4 m
        have z4 := (Ext.refl _).trans m.ext
        have fbge := m.ge (Ext.refl _)
        refine (bClone_spec (r2 _ z4) (hnone _ hc) (n := (n : Int).toNat - (IntKind.i64.wrap (((behindN bs : Nat) : Int) + 2)).toNat) (by rw [List.length_drop, hl]; rfl) (by rw [List.length_drop, hl]; omega)).mono ?_
        rintro v g5 ⟨A', c', rfl, oA, y5⟩
        have z5 := z4.trans y5
        refine ⟨rfl, rfl, canset_blk (y5.blk m.this) rfl, fun h5 s5 => ?_⟩
        have hfb : h5[fb]? = some (.cells (frmV 0 0 (tagged bs) (tciM bs) (two bs (behindN bs)) A' (n - (behindN bs + 2)) c').toArray 140 (0, 0)) := by
          have := s5.fill0 (y5.blk m.this) rfl
          rw [two_drop, Int.toNat_natCast, Int.toNat_natCast, kt] at this
          exact this
        have lt := blk_lt hb2
        have ne : b ≠ fb := by omega
        exact ⟨(fb, A', c'), ⟨rfl, rfl, rfl, trivial⟩, hfb, s5.blk (z5.blk hb2) ne, (n1.ext.trans z5).stored s5 (Nat.le_trans n1.ext.size fbge), ne, Nat.le_trans n1.ext.size fbge⟩
    · intro fb g3 m
      have z3 := (Ext.refl _).trans m.ext
      have fbge := m.ge (Ext.refl _)
      refine (fTwo_spec (r1 _ z3) (by rw [List.length_drop, hl]; rfl) (by have : ((behindN bs : Nat) : Int).toNat = behindN bs := Int.toNat_natCast _; omega) (fun y hy => hb y (List.mem_of_mem_drop hy))).mono ?_
      rintro v g4 ⟨rfl, rfl⟩
      refine (bClone_spec (r2 _ z3) (hnone _ hc) (n := (n : Int).toNat - (IntKind.i64.wrap (((behindN bs : Nat) : Int) + 2)).toNat) (by rw [List.length_drop, hl]; rfl) (by rw [List.length_drop, hl]; omega)).mono ?_
      rintro v g5 ⟨A', c', rfl, oA, y5⟩
      have z5 := z3.trans y5
      refine ⟨rfl, rfl, canset_blk (y5.blk m.this) rfl, fun h5 s5 => ?_⟩
      have hfb : h5[fb]? = some (.cells (frmV 0 0 (tagged bs) (tciM bs) (two bs (behindN bs)) A' (n - (behindN bs + 2)) c').toArray 140 (0, 0)) := by
        have := s5.fill0 (y5.blk m.this) rfl
        rw [two_drop, Int.toNat_natCast, Int.toNat_natCast, kt] at this
        exact this
      have lt := blk_lt hb2
      have ne : b ≠ fb := by omega
      exact ⟨(fb, A', c'), ⟨rfl, rfl, rfl, trivial⟩, hfb, s5.blk (z5.blk hb2) ne, (n1.ext.trans z5).stored s5 (Nat.le_trans n1.ext.size fbge), ne, Nat.le_trans n1.ext.size fbge⟩
  rintro ⟨fb, A', c'⟩ h3 ⟨hfb, hbb, x3, ne, fge⟩
  simp only at hfb hbb ne fge
  have tr := two_range hb (behindN bs)
  refine ⟨_, cell_blk hfb rfl, _, cell_blk hfb rfl, ?_⟩
  refine (fForm_spec tr).mono ?_
  rintro v h4 ⟨rfl, rfl⟩
  have ef : (((n - (behindN bs + 2) : Nat)) : Int) = (n : Int) - (behindN bs + 2 : Nat) := by omega
  rw [ef]
  refine xif_of (fun q => ?_) (fun q => ?_)
  · have q : formM (two bs (behindN bs)) ((n : Int) - (behindN bs + 2 : Nat)) = false := by simpa using q
    refine ⟨rfl, rfl, canset_blk hbb rfl, fun h5 s5 => ?_⟩
    have hb5 := s5.fill0 hbb rfl
    exact ⟨_, rfl, reads_all hb5, 0, 0, false, 0, 0, none, 0, 0, by rw [q]; rfl, by rw [q]; exact fun e => absurd e (by decide), x3.stored s5 (n1.ge (Ext.refl _))⟩
  have q : formM (two bs (behindN bs)) ((n : Int) - (behindN bs + 2 : Nat)) = true := by simpa using q
  rw [q]
  refine (macOf_spec (x3.row hr) hl (by omega) hc).mono ?_
  rintro v h5 ⟨⟨m1, rfl, hz1⟩, rfl⟩
  refine ⟨rfl, rfl, canset_blk hfb rfl, fun h6 s6 => ?_⟩
  have hfb6 : h6[fb]? = some (.cells (frmV m1 0 (tagged bs) (tciM bs) (two bs (behindN bs)) A' (n - (behindN bs + 2)) c').toArray 140 (0, 0)) := s6.put hfb
  have hbb6 := s6.blk hbb ne
  have x6 : Ext h h6 := x3.stored s6 fge
  have t6 : Int.toNat 6 = 6 := rfl
  refine ⟨by decide, by decide, by omega, by omega, Int.le_refl _, ?_⟩
  refine (macOf_spec (n := (n : Int).toNat - Int.toNat 6) (row_from (x6.row hr) 6 (fun e => by omega)) (by rw [List.length_drop, hl]; rfl) (by omega) (by omega)).mono ?_
  rintro v h7 ⟨⟨m2, rfl, hz2⟩, rfl⟩
  refine ⟨rfl, rfl, canset_blk hfb6 rfl, fun h8 s8 => ?_⟩
  have hfb8 : h8[fb]? = some (.cells (frmV m1 m2 (tagged bs) (tciM bs) (two bs (behindN bs)) A' (n - (behindN bs + 2)) c').toArray 140 (0, 0)) := s8.put hfb6
  have hbb8 := s8.blk hbb6 ne
  have x8 : Ext h h8 := x6.stored s8 fge
  refine ⟨_, rfl, reads_all hfb8, rfl, rfl, canset_blk hbb8 rfl, fun h9 s9 => ?_⟩
  have hbb9 := s9.fill0 hbb8 rfl
  exact ⟨_, rfl, reads_all hbb9, m1, m2, tagged bs, tciM bs, two bs (behindN bs), A', n - (behindN bs + 2), c', rfl, fun _ => ⟨rfl, rfl, fun hz => ⟨hz1 hz, hz2 fun y hy => hz y (List.mem_of_mem_drop hy)⟩⟩, x8.stored s9 (n1.ge (Ext.refl _))⟩
end
end Go.Proofs.YtjjempefncgfhaaGreatDoorE
