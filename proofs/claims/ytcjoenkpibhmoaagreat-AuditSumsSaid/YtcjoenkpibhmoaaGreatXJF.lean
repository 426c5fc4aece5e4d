/- Frames: with another tag, or without: program and document. Conditions: the bytes are bytes, and not many. -/
import Derived.Test.YtcjoenkpibhmoaaGreatXByt
import Derived.Test.YtcjoenkpibhmoaaGreatXMd
import Derived.Test.YtcjoenkpibhmoaaGreatXBk
import Derived.Test.YtcjoenkpibhmoaaGreatXH6
set_option linter.unusedVariables false
set_option linter.unusedSimpArgs false
set_option maxRecDepth 100000
namespace Go.Proofs.YtcjoenkpibhmoaaGreatE
open Go Go.Proofs
def env_fTwo : Nat → Ann
  | 1 => ⟨.op 0 [] <| .op 1 [] <| .op 2 [] <| .op 3 [] <| .op 4 [] <| .op 5 [] <| .op 6 [] <| .op 7 [] <| .op 8 [] <| .op 9 [] <| .op 10 [] <| .nil, [0, 1, 3, 7, 15, 0, 32, 96, 224, 511, 1023], false⟩
  | _ => ⟨.nil, [], false⟩
def env_fParse : Nat → Ann
  | 6 => ⟨.op 0 [] <| .op 1 [] <| .op 2 [] <| .op 3 [] <| .op 4 [] <| .op 6 [] <| .op 7 [] <| .op 8 [] <| .op 9 [] <| .alt (.op 5 [] <| .alt (.op 10 [] <| .op 11 [] <| .op 12 [] <| .op 13 [] <| .nil) (.op 12 [] <| .op 10 [] <| .op 11 [] <| .op 13 [] <| .nil)) (.op 12 [] <| .op 5 [] <| .op 10 [] <| .op 11 [] <| .op 13 [] <| .nil), [0, 0, 0, 0, 12, 28, 0, 0, 128, 448, 1020, 2047, 0, 8191], false⟩
  | 7 => ⟨.nil, [], true⟩
  | _ => ⟨.nil, [], false⟩
def env_r2Out : Nat → Ann
  | 6 => ⟨.nil, [], true⟩
  | 9 => ⟨.nil, [], true⟩
  | 11 => ⟨.op 0 [] <| .op 3 [] <| .op 4 [] <| .op 5 [] <| .op 6 [] <| .op 7 [] <| .op 8 [] <| .op 9 [] <| .op 1 [4] <| .op 2 [4] <| .op 10 [] <| .op 11 [] <| .op 12 [] <| .nil, [0, 0, 3, 0, 8, 24, 56, 0, 128, 504, 1023, 2047, 4095], false⟩
  | 12 => ⟨.nil, [], true⟩
  | _ => ⟨.nil, [], false⟩
def env_r2Parse : Nat → Ann
  | 3 => ⟨.op 0 [] <| .op 2 [] <| .op 3 [] <| .op 5 [] <| .alt (.op 1 [] <| .alt (.op 4 [] <| .alt (.op 6 [] <| .op 7 [] <| .op 8 [] <| .op 9 [] <| .nil) (.op 8 [] <| .op 6 [] <| .op 7 [] <| .op 9 [] <| .nil)) (.op 8 [] <| .op 4 [] <| .op 6 [] <| .op 7 [] <| .op 9 [] <| .nil)) (.op 8 [] <| .op 1 [] <| .op 4 [] <| .op 6 [] <| .op 7 [] <| .op 9 [] <| .nil), [0, 1, 0, 4, 15, 0, 63, 127, 0, 511], false⟩
  | 4 => ⟨.nil, [], true⟩
  | 8 => ⟨.nil, [], true⟩
  | _ => ⟨.nil, [], false⟩
def env_r2Two : Nat → Ann
  | 1 => ⟨.op 0 [] <| .op 1 [] <| .op 2 [] <| .op 3 [] <| .op 4 [] <| .op 5 [] <| .op 6 [] <| .op 7 [] <| .op 8 [] <| .op 9 [] <| .op 10 [] <| .op 11 [] <| .op 12 [] <| .op 13 [] <| .nil, [0, 0, 3, 7, 15, 31, 0, 0, 128, 448, 960, 1984, 4095, 8191], false⟩
  | _ => ⟨.nil, [], false⟩
theorem row_from {α : Type} {enc : α → List Value} {sz : Nat} {h : Heap} {A : Option Addr} {xs : List α} (H : Row enc sz h A xs) (k : Nat) {q : Prop} {inst : Decidable q} (hq : q → xs.length ≤ k) : Row enc sz h (@ite _ q inst A (Option.map (fun a => a.add (k * sz)) A)) (xs.drop k) := by
  intro i x hx
  rw [List.getElem?_drop] at hx
  have hl := (List.getElem?_eq_some_iff.1 hx).1
  obtain ⟨a, hA, hr⟩ := H (k + i) x hx
  rw [if_neg (fun h => by have := hq h; omega), hA]
  refine ⟨_, rfl, ?_⟩
  rw [add_add, ← Nat.add_mul]
  exact hr
/-- Two bytes as a number. -/
def two (bs : List Int) (i : Nat) : Int := bs.getD i 0 * 256 + bs.getD (i + 1) 0
def tagged (bs : List Int) : Bool := decide (two bs 12 = 33024)
def behindN (bs : List Int) : Nat := if tagged bs = true then 16 else 12
def formM (t n : Int) : Bool := decide (1536 ≤ t ∨ (t ≤ 1500 ∧ t ≤ n))
def parseE (bs : List Int) : Int := if bs.length < 60 then 2 else if formM (two bs (behindN bs)) ((bs.length : Int) - (behindN bs + 2 : Nat)) = true then 0 else 4
def outE (bs : List Int) (t : Bool) (vid : Int) : Int := if parseE bs ≠ 0 then parseE bs else if t = true ∧ (vid < 1 ∨ 4094 < vid) then 6 else 0
def tciM (bs : List Int) : Int := if tagged bs = true then two bs 14 else 0
def padM (l : List Int) : List Int := l ++ List.replicate (60 - l.length) 0
def tagB (t : Int) : List Int := [129, 0, t / 256, t % 256]
def outB (bs : List Int) (t : Bool) (vid : Int) : List Int :=
  padM ((bs.take 12 ++ if t = true then tagB (tciM bs / 4096 * 4096 + vid) else []) ++ bs.drop (behindN bs))
def IsB (bs : List Int) : Prop := ∀ y ∈ bs, 0 ≤ y ∧ y < 256
theorem isB_get {bs : List Int} (H : IsB bs) (i : Nat) : 0 ≤ bs.getD i 0 ∧ bs.getD i 0 < 256 := by
  rw [List.getD_eq_getElem?_getD]
  cases h : bs[i]? with
  | none => exact ⟨by decide, by decide⟩
  | some y => exact H y (List.mem_of_getElem? h)
theorem two_range {bs : List Int} (H : IsB bs) (i : Nat) : 0 ≤ two bs i ∧ two bs i < 65536 := by
  have a := isB_get H i
  have b := isB_get H (i + 1)
  unfold two; omega
theorem two_drop (bs : List Int) (k : Nat) : two (bs.drop k) 0 = two bs k := by
  unfold two
  rw [List.getD_eq_getElem?_getD, List.getD_eq_getElem?_getD, List.getElem?_drop, List.getElem?_drop, List.getD_eq_getElem?_getD, List.getD_eq_getElem?_getD]
  rfl
theorem wrapU16 (x : Int) : IntKind.u16.wrap x = x % 65536 := by simp [IntKind.wrap, IntKind.bits, IntKind.signed]
theorem or_bytes {a b : Int} (ha : 0 ≤ a ∧ a < 256) (hb : 0 ≤ b ∧ b < 256) :
    IntKind.u16.wrap (BitVec.ofInt IntKind.u16.bits (IntKind.u16.wrap (a * 2 ^ (min (8 : Int).toNat IntKind.u16.bits))) ||| BitVec.ofInt IntKind.u16.bits b).toNat = a * 256 + b := by
  obtain ⟨x, rfl⟩ : ∃ x : Nat, a = x := ⟨a.toNat, by omega⟩
  obtain ⟨y, rfl⟩ : ∃ y : Nat, b = y := ⟨b.toNat, by omega⟩
  have e8 : min (8 : Int).toNat IntKind.u16.bits = 8 := by decide
  have hb16 : IntKind.u16.bits = 16 := rfl
  rw [e8, hb16]
  simp only [wrapU16, BitVec.toNat_or, BitVec.toNat_ofInt]
  have e1 : (((x : Int) * 2 ^ 8 % 65536) % ((2 ^ 16 : Nat) : Int)).toNat = x <<< 8 := by
    rw [Nat.shiftLeft_eq]
    have : (2 : Int) ^ 8 = 256 := by decide
    rw [this]
    have : ((2 ^ 16 : Nat) : Int) = 65536 := by decide
    rw [this]
    have : (2 : Nat) ^ 8 = 256 := by decide
    rw [this]
    omega
  have e2 : ((y : Int) % ((2 ^ 16 : Nat) : Int)).toNat = y := by
    have : ((2 ^ 16 : Nat) : Int) = 65536 := by decide
    rw [this]; omega
  rw [e1, e2, ← Nat.shiftLeft_add_eq_or_of_lt (show y < 2 ^ 8 by omega), Nat.shiftLeft_eq]
  have : (2 : Nat) ^ 8 = 256 := by decide
  rw [this]
  omega
theorem wU16 {x : Int} (h0 : 0 ≤ x) (h1 : x < 65536) : IntKind.u16.wrap x = x := by rw [wrapU16]; omega
theorem low12 {a v : Int} (ha : 0 ≤ a ∧ a < 65536) (hv : 0 ≤ v ∧ v < 4096) :
    IntKind.u16.wrap (BitVec.ofInt IntKind.u16.bits (IntKind.u16.wrap (BitVec.ofInt IntKind.u16.bits a &&& ~~~ (BitVec.ofInt IntKind.u16.bits 4095)).toNat) ||| BitVec.ofInt IntKind.u16.bits v).toNat = a / 4096 * 4096 + v := by
  obtain ⟨x, rfl⟩ : ∃ x : Nat, a = x := ⟨a.toNat, by omega⟩
  obtain ⟨y, rfl⟩ : ∃ y : Nat, v = y := ⟨v.toNat, by omega⟩
  have hb16 : IntKind.u16.bits = 16 := rfl
  rw [hb16]
  have e0 : (BitVec.ofInt 16 (x : Int) &&& ~~~ (BitVec.ofInt 16 4095)) = (BitVec.ofInt 16 (x : Int) >>> 12) <<< 12 := by
    have k : ∀ i : Fin 16, (~~~ (BitVec.ofInt 16 4095)).getLsbD i.1 = decide (12 ≤ i.1) := by decide
    apply BitVec.eq_of_getLsbD_eq
    intro i hi
    rw [BitVec.getLsbD_and, k ⟨i, hi⟩, BitVec.getLsbD_shiftLeft, BitVec.getLsbD_ushiftRight]
    by_cases h : 12 ≤ i
    · rw [show 12 + (i - 12) = i by omega]; simp [h, hi]
    · simp [h]
  have e1 : (BitVec.ofInt 16 (x : Int)).toNat = x := by
    rw [BitVec.toNat_ofInt]
    have : ((2 ^ 16 : Nat) : Int) = 65536 := by decide
    rw [this]; omega
  have e3 : (BitVec.ofInt 16 (y : Int)).toNat = y := by
    rw [BitVec.toNat_ofInt]
    have : ((2 ^ 16 : Nat) : Int) = 65536 := by decide
    rw [this]; omega
  have e2 : ((BitVec.ofInt 16 (x : Int) >>> 12) <<< 12).toNat = (x / 4096) <<< 12 := by
    rw [BitVec.toNat_shiftLeft, BitVec.toNat_ushiftRight, e1, Nat.shiftRight_eq_div_pow]
    have : (2 : Nat) ^ 12 = 4096 := by decide
    rw [this, Nat.mod_eq_of_lt]
    rw [Nat.shiftLeft_eq, this]
    have : (2 : Nat) ^ 16 = 65536 := by decide
    omega
  have e4 : (BitVec.ofInt 16 (IntKind.u16.wrap ((((x / 4096) <<< 12 : Nat)) : Int))).toNat = (x / 4096) <<< 12 := by
    have hl : (x / 4096) <<< 12 < 65536 := by
      rw [Nat.shiftLeft_eq]
      have : (2 : Nat) ^ 12 = 4096 := by decide
      rw [this]; omega
    rw [wrapU16, BitVec.toNat_ofInt]
    have : ((2 ^ 16 : Nat) : Int) = 65536 := by decide
    rw [this]; omega
  rw [e0, e2, BitVec.toNat_or, e4, e3, ← Nat.shiftLeft_add_eq_or_of_lt (show y < 2 ^ 12 by omega), wrapU16, Nat.shiftLeft_eq]
  have : (2 : Nat) ^ 12 = 4096 := by decide
  rw [this]
  omega
section
variable {h : Heap}
theorem u8_at {A : Option Addr} {bs : List Int} (hr : Row encU8 1 h A bs) {i : Nat} (hi : i < bs.length) : ∃ a, A = some a ∧ cell h (a.add (i * 1)) = some (.int .u8 (bs.getD i 0)) := by
  obtain ⟨a, hA, hrd⟩ := hr i bs[i] (List.getElem?_eq_getElem hi)
  have c := hrd.get 0 (v := .int .u8 bs[i]) rfl
  rw [add_zero'] at c
  refine ⟨a, hA, ?_⟩
  rw [c, List.getD_eq_getElem?_getD, List.getElem?_eq_getElem hi]; rfl
theorem fTwo_spec {A : Option Addr} {n c : Nat} {bs : List Int} (hr : Row encU8 1 h A bs) (hl : bs.length = n) (h2 : 2 ≤ n) (hb : IsB bs) : HCalls Tryz.prog 146 #[.slice A n c] h (fun v h' => v = .int .u16 (two bs 0) ∧ h' = h) := by
  refine xcalls env_fTwo Tryz.func146 rfl (by kernel_rfl) rfl (by kernel_rfl) ?_
  obtain ⟨a, hA, c0⟩ := u8_at hr (i := 0) (by omega)
  obtain ⟨a', hA', c1⟩ := u8_at hr (i := 1) (by omega)
  refine ⟨a, hA, by decide, by omega, _, c0, by decide, a', hA', by decide, by omega, _, c1, ?_⟩
  have g0 := isB_get hb 0
  have g1 := isB_get hb 1
  refine ⟨congrArg (Value.int .u16) ?_, rfl⟩
  rw [wU16 (x := bs.getD 0 0) (by omega) (by omega), wU16 (x := bs.getD 1 0) (by omega) (by omega), or_bytes g0 g1]; rfl
theorem fBehind_spec {A : Option Addr} {n c : Nat} {bs : List Int} (hr : Row encU8 1 h A bs) (hl : bs.length = n) (h2 : 60 ≤ n) (hc : n ≤ c) (hb : IsB bs) : HCalls Tryz.prog 113 #[.slice A n c] h (fun v h' => v = .tuple #[.int .i64 (behindN bs : Nat), .bool (tagged bs), .int .u16 (tciM bs)] ∧ h' = h) := by
  refine xcalls env0 Tryz.func113 rfl (by kernel_rfl) rfl (by kernel_rfl) ?_
  have t12 : Int.toNat 12 = 12 := rfl
  have t14 : Int.toNat 14 = 14 := rfl
  refine ⟨by decide, by decide, by omega, by omega, Int.le_refl _, ?_⟩
  refine (fTwo_spec (row_from hr 12 (fun e => by omega)) (by rw [List.length_drop]; omega) (by omega) (fun y hy => hb y (List.mem_of_mem_drop hy))).mono ?_
  rintro v h2 ⟨rfl, rfl⟩
  rw [two_drop]
  refine xif_of (fun q => ?_) (fun q => ?_)
  · have q : ¬ two bs 12 = 33024 := by simpa using q
    have e : tagged bs = false := decide_eq_false q
    exact ⟨by unfold behindN tciM; rw [e]; rfl, rfl⟩
  · have q : two bs 12 = 33024 := by simpa using q
    have e : tagged bs = true := decide_eq_true q
    refine ⟨by decide, by decide, by omega, by omega, Int.le_refl _, ?_⟩
    refine (fTwo_spec (row_from hr 14 (fun e => by omega)) (by rw [List.length_drop]; omega) (by omega) (fun y hy => hb y (List.mem_of_mem_drop hy))).mono ?_
    rintro v h3 ⟨rfl, rfl⟩
    rw [two_drop]
    exact ⟨by unfold behindN tciM; rw [e]; rfl, rfl⟩
theorem fForm_spec {t n : Int} (ht : 0 ≤ t ∧ t < 65536) : HCalls Tryz.prog 147 #[.int .u16 t, .int .i64 n] h (fun v h' => v = .bool (formM t n) ∧ h' = h) := by
  refine xcalls env0 Tryz.func147 rfl (by kernel_rfl) rfl (by kernel_rfl) ?_
  unfold formM
  refine xif_of (fun q => ?_) (fun q => ?_)
  · have q : t ≥ 1536 := of_decide_eq_true q
    exact ⟨by rw [decide_eq_true (.inl q)]; rfl, rfl⟩
  have q : ¬ t ≥ 1536 := of_decide_eq_false q
  refine xif_of (fun q2 => ?_) (fun q2 => ?_)
  · have q2 : t ≤ 1500 := of_decide_eq_true q2
    refine ⟨congrArg Value.bool ?_, rfl⟩
    rw [wrap_i64 (by omega) (by omega), Bool.eq_iff_iff, decide_eq_true_iff, decide_eq_true_iff]; omega
  · have q2 : ¬ t ≤ 1500 := of_decide_eq_false q2
    exact ⟨by rw [decide_eq_false (by omega)]; rfl, rfl⟩
theorem macOf_spec {A : Option Addr} {n c : Nat} {bs : List Int} (hr : Row encU8 1 h A bs) (hl : bs.length = n) (h2 : 6 ≤ n) (hc : n ≤ c) : HCalls Tryz.prog 148 #[.slice A n c] h (fun v h' => (∃ m, v = .tuple #[.int .u64 m, .int .i64 0]) ∧ h' = h) := by
  refine xcalls env0 Tryz.func148 rfl (by kernel_rfl) rfl (by kernel_rfl) ?_
  refine xif_of (fun q => absurd (show (n : Int) < 6 from of_decide_eq_true q) (by omega)) (fun _ => ?_)
  refine ⟨by decide, by decide, by decide, by omega, by omega, ?_⟩
  have t6 : Int.toNat 6 = 6 := rfl
  have t0 : Int.toNat 0 = 0 := rfl
  have hr6 := row_first hr 6 (q := (c : Int).toNat = Int.toNat 0) (inst := inferInstance) (f := fun x => x.add (Int.toNat 0 * 1)) (fun a => add_zero' a)
  have hl6 : (bs.take 6).length = 6 := by rw [List.length_take]; omega
  obtain ⟨A6, hA6⟩ : ∃ A6, (if (c : Int).toNat = Int.toNat 0 then A else Option.map (fun x => x.add (Int.toNat 0 * 1)) A) = A6 := ⟨_, rfl⟩
  rw [hA6] at hr6
  refine ⟨Nat × Int, fun z => [(4, .int .u64 z.2), (11, .slice A6 6 ((c : Int).toNat - Int.toNat 0)), (12, .int .i64 6), (13, .int .i64 z.1)], fun z h' => z.1 ≤ 6 ∧ h' = h, fun z => 6 - z.1, (0, 0), ⟨rfl, congrArg (fun a => some (Value.slice a 6 ((c : Int).toNat - Int.toNat 0))) hA6, rfl, rfl, trivial⟩, ⟨by decide, rfl⟩, ?_⟩
  rintro ⟨i, m⟩ h3 ⟨hi, rfl⟩
  simp only at hi
  refine xif_of (fun hlt => ?_) (fun hge => ?_)
  · have hlt : (i : Int) < 6 := of_decide_eq_true hlt
    obtain ⟨a, hA, c0⟩ := u8_at hr6 (i := i) (by omega)
    refine ⟨a, hA, by omega, hlt, _, c0, ?_⟩
    refine ⟨by decide, ?_⟩
    exact ⟨(i + 1, _), ⟨rfl, rfl, rfl, slot_inc (by omega), trivial⟩, ⟨by show i + 1 ≤ 6; omega, rfl⟩, by show 6 - (i + 1) < 6 - i; omega⟩
  · exact ⟨⟨_, rfl⟩, rfl⟩
theorem u8Info : (Tryz.prog.info? 5).map (fun i => (i.size, i.bytes)) = some (1, 1) := by kernel_rfl
theorem u8Zero : xzero Tryz.prog 5 = some (encU8 0) := by kernel_rfl
theorem bClone_spec {A : Option Addr} {c n : Nat} {l : List Int} (hr : Row encU8 1 h A l) (hA : A = none → l = []) (hl : l.length = n) (hn : l.length ≤ 100000) :
    HCalls Tryz.prog 114 #[.slice A n c] h (fun v h' => ∃ A' c', v = .slice A' n c' ∧ OwnA encU8 1 5 h.size h' A' c' l ∧ Ext h h') := by
  subst hl
  refine xcalls env0 Tryz.func114 rfl (by kernel_rfl) rfl (by kernel_rfl) ?_
  cases A with
  | none =>
    obtain rfl := hA rfl
    exact ⟨none, 0, rfl, .inl ⟨rfl, rfl, rfl⟩, Ext.refl _⟩
  | some a =>
    intro b1 h1 n1
    have own1 : OwnA encU8 1 5 h.size h1 (some ⟨b1, 0, none⟩) 0 ([] : List Int) := .inr ⟨b1, [], rfl, n1.ge (Ext.refl _), n1.this, rfl, Nat.le_refl _⟩
    refine xappend_many (xs := []) (ys := l) u8Info u8Zero rfl (by decide) encU8_len encU8_one own1 rfl rfl (row_readsOf encU8_len (n1.ext.row hr)) (by omega) n1.ext.size fun A' c' h' o k => ?_
    exact ⟨A', c', by rw [Nat.zero_add]; rfl, o, k.ext n1.ext (fun b' e => by cases e; exact n1.ge (Ext.refl _))⟩
theorem row_none {α : Type} {enc : α → List Value} {sz : Nat} {xs : List α} (H : Row enc sz h none xs) : xs = [] := by
  cases xs with
  | nil => rfl
  | cons x l => obtain ⟨a, ha, _⟩ := H 0 x rfl; cases ha
theorem fPut_spec {h0 : Heap} {A : Option Addr} {n c : Nat} {xs : List Int} {t : Int} (own : OwnA encU8 1 5 h0.size h A c xs) (e : Ext h0 h) (hl : xs.length = n) (hn : n ≤ 1000) (ht : 0 ≤ t ∧ t < 65536) :
    HCalls Tryz.prog 115 #[.slice A n c, .int .u16 t] h (fun v h' => ∃ A' c', v = .slice A' (n + 2) c' ∧ OwnA encU8 1 5 h0.size h' A' c' (xs ++ [t / 256, t % 256]) ∧ Ext h0 h') := by
  refine xcalls env0 Tryz.func115 rfl (by kernel_rfl) rfl (by kernel_rfl) ?_
  refine ⟨by decide, ?_⟩
  intro b1 h1 n1
  have e8 : min (8 : Int).toNat IntKind.u16.bits = 8 := by decide
  have hd : IntKind.u8.wrap (t.fdiv (2 ^ (min (8 : Int).toNat IntKind.u16.bits))) = t / 256 := by
    rw [e8, Int.fdiv_eq_ediv_of_nonneg _ (by decide)]
    have : (2 : Int) ^ 8 = 256 := by decide
    rw [this, wrap_u8 (by omega) (by omega)]
  have hm : IntKind.u8.wrap t = t % 256 := by rw [IntKind.wrap_u8]
  have hb : h1[b1]? = some (.cells ([t / 256, t % 256].flatMap encU8).toArray 5 (0, 0)) := by
    have := n1.this
    rw [hd, hm] at this
    exact this
  refine xappend_many (xs := xs) (ys := [t / 256, t % 256]) u8Info u8Zero rfl (by decide) encU8_len encU8_one (own.ext n1.ext) hl rfl (reads_all hb) (by omega) (Nat.le_trans e.size n1.ext.size) fun A' c' h' o k => ?_
  exact ⟨A', c', rfl, o, k.ext (e.trans n1.ext) (fun b' q => own.ge b' q)⟩
theorem fPadded_spec {h0 : Heap} {A : Option Addr} {n c : Nat} {xs : List Int} (own : OwnA encU8 1 5 h0.size h A c xs) (e : Ext h0 h) (hl : xs.length = n) (hn : n ≤ 1000) :
    HCalls Tryz.prog 116 #[.slice A n c] h (fun v h' => ∃ A' c', v = .slice A' (padM xs).length c' ∧ OwnA encU8 1 5 h0.size h' A' c' (padM xs) ∧ Ext h0 h') := by
  refine xcalls env0 Tryz.func116 rfl (by kernel_rfl) rfl (by kernel_rfl) ?_
  have em : (if (0 : Int) < IntKind.i64.wrap (60 - (n : Int)) then IntKind.i64.wrap (60 - (n : Int)) else 0) = ((60 - n : Nat) : Int) := by
    rw [wrap_i64 (by omega) (by omega)]
    split <;> omega
  have hp : padM xs = xs ++ List.replicate (60 - n) 0 := by unfold padM; rw [hl]
  have hpl : (padM xs).length = n + (60 - n) := by rw [hp, List.length_append, List.length_replicate, hl]
  refine xappend_zeros (sT := 61) (xT := 3) (kx := .i64) (z0 := 0) (m := 60 - n) rfl rfl u8Info u8Zero rfl rfl (by decide) (by decide) encU8_len encU8_one own hl (by omega) e.size em fun A' c' h' o k => ?_
  exact ⟨A', c', by rw [hpl]; rfl, by rw [hp]; exact o, k.ext e (fun b' q => own.ge b' q)⟩
def frmV (d s : Int) (t : Bool) (c ty : Int) (A : Option Addr) (n cp : Nat) : List Value := [.int .u64 d, .int .u64 s, .bool t, .int .u16 c, .int .u16 ty, .slice A n cp]
theorem Stored.fill0 {h h' : Heap} {b : Nat} {zs vs : List Value} {T : TypeId} {f : Nat × Nat} (s : Stored h ⟨b, 0, none⟩ vs h') (H : h[b]? = some (.cells zs.toArray T f)) (hl : zs.length = vs.length) : h'[b]? = some (.cells vs.toArray T f) := by
  have := s.put H
  rwa [lset_full vs zs hl] at this
theorem fParse_spec {A : Option Addr} {n c : Nat} {bs : List Int} (hr : Row encU8 1 h A bs) (hl : bs.length = n) (hn : n ≤ 210) (hc : n ≤ c) (hb : IsB bs) :
    HCalls Tryz.prog 112 #[.slice A n c] h (fun v h' => ∃ d s t tc ty A' n' c', v = .tuple #[.agg (frmV d s t tc ty A' n' c').toArray, .int .i64 (parseE bs)] ∧ Ext h h') := by
  refine xcalls env_fParse Tryz.func112 rfl (by kernel_rfl) rfl (by kernel_rfl) ?_
  unfold parseE
  rw [hl]
  intro b h1 n1
  refine xif_of (fun q => ?_) (fun q => ?_)
  · have q : (n : Int) < 60 := of_decide_eq_true q
    refine ⟨rfl, rfl, canset_blk n1.this rfl, fun h2 s2 => ?_⟩
    have hb2 : h2[b]? = some (.cells (frmV 0 0 false 0 0 none 0 0).toArray 200 (0, 0)) := n1.fill rfl s2
    exact ⟨_, rfl, reads_all hb2, 0, 0, false, 0, 0, none, 0, 0, by rw [if_pos (by omega)]; rfl, n1.ext.stored s2 (n1.ge (Ext.refl _))⟩
  have q : ¬ (n : Int) < 60 := of_decide_eq_false q
  rw [if_neg (by omega)]
  refine (fBehind_spec (n1.ext.row hr) hl (by omega) hc hb).mono ?_
  rintro v h2 ⟨rfl, rfl⟩
  have bN : behindN bs = 16 ∨ behindN bs = 12 := by unfold behindN; split <;> simp
  have e1 : IntKind.i64.wrap ((behindN bs : Nat) + 2 : Int) = ((behindN bs + 2 : Nat) : Int) := by rw [wrap_i64 (by omega) (by omega)]; omega
  have e2 : IntKind.i64.wrap (IntKind.i64.wrap ((behindN bs : Nat) + 2 : Int) + 1500) = ((behindN bs + 1502 : Nat) : Int) := by rw [e1, wrap_i64 (by omega) (by omega)]; omega
  refine xif_of (fun q2 => ?_) (fun _ => ?_)
  · have q2 : (n : Int) > IntKind.i64.wrap (IntKind.i64.wrap ((behindN bs : Nat) + 2 : Int) + 1500) := of_decide_eq_true q2
    rw [e2] at q2
    omega
  have hb2 : h2[b]? = some (.cells (frmV 0 0 false 0 0 none 0 0).toArray 200 (0, 0)) := n1.this
  have kt : (IntKind.i64.wrap (((behindN bs : Nat) : Int) + 2)).toNat = behindN bs + 2 := by rw [e1, Int.toNat_natCast]
  have r1 := fun (g : Heap) (x : Ext h2 g) => row_from ((n1.ext.trans x).row hr) ((behindN bs : Nat) : Int).toNat (q := (c : Int).toNat = ((behindN bs : Nat) : Int).toNat) (inst := inferInstance) (fun e => by omega)
  have r2 := fun (g : Heap) (x : Ext h2 g) => row_from ((n1.ext.trans x).row hr) (IntKind.i64.wrap (((behindN bs : Nat) : Int) + 2)).toNat (q := (c : Int).toNat = (IntKind.i64.wrap (((behindN bs : Nat) : Int) + 2)).toNat) (inst := inferInstance) (fun e => by omega)
  have hnone : ∀ k : Nat, n ≤ c → (if (c : Int).toNat = k then A else Option.map (fun a => a.add (k * 1)) A) = none → bs.drop k = [] := fun k _ e => by
    by_cases q : (c : Int).toNat = k
    · exact List.drop_eq_nil_of_le (by omega)
    · rw [if_neg q] at e
      cases A with
      | none => rw [row_none hr]; exact List.drop_nil
      | some a => cases e
  refine ⟨Nat × Option Addr × Nat, fun z => [(0, .slice A n c), (2, .pointer (some ⟨b, 0, none⟩)), (7, .pointer (some ⟨z.1, 0, none⟩))],
    fun z h' => h'[z.1]? = some (.cells (frmV 0 0 (tagged bs) (tciM bs) (two bs (behindN bs)) z.2.1 (n - (behindN bs + 2)) z.2.2).toArray 200 (0, 0)) ∧ h'[b]? = some (.cells (frmV 0 0 false 0 0 none 0 0).toArray 200 (0, 0)) ∧ Ext h h' ∧ b ≠ z.1 ∧ h.size ≤ z.1, ?_, ?_⟩
  · refine ⟨by decide, by omega, by omega, by omega, Int.le_refl _, by decide, by rw [e1]; omega, by rw [e1]; omega, by omega, Int.le_refl _, ?_, ?_⟩
    · refine (fTwo_spec (r1 _ (Ext.refl _)) (by rw [List.length_drop, hl]; rfl) (by have : ((behindN bs : Nat) : Int).toNat = behindN bs := Int.toNat_natCast _; omega) (fun y hy => hb y (List.mem_of_mem_drop hy))).mono ?_
      rintro v g3 ⟨rfl, rfl⟩
      refine ⟨?_, ?_⟩
      · refine (bClone_spec (r2 _ (Ext.refl _)) (hnone _ hc) (n := (n : Int).toNat - (IntKind.i64.wrap (((behindN bs : Nat) : Int) + 2)).toNat) (by rw [List.length_drop, hl]; rfl) (by rw [List.length_drop, hl]; omega)).mono ?_
        rintro v g4 ⟨A', c', rfl, oA, y4⟩
        have z4 := (Ext.refl _).trans y4
        intro fb g5 m
        have z5 := z4.trans m.ext
        have fbge := m.ge z4
        refine ⟨rfl, rfl, canset_blk (m.this) rfl, fun h5 s5 => ?_⟩
        have hfb : h5[fb]? = some (.cells (frmV 0 0 (tagged bs) (tciM bs) (two bs (behindN bs)) A' (n - (behindN bs + 2)) c').toArray 200 (0, 0)) := by
          have := s5.fill0 (m.this) rfl
          rw [two_drop, Int.toNat_natCast, Int.toNat_natCast, kt] at this
          exact this
        have lt := blk_lt hb2
        have ne : b ≠ fb := by omega
        exact ⟨(fb, A', c'), ⟨rfl, rfl, rfl, trivial⟩, hfb, s5.blk (z5.blk hb2) ne, (n1.ext.trans z5).stored s5 (Nat.le_trans n1.ext.size fbge), ne, Nat.le_trans n1.ext.size fbge⟩
      · intro fb g4 m
        have z4 := (Ext.refl _).trans m.ext
        have fbge := m.ge (Ext.refl _)
        refine (bClone_spec (r2 _ z4) (hnone _ hc) (n := (n : Int).toNat - (IntKind.i64.wrap (((behindN bs : Nat) : Int) + 2)).toNat) (by rw [List.length_drop, hl]; rfl) (by rw [List.length_drop, hl]; omega)).mono ?_
        rintro v g5 ⟨A', c', rfl, oA, y5⟩
        have z5 := z4.trans y5
        refine ⟨rfl, rfl, canset_blk (y5.blk m.this) rfl, fun h5 s5 => ?_⟩
        have hfb : h5[fb]? = some (.cells (frmV 0 0 (tagged bs) (tciM bs) (two bs (behindN bs)) A' (n - (behindN bs + 2)) c').toArray 200 (0, 0)) := by
          have := s5.fill0 (y5.blk m.this) rfl
          rw [two_drop, Int.toNat_natCast, Int.toNat_natCast, kt] at this
          exact this
        have lt := blk_lt hb2
        have ne : b ≠ fb := by omega
        exact ⟨(fb, A', c'), ⟨rfl, rfl, rfl, trivial⟩, hfb, s5.blk (z5.blk hb2) ne, (n1.ext.trans z5).stored s5 (Nat.le_trans n1.ext.size fbge), ne, Nat.le_trans n1.ext.size fbge⟩
    · intro fb g3 m
      have z3 := (Ext.refl _).trans m.ext
      have fbge := m.ge (Ext.refl _)
      refine (fTwo_spec (r1 _ z3) (by rw [List.length_drop, hl]; rfl) (by have : ((behindN bs : Nat) : Int).toNat = behindN bs := Int.toNat_natCast _; omega) (fun y hy => hb y (List.mem_of_mem_drop hy))).mono ?_
      rintro v g4 ⟨rfl, rfl⟩
      refine (bClone_spec (r2 _ z3) (hnone _ hc) (n := (n : Int).toNat - (IntKind.i64.wrap (((behindN bs : Nat) : Int) + 2)).toNat) (by rw [List.length_drop, hl]; rfl) (by rw [List.length_drop, hl]; omega)).mono ?_
      rintro v g5 ⟨A', c', rfl, oA, y5⟩
      have z5 := z3.trans y5
      refine ⟨rfl, rfl, canset_blk (y5.blk m.this) rfl, fun h5 s5 => ?_⟩
      have hfb : h5[fb]? = some (.cells (frmV 0 0 (tagged bs) (tciM bs) (two bs (behindN bs)) A' (n - (behindN bs + 2)) c').toArray 200 (0, 0)) := by
        have := s5.fill0 (y5.blk m.this) rfl
        rw [two_drop, Int.toNat_natCast, Int.toNat_natCast, kt] at this
        exact this
      have lt := blk_lt hb2
      have ne : b ≠ fb := by omega
      exact ⟨(fb, A', c'), ⟨rfl, rfl, rfl, trivial⟩, hfb, s5.blk (z5.blk hb2) ne, (n1.ext.trans z5).stored s5 (Nat.le_trans n1.ext.size fbge), ne, Nat.le_trans n1.ext.size fbge⟩
  rintro ⟨fb, A', c'⟩ h3 ⟨hfb, hbb, x3, ne, fge⟩
  simp only at hfb hbb ne fge
  have tr := two_range hb (behindN bs)
  refine ⟨_, cell_blk hfb rfl, _, cell_blk hfb rfl, ?_⟩
  refine (fForm_spec tr).mono ?_
  rintro v h4 ⟨rfl, rfl⟩
  have ef : (((n - (behindN bs + 2) : Nat)) : Int) = (n : Int) - (behindN bs + 2 : Nat) := by omega
  rw [ef]
  refine xif_of (fun q => ?_) (fun q => ?_)
  · have q : formM (two bs (behindN bs)) ((n : Int) - (behindN bs + 2 : Nat)) = false := by simpa using q
    refine ⟨rfl, rfl, canset_blk hbb rfl, fun h5 s5 => ?_⟩
    have hb5 := s5.fill0 hbb rfl
    exact ⟨_, rfl, reads_all hb5, 0, 0, false, 0, 0, none, 0, 0, by rw [q]; rfl, x3.stored s5 (n1.ge (Ext.refl _))⟩
  have q : formM (two bs (behindN bs)) ((n : Int) - (behindN bs + 2 : Nat)) = true := by simpa using q
  rw [q]
  refine (macOf_spec (x3.row hr) hl (by omega) hc).mono ?_
  rintro v h5 ⟨⟨m1, rfl⟩, rfl⟩
  refine ⟨rfl, rfl, canset_blk hfb rfl, fun h6 s6 => ?_⟩
  have hfb6 : h6[fb]? = some (.cells (frmV m1 0 (tagged bs) (tciM bs) (two bs (behindN bs)) A' (n - (behindN bs + 2)) c').toArray 200 (0, 0)) := s6.put hfb
  have hbb6 := s6.blk hbb ne
  have x6 : Ext h h6 := x3.stored s6 fge
  have t6 : Int.toNat 6 = 6 := rfl
  refine ⟨by decide, by decide, by omega, by omega, Int.le_refl _, ?_⟩
  refine (macOf_spec (n := (n : Int).toNat - Int.toNat 6) (row_from (x6.row hr) 6 (fun e => by omega)) (by rw [List.length_drop, hl]; rfl) (by omega) (by omega)).mono ?_
  rintro v h7 ⟨⟨m2, rfl⟩, rfl⟩
  refine ⟨rfl, rfl, canset_blk hfb6 rfl, fun h8 s8 => ?_⟩
  have hfb8 : h8[fb]? = some (.cells (frmV m1 m2 (tagged bs) (tciM bs) (two bs (behindN bs)) A' (n - (behindN bs + 2)) c').toArray 200 (0, 0)) := s8.put hfb6
  have hbb8 := s8.blk hbb6 ne
  have x8 : Ext h h8 := x6.stored s8 fge
  refine ⟨_, rfl, reads_all hfb8, rfl, rfl, canset_blk hbb8 rfl, fun h9 s9 => ?_⟩
  have hbb9 := s9.fill0 hbb8 rfl
  exact ⟨_, rfl, reads_all hbb9, m1, m2, tagged bs, tciM bs, two bs (behindN bs), A', n - (behindN bs + 2), c', rfl, x8.stored s9 (n1.ge (Ext.refl _))⟩
theorem parseE_zero {bs : List Int} (h : parseE bs = 0) : 60 ≤ bs.length := by
  unfold parseE at h
  split at h
  · cases h
  · omega
theorem tci_range {bs : List Int} (hb : IsB bs) : 0 ≤ tciM bs ∧ tciM bs < 65536 := by
  unfold tciM
  split
  · exact two_range hb 14
  · exact ⟨by decide, by decide⟩
theorem isB_append {l m : List Int} (hl : IsB l) (hm : IsB m) : IsB (l ++ m) := fun y hy => (List.mem_append.1 hy).elim (hl y) (hm y)
theorem isB_tag {t : Int} (ht : 0 ≤ t ∧ t < 65536) : IsB (tagB t) := by
  intro y hy
  simp only [tagB, List.mem_cons, List.not_mem_nil, or_false] at hy
  rcases hy with rfl | rfl | rfl | rfl <;> omega
theorem isB_outB {bs : List Int} {t : Bool} {vid : Int} (hb : IsB bs) (hv : t = true → 0 ≤ vid ∧ vid < 4096) : IsB (outB bs t vid) := by
  unfold outB padM
  refine isB_append (isB_append (isB_append (fun y hy => hb y (List.mem_of_mem_take hy)) ?_) (fun y hy => hb y (List.mem_of_mem_drop hy))) ?_
  · split
    · rename_i q
      have := tci_range hb
      have := hv q
      exact isB_tag (by omega)
    · intro y hy; cases hy
  · intro y hy
    rw [List.mem_replicate] at hy
    omega
set_option maxHeartbeats 1000000 in
theorem fOut_spec {A : Option Addr} {n c : Nat} {bs : List Int} {t : Bool} {vid : Int} (hr : Row encU8 1 h A bs) (hl : bs.length = n) (hn : n ≤ 210) (hc : n ≤ c) (hb : IsB bs) :
    HCalls Tryz.prog 85 #[.slice A n c, .bool t, .int .i64 vid] h (fun v h' => ∃ A' n' c', v = .tuple #[.slice A' n' c', .int .i64 (outE bs t vid)] ∧ (outE bs t vid = 0 → n' = (outB bs t vid).length ∧ Row encU8 1 h' A' (outB bs t vid)) ∧ Ext h h') := by
  refine xcalls env0 Tryz.func85 rfl (by kernel_rfl) rfl (by kernel_rfl) ?_
  refine (fParse_spec hr hl hn hc hb).mono ?_
  rintro v h1 ⟨d, s, tg, tc, ty, fA, fn, fc, rfl, x1⟩
  intro fb h2 n2
  refine ⟨rfl, rfl, canset_blk n2.this rfl, fun h3 s3 => ?_⟩
  have x3 : Ext h h3 := x1.trans (n2.ext.stored s3 (n2.ge (Ext.refl _)))
  unfold outE
  refine xif_of (fun q => ?_) (fun q => ?_)
  · have q : ¬ parseE bs = 0 := by simpa using q
    exact ⟨none, 0, 0, by rw [if_pos q]; rfl, (fun e => absurd e (by rw [if_pos q]; exact q)), x3⟩
  have q : parseE bs = 0 := by simpa using q
  have h60 := parseE_zero q
  rw [if_neg (by omega)]
  have t12 : Int.toNat 12 = 12 := rfl
  have t0 : Int.toNat 0 = 0 := rfl
  have rt := fun (g : Heap) (x : Ext h g) => row_first (x.row hr) 12 (q := (c : Int).toNat = Int.toNat 0) (inst := inferInstance) (f := fun x => x.add (Int.toNat 0 * 1)) (fun a => add_zero' a)
  have hnone : (if (c : Int).toNat = Int.toNat 0 then A else Option.map (fun x => x.add (Int.toNat 0 * 1)) A) = none → bs.take 12 = [] := fun e => by
    rw [if_neg (by omega)] at e
    cases A with
    | none => rw [row_none hr]; rfl
    | some a => cases e
  have hl12 : (bs.take 12).length = Int.toNat 12 - Int.toNat 0 := by rw [List.length_take]; omega
  have bN : behindN bs = 16 ∨ behindN bs = 12 := by unfold behindN; split <;> simp
  have tr := tci_range hb
  cases t
  case' false =>
    refine (fBehind_spec (x3.row hr) hl (by omega) hc hb).mono ?_
    rintro v h4 ⟨rfl, rfl⟩
    refine ⟨by decide, by decide, by decide, by omega, Int.le_refl _, ?_⟩
    refine (bClone_spec (rt _ x3) hnone hl12 (by rw [List.length_take]; omega)).mono ?_
    rintro v g ⟨A4, c4, rfl, o4, x4⟩
    have x5 := x3.trans x4
    have o5 := o4.mono x3.size
    have hx : bs.take 12 = bs.take 12 ++ (if false = true then tagB (tciM bs / 4096 * 4096 + vid) else []) := by simp
    have hlx : (bs.take 12).length = 12 := by rw [List.length_take]; omega
  case' true =>
    refine xif_of (fun q => ?_) (fun q => ?_)
    · have q : vid < 1 := of_decide_eq_true q
      exact ⟨none, 0, 0, by rw [if_pos (by exact ⟨rfl, .inl q⟩)]; rfl, (fun e => absurd e (by rw [if_pos (by exact ⟨rfl, .inl q⟩)]; decide)), x3⟩
    have q : ¬ vid < 1 := of_decide_eq_false q
    refine xif_of (fun q2 => ?_) (fun q2 => ?_)
    · have q2 : vid > 4094 := of_decide_eq_true q2
      exact ⟨none, 0, 0, by rw [if_pos (by exact ⟨rfl, .inr q2⟩)]; rfl, (fun e => absurd e (by rw [if_pos (by exact ⟨rfl, .inr q2⟩)]; decide)), x3⟩
    have q2 : ¬ vid > 4094 := of_decide_eq_false q2
    refine (fBehind_spec (x3.row hr) hl (by omega) hc hb).mono ?_
    rintro v h4 ⟨rfl, rfl⟩
    refine ⟨by decide, by decide, by decide, by omega, Int.le_refl _, ?_⟩
    refine (bClone_spec (rt _ x3) hnone hl12 (by rw [List.length_take]; omega)).mono ?_
    rintro v g4 ⟨A4', c4', rfl, o4', x4'⟩
    refine (fPut_spec (o4'.mono x3.size) (x3.trans x4') hl12 (by omega) (by omega)).mono ?_
    rintro v g5 ⟨A5', c5', rfl, o5', x5'⟩
    have ev : IntKind.u16.wrap vid = vid := wU16 (by omega) (by omega)
    have el := low12 tr (v := vid) (by omega)
    refine (fPut_spec o5' x5' (by rw [List.length_append, hl12]; rfl) (by omega) (by rw [ev, el]; omega)).mono ?_
    rw [ev, el]
    rintro v g ⟨A4, c4, rfl, o5, x5⟩
    have hx : bs.take 12 ++ [33024 / 256, 33024 % 256] ++ [(tciM bs / 4096 * 4096 + vid) / 256, (tciM bs / 4096 * 4096 + vid) % 256] = bs.take 12 ++ (if true = true then tagB (tciM bs / 4096 * 4096 + vid) else []) := by
      rw [if_pos rfl, List.append_assoc]; rfl
    have hlx : (bs.take 12 ++ [33024 / 256, 33024 % 256] ++ [(tciM bs / 4096 * 4096 + vid) / 256, (tciM bs / 4096 * 4096 + vid) % 256]).length = Int.toNat 12 - Int.toNat 0 + 2 + 2 := by rw [List.length_append, List.length_append, hl12]; rfl
  all_goals
    rw [hx] at o5 hlx
    have rb := row_from (x5.row hr) ((behindN bs : Nat) : Int).toNat (q := (c : Int).toNat = ((behindN bs : Nat) : Int).toNat) (inst := inferInstance) (fun e => by omega)
    refine ⟨by decide, by omega, by omega, by omega, Int.le_refl _, ?_⟩
    refine xappend_many (ys := bs.drop (behindN bs)) u8Info u8Zero rfl (by decide) encU8_len encU8_one o5 hlx (by rw [List.length_drop]; omega) (row_readsOf encU8_len rb) (by omega) x5.size fun A6 c6 h6 o6 k6 => ?_
    have x6 := k6.ext x5 fun b e => o5.ge b e
    refine (fPadded_spec o6 x6 (by rw [List.length_append, hlx, List.length_drop]; omega) (by omega)).mono ?_
    rintro v h7 ⟨A7, c7, rfl, o7, x7⟩
    rw [if_neg (by simp <;> omega)]
    exact ⟨A7, _, c7, rfl, (fun _ => ⟨rfl, o7.row encU8_len⟩), x7⟩
/-! ### The document's -/
theorem r2Two_spec {A : Option Addr} {n c i : Nat} {bs : List Int} (hr : Row encU8 1 h A bs) (hl : bs.length = n) (h2 : i + 1 < n) (hn : n ≤ 1000) (hb : IsB bs) : HCalls Tryz.prog 159 #[.slice A n c, .int .i64 i] h (fun v h' => v = .int .u16 (two bs i) ∧ h' = h) := by
  refine xcalls env_r2Two Tryz.func159 rfl (by kernel_rfl) rfl (by kernel_rfl) ?_
  obtain ⟨a, hA, c0⟩ := u8_at hr (i := i) (by omega)
  obtain ⟨a', hA', c1⟩ := u8_at hr (i := i + 1) (by omega)
  have e1 : IntKind.i64.wrap ((i : Int) + 1) = ((i + 1 : Nat) : Int) := by rw [wrap_i64 (by omega) (by omega)]; omega
  refine ⟨a, hA, by omega, by omega, _, c0, a', hA', by rw [e1]; omega, by rw [e1]; omega, _, by rw [e1, Int.toNat_natCast]; exact c1, ?_⟩
  have g0 := isB_get hb i
  have g1 := isB_get hb (i + 1)
  refine ⟨congrArg (Value.int .u16) ?_, rfl⟩
  rw [wU16 (x := bs.getD i 0) (by omega) (by omega), wU16 (x := bs.getD i 0 * 256) (by omega) (by omega), wU16 (x := bs.getD (i + 1) 0) (by omega) (by omega), wU16 (by omega) (by omega)]; rfl
theorem r2Tagged_spec {A : Option Addr} {n c : Nat} {bs : List Int} (hr : Row encU8 1 h A bs) (hl : bs.length = n) (h2 : 60 ≤ n) (hb : IsB bs) : HCalls Tryz.prog 158 #[.slice A n c] h (fun v h' => v = .bool (tagged bs) ∧ h' = h) := by
  refine xcalls env0 Tryz.func158 rfl (by kernel_rfl) rfl (by kernel_rfl) ?_
  obtain ⟨a, hA, c0⟩ := u8_at hr (i := 12) (by omega)
  obtain ⟨a', hA', c1⟩ := u8_at hr (i := 13) (by omega)
  have g0 := isB_get hb 12
  have g1 := isB_get hb 13
  refine ⟨a, hA, by decide, by omega, _, c0, ?_⟩
  refine xif_of (fun q => ?_) (fun q => ?_)
  · have q : bs.getD 12 0 = 129 := by simpa using q
    refine ⟨a', hA', by decide, by omega, _, c1, congrArg Value.bool ?_, rfl⟩
    have e13 : two bs 12 = bs.getD 12 0 * 256 + bs.getD 13 0 := rfl
    unfold tagged
    rw [e13, Bool.eq_iff_iff, decide_eq_true_iff, beq_iff_eq]; omega
  · have q : ¬ bs.getD 12 0 = 129 := by simpa using q
    refine ⟨congrArg Value.bool (decide_eq_false ?_).symm, rfl⟩
    have e13 : two bs 12 = bs.getD 12 0 * 256 + bs.getD 13 0 := rfl
    rw [e13]; omega
theorem r2Form_spec {t n : Int} (ht : 0 ≤ t ∧ t < 65536) : HCalls Tryz.prog 160 #[.int .u16 t, .int .i64 n] h (fun v h' => v = .bool (formM t n) ∧ h' = h) := by
  refine xcalls env0 Tryz.func160 rfl (by kernel_rfl) rfl (by kernel_rfl) ?_
  unfold formM
  refine xif_of (fun q => ?_) (fun q => ?_)
  · have q : t > 1535 := of_decide_eq_true q
    exact ⟨by rw [decide_eq_true (by omega)]; rfl, rfl⟩
  have q : ¬ t > 1535 := of_decide_eq_false q
  refine xif_of (fun q2 => ?_) (fun q2 => ?_)
  · have q2 : t ≤ 1500 := of_decide_eq_true q2
    refine ⟨congrArg Value.bool ?_, rfl⟩
    rw [wrap_i64 (by omega) (by omega), Bool.eq_iff_iff, decide_eq_true_iff, decide_eq_true_iff]; omega
  · have q2 : ¬ t ≤ 1500 := of_decide_eq_false q2
    exact ⟨by rw [decide_eq_false (by omega)]; rfl, rfl⟩
theorem r1Of_spec {A : Option Addr} {n c : Nat} {bs : List Int} (hr : Row encU8 1 h A bs) (hl : bs.length = n) (h2 : 6 ≤ n) : HCalls Tryz.prog 157 #[.slice A n c] h (fun v h' => (∃ m, v = .int .u64 m) ∧ h' = h) := by
  refine xcalls env0 Tryz.func157 rfl (by kernel_rfl) rfl (by kernel_rfl) ?_
  refine ⟨Nat × Int, fun z => [(0, .slice A n c), (3, .int .u64 z.2), (4, .int .i64 z.1)], fun z h' => z.1 ≤ 6 ∧ h' = h, fun z => 6 - z.1, (0, 0), ⟨rfl, rfl, rfl, trivial⟩, ⟨by decide, rfl⟩, ?_⟩
  rintro ⟨i, m⟩ h3 ⟨hi, rfl⟩
  simp only at hi
  refine xif_of (fun hlt => ?_) (fun hge => ?_)
  · have hlt : (i : Int) < 6 := of_decide_eq_true hlt
    obtain ⟨a, hA, c0⟩ := u8_at hr (i := i) (by omega)
    refine ⟨a, hA, by omega, by omega, _, c0, ?_⟩
    exact ⟨(i + 1, _), ⟨rfl, rfl, slot_inc (by omega), trivial⟩, ⟨by show i + 1 ≤ 6; omega, rfl⟩, by show 6 - (i + 1) < 6 - i; omega⟩
  · exact ⟨⟨_, rfl⟩, rfl⟩
theorem r2Bytes_spec {t : Int} (ht : 0 ≤ t ∧ t < 65536) : HCalls Tryz.prog 129 #[.int .u16 t] h (fun v h' => ∃ b, v = .slice (some ⟨b, 0, none⟩) 2 2 ∧ h'[b]? = some (.cells ([t / 256, t % 256].flatMap encU8).toArray 5 (0, 0)) ∧ Ext h h') := by
  refine xcalls env0 Tryz.func129 rfl (by kernel_rfl) rfl (by kernel_rfl) ?_
  refine ⟨by decide, by decide, ?_⟩
  intro b h1 n1
  have hd : IntKind.u8.wrap (IntKind.u16.wrap (t.tdiv 256)) = t / 256 := by
    rw [Int.tdiv_eq_ediv_of_nonneg ht.1, wU16 (by omega) (by omega), wrap_u8 (by omega) (by omega)]
  have hm : IntKind.u8.wrap (t.tmod 256) = t % 256 := by
    rw [Int.tmod_eq_emod_of_nonneg ht.1, wrap_u8 (by omega) (by omega)]
  have := n1.this
  rw [hd, hm] at this
  exact ⟨b, rfl, this, n1.ext⟩
theorem r2Pad_spec {h0 : Heap} {A : Option Addr} {n c : Nat} {xs : List Int} (own : OwnA encU8 1 5 h0.size h A c xs) (e : Ext h0 h) (hl : xs.length = n) (hn : n ≤ 1000) :
    HCalls Tryz.prog 130 #[.slice A n c] h (fun v h' => ∃ A' c', v = .slice A' (padM xs).length c' ∧ OwnA encU8 1 5 h0.size h' A' c' (padM xs) ∧ Ext h0 h') := by
  refine xcalls env0 Tryz.func130 rfl (by kernel_rfl) rfl (by kernel_rfl) ?_
  refine ⟨Nat × Option Addr × Nat, fun z => [(0, .slice z.2.1 (n + z.1) z.2.2)], fun z h' => (z.1 = 0 ∨ n + z.1 ≤ 60) ∧ OwnA encU8 1 5 h0.size h' z.2.1 z.2.2 (xs ++ List.replicate z.1 0) ∧ Ext h0 h', fun z => 60 - (n + z.1), (0, A, c), ⟨rfl, trivial⟩, ⟨.inl rfl, by simpa using own, e⟩, ?_⟩
  rintro ⟨i, B, d⟩ h2 ⟨hi, o2, x2⟩
  simp only at hi o2
  refine xif_of (fun hlt => ?_) (fun hge => ?_)
  · have hlt : ((n + i : Nat) : Int) < 60 := of_decide_eq_true hlt
    intro b h3 n3
    refine xappend_one (x := 0) u8Info u8Zero rfl (by decide) encU8_len encU8_one o2 n3 (by rw [List.length_append, List.length_replicate, hl]) (by omega) x2.size fun B' d' h4 o4 k4 => ?_
    have er : xs ++ List.replicate i 0 ++ [(0 : Int)] = xs ++ List.replicate (i + 1) 0 := by rw [List.append_assoc, ← List.replicate_succ']
    rw [er] at o4
    exact ⟨(i + 1, B', d'), ⟨rfl, trivial⟩, ⟨by show i + 1 = 0 ∨ n + (i + 1) ≤ 60; omega, o4, k4.ext x2 fun b e => o2.ge b e⟩, by show 60 - (n + (i + 1)) < 60 - (n + i); omega⟩
  · have hge : ¬ ((n + i : Nat) : Int) < 60 := of_decide_eq_false hge
    have ei : i = 60 - n := by omega
    have hp : padM xs = xs ++ List.replicate i 0 := by unfold padM; rw [hl, ei]
    refine ⟨B, d, ?_, by rw [hp]; exact o2, x2⟩
    rw [hp, List.length_append, List.length_replicate, hl]; rfl
def frmR (d s : Int) (t : Bool) (c ty : Int) (A : Option Addr) (n cp : Nat) : List Value := [.int .u64 d, .int .u64 s, .bool t, .int .u16 c, .int .u16 ty, .slice A n cp]
theorem r2Parse_spec {A : Option Addr} {n c : Nat} {bs : List Int} (hr : Row encU8 1 h A bs) (hl : bs.length = n) (hn : n ≤ 210) (hc : n ≤ c) (hb : IsB bs) :
    HCalls Tryz.prog 128 #[.slice A n c] h (fun v h' => ∃ d s t tc ty A' n' c', v = .tuple #[.agg (frmR d s t tc ty A' n' c').toArray, .int .i64 (parseE bs)] ∧ (parseE bs = 0 → t = tagged bs ∧ tc = tciM bs) ∧ Ext h h') := by
  refine xcalls env_r2Parse Tryz.func128 rfl (by kernel_rfl) rfl (by kernel_rfl) ?_
  unfold parseE
  rw [hl]
  intro b h1 n1
  refine xif_of (fun q => ?_) (fun q => ?_)
  · have q : (n : Int) < 60 := of_decide_eq_true q
    refine ⟨rfl, rfl, canset_blk n1.this rfl, fun h2 s2 => ?_⟩
    have hb2 : h2[b]? = some (.cells (frmR 0 0 false 0 0 none 0 0).toArray 226 (0, 0)) := n1.fill rfl s2
    exact ⟨_, rfl, reads_all hb2, 0, 0, false, 0, 0, none, 0, 0, by rw [if_pos (by omega)]; rfl, (fun e => absurd e (by rw [if_pos (by omega)]; decide)), n1.ext.stored s2 (n1.ge (Ext.refl _))⟩
  have q : ¬ (n : Int) < 60 := of_decide_eq_false q
  rw [if_neg (by omega)]
  have hbb1 : h1[b]? = some (.cells (frmR 0 0 false 0 0 none 0 0).toArray 226 (0, 0)) := n1.this
  have t6 : Int.toNat 6 = 6 := rfl
  refine ⟨Nat × Int × Int, fun z => [(0, .slice A n c), (2, .pointer (some ⟨b, 0, none⟩)), (4, .pointer (some ⟨z.1, 0, none⟩))],
    fun z h' => h'[z.1]? = some (.cells (frmR z.2.1 z.2.2 (tagged bs) 0 0 none 0 0).toArray 226 (0, 0)) ∧ h'[b]? = some (.cells (frmR 0 0 false 0 0 none 0 0).toArray 226 (0, 0)) ∧ Ext h h' ∧ b ≠ z.1 ∧ h.size ≤ z.1, ?_, ?_⟩
  · refine ⟨by decide, by decide, by omega, by omega, Int.le_refl _, ?_, ?_⟩
    · refine (r1Of_spec ((n1.ext.trans (Ext.refl _)).row hr) hl (by omega)).mono ?_
      rintro v g2 ⟨⟨m1, rfl⟩, rfl⟩
      refine ⟨?_, ?_⟩
      · refine (r1Of_spec (n := (n : Int).toNat - Int.toNat 6) (row_from ((n1.ext.trans (Ext.refl _)).row hr) 6 (fun e => by omega)) (by rw [List.length_drop, hl]; rfl) (by omega)).mono ?_
        rintro v g3 ⟨⟨m2, rfl⟩, rfl⟩
        refine ⟨?_, ?_⟩
        · refine (r2Tagged_spec ((n1.ext.trans (Ext.refl _)).row hr) hl (by omega) hb).mono ?_
          rintro v g4 ⟨rfl, rfl⟩
          intro fb g5 m
          have z := (Ext.refl _).trans m.ext
          have fge := m.ge (Ext.refl _)
          refine ⟨rfl, rfl, canset_blk m.this rfl, fun h5 s5 => ?_⟩
          have hfb : h5[fb]? = some (.cells (frmR m1 m2 (tagged bs) 0 0 none 0 0).toArray 226 (0, 0)) := s5.fill0 m.this rfl
          have lt := blk_lt hbb1
          have ne : b ≠ fb := by omega
          exact ⟨(fb, m1, m2), ⟨rfl, rfl, rfl, trivial⟩, hfb, s5.blk (z.blk hbb1) ne, (n1.ext.trans z).stored s5 (Nat.le_trans n1.ext.size fge), ne, Nat.le_trans n1.ext.size fge⟩
        · intro fb g4 m
          have z := (Ext.refl _).trans m.ext
          have fge := m.ge (Ext.refl _)
          refine (r2Tagged_spec ((n1.ext.trans z).row hr) hl (by omega) hb).mono ?_
          rintro v g5 ⟨rfl, rfl⟩
          refine ⟨rfl, rfl, canset_blk m.this rfl, fun h5 s5 => ?_⟩
          have hfb : h5[fb]? = some (.cells (frmR m1 m2 (tagged bs) 0 0 none 0 0).toArray 226 (0, 0)) := s5.fill0 m.this rfl
          have lt := blk_lt hbb1
          have ne : b ≠ fb := by omega
          exact ⟨(fb, m1, m2), ⟨rfl, rfl, rfl, trivial⟩, hfb, s5.blk (z.blk hbb1) ne, (n1.ext.trans z).stored s5 (Nat.le_trans n1.ext.size fge), ne, Nat.le_trans n1.ext.size fge⟩
      · intro fb g3 m
        have z := (Ext.refl _).trans m.ext
        have fge := m.ge (Ext.refl _)
        refine (r1Of_spec (n := (n : Int).toNat - Int.toNat 6) (row_from ((n1.ext.trans z).row hr) 6 (fun e => by omega)) (by rw [List.length_drop, hl]; rfl) (by omega)).mono ?_
        rintro v g4 ⟨⟨m2, rfl⟩, rfl⟩
        refine (r2Tagged_spec ((n1.ext.trans z).row hr) hl (by omega) hb).mono ?_
        rintro v g5 ⟨rfl, rfl⟩
        refine ⟨rfl, rfl, canset_blk m.this rfl, fun h5 s5 => ?_⟩
        have hfb : h5[fb]? = some (.cells (frmR m1 m2 (tagged bs) 0 0 none 0 0).toArray 226 (0, 0)) := s5.fill0 m.this rfl
        have lt := blk_lt hbb1
        have ne : b ≠ fb := by omega
        exact ⟨(fb, m1, m2), ⟨rfl, rfl, rfl, trivial⟩, hfb, s5.blk (z.blk hbb1) ne, (n1.ext.trans z).stored s5 (Nat.le_trans n1.ext.size fge), ne, Nat.le_trans n1.ext.size fge⟩
    · intro fb g2 m
      have z := (Ext.refl _).trans m.ext
      have fge := m.ge (Ext.refl _)
      refine (r1Of_spec ((n1.ext.trans z).row hr) hl (by omega)).mono ?_
      rintro v g3 ⟨⟨m1, rfl⟩, rfl⟩
      refine (r1Of_spec (n := (n : Int).toNat - Int.toNat 6) (row_from ((n1.ext.trans z).row hr) 6 (fun e => by omega)) (by rw [List.length_drop, hl]; rfl) (by omega)).mono ?_
      rintro v g4 ⟨⟨m2, rfl⟩, rfl⟩
      refine (r2Tagged_spec ((n1.ext.trans z).row hr) hl (by omega) hb).mono ?_
      rintro v g5 ⟨rfl, rfl⟩
      refine ⟨rfl, rfl, canset_blk m.this rfl, fun h5 s5 => ?_⟩
      have hfb : h5[fb]? = some (.cells (frmR m1 m2 (tagged bs) 0 0 none 0 0).toArray 226 (0, 0)) := s5.fill0 m.this rfl
      have lt := blk_lt hbb1
      have ne : b ≠ fb := by omega
      exact ⟨(fb, m1, m2), ⟨rfl, rfl, rfl, trivial⟩, hfb, s5.blk (z.blk hbb1) ne, (n1.ext.trans z).stored s5 (Nat.le_trans n1.ext.size fge), ne, Nat.le_trans n1.ext.size fge⟩
  rintro ⟨fb, m1, m2⟩ h3 ⟨hfb, hbb, x3, ne, fge⟩
  simp only at hfb hbb ne fge
  refine ⟨Nat, fun z => [(0, .slice A n c), (2, .pointer (some ⟨b, 0, none⟩)), (4, .pointer (some ⟨fb, 0, none⟩)), (5, .int .i64 z)],
    fun z h' => z = behindN bs ∧ h'[fb]? = some (.cells (frmR m1 m2 (tagged bs) (tciM bs) 0 none 0 0).toArray 226 (0, 0)) ∧ h'[b]? = some (.cells (frmR 0 0 false 0 0 none 0 0).toArray 226 (0, 0)) ∧ Ext h h', ?_, ?_⟩
  · refine ⟨_, cell_blk hfb rfl, ?_⟩
    refine xif_of (fun q2 => ?_) (fun q2 => ?_)
    · have q2 : tagged bs = true := q2
      refine (r2Two_spec (i := 14) (x3.row hr) hl (by omega) (by omega) hb).mono ?_
      rintro v h4 ⟨rfl, rfl⟩
      refine ⟨rfl, rfl, canset_blk hfb rfl, fun h5 s5 => ?_⟩
      have hfb5 : h5[fb]? = some (.cells (frmR m1 m2 (tagged bs) (two bs 14) 0 none 0 0).toArray 226 (0, 0)) := s5.put hfb
      exact ⟨16, ⟨rfl, rfl, rfl, rfl, trivial⟩, by unfold behindN; rw [if_pos q2], by unfold tciM; rw [if_pos q2]; exact hfb5, s5.blk hbb ne, x3.stored s5 fge⟩
    · have q2 : tagged bs = false := q2
      exact ⟨12, ⟨rfl, rfl, rfl, rfl, trivial⟩, by unfold behindN; rw [q2]; rfl, by unfold tciM; rw [q2] at hfb ⊢; exact hfb, hbb, x3⟩
  rintro _ h4 ⟨rfl, hfb4, hbb4, x4⟩
  have bN : behindN bs = 16 ∨ behindN bs = 12 := by unfold behindN; split <;> simp
  have e1 : IntKind.i64.wrap (((behindN bs : Nat) : Int) + 2) = ((behindN bs + 2 : Nat) : Int) := by rw [wrap_i64 (by omega) (by omega)]; omega
  have e2 : IntKind.i64.wrap (1502 + ((behindN bs : Nat) : Int)) = ((behindN bs + 1502 : Nat) : Int) := by rw [wrap_i64 (by omega) (by omega)]; omega
  have kt : (IntKind.i64.wrap (((behindN bs : Nat) : Int) + 2)).toNat = behindN bs + 2 := by rw [e1, Int.toNat_natCast]
  refine xif_of (fun q2 => ?_) (fun _ => ?_)
  · have q2 : (n : Int) > IntKind.i64.wrap (1502 + ((behindN bs : Nat) : Int)) := of_decide_eq_true q2
    rw [e2] at q2
    omega
  refine (r2Two_spec (x4.row hr) hl (by omega) (by omega) hb).mono ?_
  rintro v h5 ⟨rfl, rfl⟩
  refine ⟨rfl, rfl, canset_blk hfb4 rfl, fun h6 s6 => ?_⟩
  have hfb6 : h6[fb]? = some (.cells (frmR m1 m2 (tagged bs) (tciM bs) (two bs (behindN bs)) none 0 0).toArray 226 (0, 0)) := s6.put hfb4
  have hbb6 := s6.blk hbb4 ne
  have x6 : Ext h h6 := x4.stored s6 fge
  intro ab h7 n7
  have own1 : OwnA encU8 1 5 h6.size h7 (some ⟨ab, 0, none⟩) 0 ([] : List Int) := .inr ⟨ab, [], rfl, n7.ge (Ext.refl _), n7.this, rfl, Nat.le_refl _⟩
  have x7 := x6.trans n7.ext
  have r2 := row_from (x7.row hr) (IntKind.i64.wrap (((behindN bs : Nat) : Int) + 2)).toNat (q := (c : Int).toNat = (IntKind.i64.wrap (((behindN bs : Nat) : Int) + 2)).toNat) (inst := inferInstance) (fun e => by omega)
  refine ⟨by decide, by rw [e1]; omega, by rw [e1]; omega, by omega, Int.le_refl _, ?_⟩
  refine xappend_many (xs := []) (ys := bs.drop (IntKind.i64.wrap (((behindN bs : Nat) : Int) + 2)).toNat) u8Info u8Zero rfl (by decide) encU8_len encU8_one own1 rfl (by rw [List.length_drop, hl]; rfl) (row_readsOf encU8_len r2) (by omega) n7.ext.size fun A8 c8 h8 o8 k8 => ?_
  have x68 : Ext h6 h8 := k8.ext n7.ext (fun b' e => by cases e; exact n7.ge (Ext.refl _))
  have hfb8 := x68.blk hfb6
  have hbb8 := x68.blk hbb6
  refine ⟨rfl, rfl, canset_blk hfb8 rfl, fun h9 s9 => ?_⟩
  have hfb9 : h9[fb]? = some (.cells (frmR m1 m2 (tagged bs) (tciM bs) (two bs (behindN bs)) A8 (n - (behindN bs + 2)) c8).toArray 226 (0, 0)) := by
    have := s9.put hfb8
    rw [kt, Nat.zero_add ((n : Int).toNat - (behindN bs + 2))] at this
    exact this
  have hbb9 := s9.blk hbb8 ne
  have x9 : Ext h h9 := (x6.trans x68).stored s9 fge
  have tr := two_range hb (behindN bs)
  refine ⟨_, cell_blk hfb9 rfl, _, cell_blk hfb9 rfl, ?_⟩
  refine (r2Form_spec tr).mono ?_
  rintro v h10 ⟨rfl, rfl⟩
  have ef : (((n - (behindN bs + 2) : Nat)) : Int) = (n : Int) - (behindN bs + 2 : Nat) := by omega
  rw [ef]
  refine xif_of (fun q => ?_) (fun q => ?_)
  · have q : formM (two bs (behindN bs)) ((n : Int) - (behindN bs + 2 : Nat)) = false := by simpa using q
    refine ⟨rfl, rfl, canset_blk hbb9 rfl, fun h11 s11 => ?_⟩
    have hb11 := s11.fill0 hbb9 rfl
    exact ⟨_, rfl, reads_all hb11, 0, 0, false, 0, 0, none, 0, 0, by rw [q]; rfl, (fun e => absurd e (by rw [q]; decide)), x9.stored s11 (n1.ge (Ext.refl _))⟩
  have q : formM (two bs (behindN bs)) ((n : Int) - (behindN bs + 2 : Nat)) = true := by simpa using q
  rw [q]
  refine ⟨_, rfl, reads_all hfb9, rfl, rfl, canset_blk hbb9 rfl, fun h11 s11 => ?_⟩
  have hb11 := s11.fill0 hbb9 rfl
  exact ⟨_, rfl, reads_all hb11, m1, m2, tagged bs, tciM bs, two bs (behindN bs), A8, n - (behindN bs + 2), c8, rfl, (fun _ => ⟨rfl, rfl⟩), x9.stored s11 (n1.ge (Ext.refl _))⟩
set_option maxHeartbeats 1000000 in
theorem r2Out_spec {A : Option Addr} {n c : Nat} {bs : List Int} {t : Bool} {vid : Int} (hr : Row encU8 1 h A bs) (hl : bs.length = n) (hn : n ≤ 210) (hc : n ≤ c) (hb : IsB bs) :
    HCalls Tryz.prog 95 #[.slice A n c, .bool t, .int .i64 vid] h (fun v h' => ∃ A' n' c', v = .tuple #[.slice A' n' c', .int .i64 (outE bs t vid)] ∧ (outE bs t vid = 0 → n' = (outB bs t vid).length ∧ Row encU8 1 h' A' (outB bs t vid)) ∧ Ext h h') := by
  refine xcalls env_r2Out Tryz.func95 rfl (by kernel_rfl) rfl (by kernel_rfl) ?_
  refine (r2Parse_spec hr hl hn hc hb).mono ?_
  rintro v h1 ⟨d, s, tg, tc, ty, fA, fn, fc, rfl, htg, x1⟩
  intro fb h2 n2
  refine ⟨rfl, rfl, canset_blk n2.this rfl, fun h3 s3 => ?_⟩
  have hfb : h3[fb]? = some (.cells (frmR d s tg tc ty fA fn fc).toArray 226 (0, 0)) := n2.fill rfl s3
  have x3 : Ext h h3 := x1.trans (n2.ext.stored s3 (n2.ge (Ext.refl _)))
  unfold outE
  refine xif_of (fun q => ?_) (fun q => ?_)
  · have q : ¬ parseE bs = 0 := by simpa using q
    exact ⟨none, 0, 0, by rw [if_pos q]; rfl, (fun e => absurd e (by rw [if_pos q]; exact q)), x3⟩
  have q : parseE bs = 0 := by simpa using q
  have h60 := parseE_zero q
  obtain ⟨rfl, rfl⟩ := htg q
  rw [if_neg (by omega)]
  have t12 : Int.toNat 12 = 12 := rfl
  have t0 : Int.toNat 0 = 0 := rfl
  have hl12 : (bs.take 12).length = 12 := by rw [List.length_take]; omega
  have bN : behindN bs = 16 ∨ behindN bs = 12 := by unfold behindN; split <;> simp
  have tr := tci_range hb
  refine ⟨Unit, fun _ => [(0, .slice A n c), (1, .bool t), (2, .int .i64 vid), (8, .pointer (some ⟨fb, 0, none⟩))], fun _ h' => (t = true → 1 ≤ vid ∧ vid ≤ 4094) ∧ h' = h3, ?_, ?_⟩
  · refine xif_of (fun q1 => ?_) (fun q1 => ?_)
    · refine xif_of (fun q => ?_) (fun q => ?_)
      · have q : vid < 1 := of_decide_eq_true q
        exact ⟨none, 0, 0, by rw [if_pos ⟨q1, .inl q⟩]; rfl, (fun e => absurd e (by rw [if_pos ⟨q1, .inl q⟩]; decide)), x3⟩
      have q : ¬ vid < 1 := of_decide_eq_false q
      refine xif_of (fun q2 => ?_) (fun q2 => ?_)
      · have q2 : vid > 4094 := of_decide_eq_true q2
        exact ⟨none, 0, 0, by rw [if_pos ⟨q1, .inr q2⟩]; rfl, (fun e => absurd e (by rw [if_pos ⟨q1, .inr q2⟩]; decide)), x3⟩
      have q2 : ¬ vid > 4094 := of_decide_eq_false q2
      exact ⟨(), ⟨rfl, rfl, rfl, rfl, trivial⟩, fun _ => by omega, rfl⟩
    · exact ⟨(), ⟨rfl, rfl, rfl, rfl, trivial⟩, (fun e => by rw [q1] at e; cases e), rfl⟩
  rintro _ h4 ⟨hv, rfl⟩
  rw [if_neg (fun e => by have := hv e.1; omega)]
  refine ⟨Nat, fun z => [(0, .slice A n c), (1, .bool t), (2, .int .i64 vid), (8, .pointer (some ⟨fb, 0, none⟩)), (10, .int .i64 z)], fun z h' => z = behindN bs ∧ h' = h4, ?_, ?_⟩
  · refine ⟨_, cell_blk hfb rfl, ?_⟩
    refine xif_of (fun q2 => ?_) (fun q2 => ?_)
    · have q2 : tagged bs = true := q2
      exact ⟨16, ⟨rfl, rfl, rfl, rfl, rfl, trivial⟩, by unfold behindN; rw [if_pos q2], rfl⟩
    · have q2 : tagged bs = false := q2
      exact ⟨12, ⟨rfl, rfl, rfl, rfl, rfl, trivial⟩, by unfold behindN; rw [q2]; rfl, rfl⟩
  rintro _ h5 ⟨rfl, rfl⟩
  intro ab h6 n6
  have own1 : OwnA encU8 1 5 h.size h6 (some ⟨ab, 0, none⟩) 0 ([] : List Int) := .inr ⟨ab, [], rfl, n6.ge x3, n6.this, rfl, Nat.le_refl _⟩
  have x6 := x3.trans n6.ext
  have rt := row_first (x6.row hr) 12 (q := (c : Int).toNat = Int.toNat 0) (inst := inferInstance) (f := fun x => x.add (Int.toNat 0 * 1)) (fun a => add_zero' a)
  refine ⟨by decide, by decide, by decide, by omega, Int.le_refl _, ?_⟩
  refine xappend_own (xs := []) (ys := bs.take 12) u8Info u8Zero rfl (by decide) encU8_len encU8_one own1 rfl (by rw [hl12]; rfl) (by omega) (row_readsOf encU8_len rt) (by omega) x6.size fun A7 c7 h7 o7 k7 w7 => ?_
  have hA7 : A7 ≠ some ⟨fb, 0, none⟩ := by
    have l1 := n6.lt hfb
    have l2 := blk_lt (n6.ext.blk hfb)
    rintro rfl
    rcases w7 with e | ⟨b, e, g⟩
    · cases e; omega
    · cases e; omega
  have x7 := k7.ext x6 fun b e => own1.ge b e
  have hfb6 := n6.ext.blk hfb
  have hfb7 : h7[fb]? = _ := k7.blk hfb6 (fun e => by cases e; have := n6.lt hfb; omega)
  rw [List.nil_append] at o7
  refine ⟨Option Addr × Nat × List Int, fun z => [(0, .slice A n c), (10, .int .i64 (behindN bs : Nat)), (11, .slice z.1 z.2.2.length z.2.1)],
    fun z h' => z.2.2 = bs.take 12 ++ (if t = true then tagB (tciM bs / 4096 * 4096 + vid) else []) ∧ OwnA encU8 1 5 h.size h' z.1 z.2.1 z.2.2 ∧ Ext h h', ?_, ?_⟩
  · refine xif_of (fun q1 => ?_) (fun q1 => ?_)
    · have hv := hv q1
      refine ⟨_, cell_blk hfb7 rfl, by decide, ?_⟩
      intro sb h8 n8
      have hfb8 := n8.ext.blk hfb7
      refine ⟨⟨cell_blk hfb8 rfl, trivial⟩, ?_⟩
      have hsb : h8[sb]? = some (.cells (([129, 0] : List Int).flatMap encU8).toArray 5 (0, 0)) := n8.this
      refine xappend_many (ys := [129, 0]) u8Info u8Zero rfl (by decide) encU8_len encU8_one (o7.ext n8.ext) hl12 rfl (reads_all hsb) (by omega) (x7.trans n8.ext).size fun A9 c9 h9 o9 k9 => ?_
      have x9 := k9.ext (x7.trans n8.ext) fun b e => o7.ge b e
      have hfb9 := k9.blk hfb8 hA7
      refine ⟨⟨cell_blk hfb9 rfl, trivial⟩, ?_⟩
      have ev : IntKind.u16.wrap vid = vid := wU16 (by omega) (by omega)
      have ew : IntKind.u16.wrap (IntKind.u16.wrap (IntKind.u16.wrap ((tciM bs).tdiv 4096) * 4096) + IntKind.u16.wrap vid) = tciM bs / 4096 * 4096 + vid := by
        rw [ev, Int.tdiv_eq_ediv_of_nonneg tr.1, wU16 (x := tciM bs / 4096) (by omega) (by omega), wU16 (x := tciM bs / 4096 * 4096) (by omega) (by omega), wU16 (by omega) (by omega)]
      have bs2 := r2Bytes_spec (h := h9) (t := tciM bs / 4096 * 4096 + vid) (by omega)
      rw [← ew] at bs2
      refine bs2.mono ?_
      rw [ew]
      rintro v h10 ⟨tb, rfl, htb, y10⟩
      refine xappend_many (xs := bs.take 12 ++ [129, 0]) (ys := [(tciM bs / 4096 * 4096 + vid) / 256, (tciM bs / 4096 * 4096 + vid) % 256]) u8Info u8Zero rfl (by decide) encU8_len encU8_one (o9.ext y10) (by rw [List.length_append, hl12]; rfl) rfl (reads_all htb) (by omega) (x9.trans y10).size fun A11 c11 h11 o11 k11 => ?_
      have x11 := k11.ext (x9.trans y10) fun b e => o9.ge b e
      refine ⟨(A11, c11, bs.take 12 ++ [129, 0] ++ [(tciM bs / 4096 * 4096 + vid) / 256, (tciM bs / 4096 * 4096 + vid) % 256]), ⟨rfl, rfl, by rw [List.length_append, List.length_append, hl12]; rfl, trivial⟩, ?_, o11, x11⟩
      show bs.take 12 ++ [129, 0] ++ _ = _
      rw [if_pos q1, List.append_assoc]; rfl
    · exact ⟨(A7, c7, bs.take 12), ⟨rfl, rfl, by rw [hl12]; rfl, trivial⟩, by rw [q1]; simp, o7, x7⟩
  rintro ⟨A8, c8, xs⟩ h8 ⟨hx, o8, x8⟩
  simp only at hx o8
  have hz : (A8, c8, xs).2.2.length = xs.length := rfl
  have hxl : xs.length ≤ 16 := by
    rw [hx, List.length_append, hl12]
    split
    · exact Nat.le_refl _
    · rw [List.length_nil]; omega
  have rb := row_from (x8.row hr) ((behindN bs : Nat) : Int).toNat (q := (c : Int).toNat = ((behindN bs : Nat) : Int).toNat) (inst := inferInstance) (fun e => by omega)
  refine ⟨by decide, by omega, by omega, by omega, Int.le_refl _, ?_⟩
  refine xappend_many (ys := bs.drop (behindN bs)) u8Info u8Zero rfl (by decide) encU8_len encU8_one o8 rfl (by rw [List.length_drop]; omega) (row_readsOf encU8_len rb) (by omega) x8.size fun A9 c9 h9 o9 k9 => ?_
  have x9 := k9.ext x8 fun b e => o8.ge b e
  refine (r2Pad_spec o9 x9 (by rw [List.length_append, List.length_drop]; omega) (by omega)).mono ?_
  rintro v h10 ⟨A10, c10, rfl, o10, x10⟩
  rw [hx] at o10
  exact ⟨A10, _, c10, by rw [hx]; rfl, (fun _ => ⟨rfl, o10.row encU8_len⟩), x10⟩
end
end Go.Proofs.YtcjoenkpibhmoaaGreatE
