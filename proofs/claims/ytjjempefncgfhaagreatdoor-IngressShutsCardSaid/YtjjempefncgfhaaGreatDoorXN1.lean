/- What the program's functions of VLANs and ports answer. Conditions: the arguments are of their types. -/
import Derived.Test.YtjjempefncgfhaaGreatDoorXMd
import Derived.Test.YtjjempefncgfhaaGreatDoorXA1
set_option linter.unusedVariables false
set_option linter.unusedSimpArgs false
set_option maxRecDepth 100000
namespace Go.Proofs.YtjjempefncgfhaaGreatDoorE
open Go Go.Proofs
section
variable {base : Nat} {h : Heap}
/-- A port's bit; none: 0. -/
def bitM (p : Int) : Int := if 0 ≤ p ∧ p < 64 then 2 ^ p.toNat else 0
theorem shl_eq {p : Int} (h0 : 0 ≤ p) (h1 : p < 64) : IntKind.u64.wrap (1 * 2 ^ (min p.toNat IntKind.u64.bits)) = 2 ^ p.toNat := by
  have e : min p.toNat IntKind.u64.bits = p.toNat := by
    have : IntKind.u64.bits = 64 := rfl
    omega
  have := two_pow_lt (n := p.toNat) (by omega)
  have h2 : 0 < 2 ^ p.toNat := Nat.pow_pos (by omega)
  rw [e, Int.one_mul, ← int_pow]
  exact wrap_u64 (by omega) (by omega)
theorem vOf_spec (p : Int) : HCalls Tryz.prog 207 #[.int .i64 p] h (fun v h' => v = .int .u64 (bitM p) ∧ h' = h) := by
  unfold bitM
  refine xcalls env0 Tryz.func207 rfl (by kernel_rfl) rfl (by kernel_rfl) ?_
  refine xif_of (fun q => ?_) (fun q => ?_)
  · have q : p < 0 := of_decide_eq_true q
    exact ⟨by rw [if_neg (by omega)]; rfl, rfl⟩
  have q : ¬ p < 0 := of_decide_eq_false q
  refine xif_of (fun q2 => ?_) (fun q2 => ?_)
  · have q2 : p ≥ 64 := of_decide_eq_true q2
    exact ⟨by rw [if_neg (by omega)]; rfl, rfl⟩
  have q2 : ¬ p ≥ 64 := of_decide_eq_false q2
  refine ⟨by omega, ?_, rfl⟩
  rw [if_pos (by omega)]
  exact congrArg (Value.int .u64) (shl_eq (by omega) (by omega))
theorem hasM_eq {s p : Int} (ws : SetWf s) : (IntKind.u64.wrap ((BitVec.ofInt 64 s &&& BitVec.ofInt 64 (bitM p)).toNat : Int) != 0) = hasM s p := by
  unfold bitM hasM
  by_cases hp : 0 ≤ p ∧ p < 64
  · rw [if_pos hp, ← int_pow, and_bit p.toNat (by omega) ws.lo ws.hi, decide_eq_true hp, Bool.true_and]
    rw [Nat.testBit_eq_decide_div_mod_eq]
    obtain ⟨n, rfl⟩ : ∃ n : Nat, s = n := ⟨s.toNat, by have := ws.lo; omega⟩
    congr 1
    simp only [Int.toNat_natCast]
    exact propext (by norm_cast)
  · rw [if_neg hp, decide_eq_false hp, Bool.false_and]
    simp
    rfl
theorem vHas_spec {s p : Int} (ws : SetWf s) : HCalls Tryz.prog 170 #[.int .u64 s, .int .i64 p] h (fun v h' => v = .bool (hasM s p) ∧ h' = h) := by
  refine xcalls env0 Tryz.func170 rfl (by kernel_rfl) rfl (by kernel_rfl) ?_
  refine (vOf_spec p).mono ?_
  rintro v h1 ⟨rfl, rfl⟩
  exact ⟨congrArg Value.bool (hasM_eq ws), rfl⟩
theorem vAll_spec (n : Int) : HCalls Tryz.prog 186 #[.int .i64 n] h (fun v h' => v = .int .u64 (allM n) ∧ h' = h) := by
  unfold allM
  refine xcalls env0 Tryz.func186 rfl (by kernel_rfl) rfl (by kernel_rfl) ?_
  refine xif_of (fun q => ?_) (fun q => ?_)
  · have q : n ≤ 0 := of_decide_eq_true q
    exact ⟨by rw [if_pos q]; rfl, rfl⟩
  have q : ¬ n ≤ 0 := of_decide_eq_false q
  refine xif_of (fun q2 => ?_) (fun q2 => ?_)
  · have q2 : n ≥ 64 := of_decide_eq_true q2
    exact ⟨by rw [if_neg q, if_pos (by omega)]; rfl, rfl⟩
  have q2 : ¬ n ≥ 64 := of_decide_eq_false q2
  refine ⟨by omega, ?_, rfl⟩
  rw [if_neg q, if_neg (by omega)]
  refine congrArg (Value.int .u64) ?_
  rw [shl_eq (by omega) (by omega)]
  have := two_pow_lt (n := n.toNat) (by omega)
  have h2 : 0 < 2 ^ n.toNat := Nat.pow_pos (by omega)
  rw [← int_pow]
  exact wrap_u64 (by omega) (by omega)
theorem vFind1_spec (v : Vl) {b : Nat} {vid : Int} (hb : h[b]? = some (.cells [.int .i64 vid].toArray 3 (0, 0))) : HCalls Tryz.prog 162 #[.agg (encVl v).toArray, .pointer (some ⟨b, 0, none⟩)] h (fun w h' => w = .bool (v.vid == vid) ∧ Ext h h') := by
  refine xcalls env0 Tryz.func162 rfl (by kernel_rfl) rfl (by kernel_rfl) ?_
  intro b1 h1 n1
  have hb1 : h1[b1]? = some (.cells (encVl v).toArray 165 (0, 0)) := n1.this
  exact ⟨_, cell_blk hb1 rfl, _, cell_blk (n1.ext.blk hb) rfl, rfl, n1.ext⟩
theorem vFind_spec {A : Option Addr} {c : Nat} {l : List Vl} {vid : Int} (hr : Row encVl 3 h A l) (hn : l.length ≤ 1000000) : HCalls Tryz.prog 104 #[.slice A l.length c, .int .i64 vid] h (fun v h' => v = .int .i64 (findV vid l 0) ∧ Ext h h') := by
  refine xcalls env0 Tryz.func104 rfl (by kernel_rfl) rfl (by kernel_rfl) ?_
  intro b h1 n1
  have key : HCalls Tryz.prog 161 #[.slice A l.length c, .func (.func 162) #[] #[.pointer (some ⟨b, 0, none⟩)]] h1 (fun v h' => v = .int .i64 (findV vid l 0) ∧ Ext h1 h') := by
    refine xcalls env0 Tryz.func161 rfl (by kernel_rfl) rfl (by kernel_rfl) ?_
    refine ⟨Nat, fun i => [(0, .slice A l.length c), (1, .func (.func 162) #[] #[.pointer (some ⟨b, 0, none⟩)]), (7, .int .i64 l.length), (8, .int .i64 i)], fun i h' => i ≤ l.length ∧ Ext h1 h' ∧ findV vid (l.drop i) i = findV vid l 0, fun i => l.length - i, 0, ⟨rfl, rfl, rfl, rfl, trivial⟩, ⟨Nat.zero_le _, Ext.refl _, rfl⟩, ?_⟩
    rintro i h2 ⟨hi, x2, hf⟩
    refine xif_of (fun hlt => ?_) (fun hge => ?_)
    · have hlt : (i : Int) < l.length := of_decide_eq_true hlt
      obtain ⟨v, hv⟩ : ∃ v, l[i]? = some v := ⟨l[i]'(by omega), List.getElem?_eq_getElem (by omega)⟩
      obtain ⟨a, rfl, hrd⟩ := ((n1.ext.trans x2).row hr) i v hv
      rw [findV_drop hv] at hf
      refine ⟨_, rfl, by omega, hlt, encVl v, rfl, hrd, ?_⟩
      refine (vFind1_spec v (x2.blk n1.this)).mono ?_
      rintro w h3 ⟨rfl, x3⟩
      refine xif_of (fun q => ?_) (fun q => ?_)
      · rw [if_pos (by simpa using q)] at hf
        exact ⟨congrArg (Value.int .i64) hf, x2.trans x3⟩
      · rw [if_neg (by simpa using q)] at hf
        exact ⟨i + 1, ⟨rfl, rfl, rfl, slot_inc (by omega), trivial⟩, ⟨by omega, x2.trans x3, hf⟩, by show l.length - (i + 1) < l.length - i; omega⟩
    · have hge : ¬ (i : Int) < l.length := of_decide_eq_false hge
      rw [List.drop_eq_nil_of_le (by omega)] at hf
      exact ⟨congrArg (Value.int .i64) hf, x2⟩
  refine key.mono ?_
  rintro v h2 ⟨rfl, x2⟩
  exact ⟨rfl, n1.ext.trans x2⟩
theorem pRight_spec (s : Int) : HCalls Tryz.prog 80 #[.int .i64 s] h (fun v h' => v = .bool (rightSt s) ∧ h' = h) := by
  unfold rightSt
  refine xcalls env0 Tryz.func80 rfl (by kernel_rfl) rfl (by kernel_rfl) ?_
  refine xif_of (fun q => ?_) (fun q => ?_)
  · have q : s ≥ 0 := of_decide_eq_true q
    exact ⟨congrArg Value.bool (by rw [Bool.eq_iff_iff]; simp; omega), rfl⟩
  · have q : ¬ s ≥ 0 := of_decide_eq_false q
    exact ⟨congrArg Value.bool (by rw [Bool.eq_iff_iff]; simp; omega), rfl⟩
theorem pSet_spec (x : Stn) (s : Int) : HCalls Tryz.prog 225 #[.agg (encSn x).toArray, .int .i64 s] h (fun v h' => v = .tuple #[.agg (if rightSt s = true then encSn ⟨s, IntKind.u32.wrap (x.ep + 1)⟩ else encSn ⟨0, 0⟩).toArray, .int .i64 (if rightSt s = true then 0 else 7)] ∧ Ext h h') := by
  refine xcalls env0 Tryz.func225 rfl (by kernel_rfl) rfl (by kernel_rfl) ?_
  intro b1 h1 n1 b2 h2 n2
  have x02 := n1.ext.trans n2.ext
  have hb1 : h2[b1]? = some (.cells (encSn x).toArray 167 (0, 0)) := n2.ext.blk n1.this
  refine (pRight_spec s).mono ?_
  rintro v h3 ⟨rfl, rfl⟩
  refine xif_of (fun q => ?_) (fun q => ?_)
  · have q : rightSt s = false := by simpa using q
    refine ⟨rfl, rfl, canset_blk n2.this rfl, fun h4 s4 => ?_⟩
    have hb : h4[b2]? = some (.cells [.int .i64 0, .int .u32 0].toArray 167 (0, 0)) := s4.put n2.this
    exact ⟨_, rfl, reads_all hb, by rw [if_neg (by simp [q]), if_neg (by simp [q])]; rfl, x02.stored s4 (n2.ge n1.ext)⟩
  · have q : rightSt s = true := by simpa using q
    refine ⟨_, cell_blk hb1 rfl, rfl, rfl, canset_blk n2.this rfl, fun h4 s4 => ?_⟩
    have hb : h4[b2]? = some (.cells [.int .i64 s, .int .u32 (IntKind.u32.wrap (x.ep + 1))].toArray 167 (0, 0)) := s4.put n2.this
    exact ⟨_, rfl, reads_all hb, by rw [if_pos q, if_pos q]; rfl, x02.stored s4 (n2.ge n1.ext)⟩
theorem pForwards_spec (s : Int) : HCalls Tryz.prog 227 #[.int .i64 s] h (fun v h' => v = .bool (s == 4) ∧ h' = h) := by
  refine xcalls env0 Tryz.func227 rfl (by kernel_rfl) rfl (by kernel_rfl) ?_
  exact ⟨rfl, rfl⟩
theorem intInfo : (Tryz.prog.info? 3).map (fun i => (i.size, i.bytes)) = some (1, 8) := by kernel_rfl
theorem intZero : xzero Tryz.prog 3 = some (encI 0) := by kernel_rfl
theorem iClone_spec {A : Option Addr} {c n : Nat} {l : List Int} (hr : Row encI 1 h A l) (hA : A = none → l = []) (hl : l.length = n) (hn : l.length ≤ 100000) :
    HCalls Tryz.prog 52 #[.slice A n c] h (fun v h' => ∃ A' c', v = .slice A' n c' ∧ OwnA encI 1 3 h.size h' A' c' l ∧ (∀ b, A' = some ⟨b, 0, none⟩ → h.size ≤ b) ∧ Ext h h') := by
  subst hl
  refine xcalls env0 Tryz.func52 rfl (by kernel_rfl) rfl (by kernel_rfl) ?_
  cases A with
  | none =>
    obtain rfl := hA rfl
    exact ⟨none, 0, rfl, .inl ⟨rfl, rfl, rfl⟩, (fun b e => by cases e), Ext.refl _⟩
  | some a =>
    intro b1 h1 n1
    have own1 : OwnA encI 1 3 h.size h1 (some ⟨b1, 0, none⟩) 0 ([] : List Int) := .inr ⟨b1, [], rfl, n1.ge (Ext.refl _), n1.this, rfl, Nat.le_refl _⟩
    refine xappend_many (xs := []) (ys := l) intInfo intZero rfl (by decide) encI_len encI_one own1 rfl rfl (row_readsOf encI_len (n1.ext.row hr)) (by omega) n1.ext.size fun A' c' h' o k => ?_
    exact ⟨A', c', by rw [Nat.zero_add]; rfl, o, o.ge, k.ext n1.ext (fun b' e => by cases e; exact n1.ge (Ext.refl _))⟩
end
end Go.Proofs.YtjjempefncgfhaaGreatDoorE
