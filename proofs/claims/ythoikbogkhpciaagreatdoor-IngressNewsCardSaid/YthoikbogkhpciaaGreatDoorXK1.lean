/- Where a key's bucket is: the mixed number, the word, the place, as the program and the document's answer have them. Conditions: the arguments are of their types. -/
import Derived.Test.YthoikbogkhpciaaGreatDoorXA1
set_option linter.unusedVariables false
set_option linter.unusedSimpArgs false
set_option maxRecDepth 100000
namespace Go.Proofs.YthoikbogkhpciaaGreatDoorE
open Go Go.Proofs
def env_kPlace : Nat → Ann
  | 4 => ⟨.op 0 [] <| .op 1 [] <| .op 2 [] <| .op 3 [] <| .op 4 [] <| .op 5 [] <| .op 6 [] <| .op 7 [] <| .op 8 [] <| .op 9 [] <| .op 10 [] <| .op 11 [] <| .op 12 [] <| .nil, [0, 0, 2, 7, 15, 0, 32, 0, 128, 480, 992, 31, 4095], false⟩
  | _ => ⟨.nil, [], false⟩
def xorM (a b : Int) : Int := IntKind.u64.wrap ((BitVec.ofInt 64 a ^^^ BitVec.ofInt 64 b).toNat : Int)
theorem u64_range (x : Int) : 0 ≤ IntKind.u64.wrap x ∧ IntKind.u64.wrap x < 18446744073709551616 := by rw [IntKind.wrap_u64]; omega
def stepM (z d c : Int) : Int := IntKind.u64.wrap (xorM z (z / d) * c)
def mixM (n : Int) : Int :=
  let z := stepM (stepM (IntKind.u64.wrap (n + 11400714819323198485)) 1073741824 13787848793156543929) 134217728 10723151780598845931
  xorM z (z / 2147483648)
theorem mixM_range (n : Int) : 0 ≤ mixM n ∧ mixM n < 18446744073709551616 := u64_range _
theorem shr_eq {z : Int} (k d : Int) (hd : (2 : Int) ^ (min k.toNat IntKind.u64.bits) = d) (h0 : 0 ≤ d) : z.fdiv (2 ^ (min k.toNat IntKind.u64.bits)) = z / d := by
  rw [hd, Int.fdiv_eq_ediv_of_nonneg _ h0]
theorem quo_eq {z d : Int} (h : 0 ≤ z ∧ z < 18446744073709551616) (hd : 1 ≤ d) : IntKind.u64.wrap (z.tdiv d) = z / d := by
  rw [Int.tdiv_eq_ediv_of_nonneg h.1, wrap_u64 (Int.ediv_nonneg h.1 (by omega))]
  exact Int.lt_of_le_of_lt (Int.ediv_le_self _ h.1) h.2
theorem tMix_spec (n : Int) (h : Heap) : HCalls Tryz.prog 139 #[.int .u64 n] h (fun v h' => v = .int .u64 (mixM n) ∧ h' = h) := by
  refine xcalls env0 Tryz.func139 rfl (by kernel_rfl) rfl (by kernel_rfl) ?_
  refine ⟨by decide, by decide, by decide, ?_, rfl⟩
  unfold mixM stepM
  simp only
  rw [← shr_eq 30 1073741824 (by decide) (by decide), ← shr_eq 27 134217728 (by decide) (by decide), ← shr_eq 31 2147483648 (by decide) (by decide)]
  rfl
def wordM (vid mac : Int) : Int := if keyOk vid mac = true then 1152921504606846976 + vid * 281474976710656 + mac else 0
theorem keyOk_range {vid mac : Int} (h : keyOk vid mac = true) : 1 ≤ vid ∧ vid ≤ 4094 ∧ 0 < mac ∧ mac < 281474976710656 := by
  simp only [keyOk, Bool.and_eq_true, decide_eq_true_eq] at h
  omega
theorem or_eq {a b : Nat} {x y : Int} (hx : x = (a : Int)) (hy : y = (b : Int)) (ha : a < 18446744073709551616) (hb : b < 18446744073709551616) : IntKind.u64.wrap ((BitVec.ofInt 64 x ||| BitVec.ofInt 64 y).toNat : Int) = ((a ||| b : Nat) : Int) := by
  subst hx hy
  have h1 : (BitVec.ofInt 64 (a : Int)).toNat = a := by rw [ofInt_toNat (by omega) (by omega)]; simp
  have h2 : (BitVec.ofInt 64 (b : Int)).toNat = b := by rw [ofInt_toNat (by omega) (by omega)]; simp
  rw [BitVec.toNat_or, h1, h2]
  have : a ||| b < 2 ^ 64 := Nat.or_lt_two_pow (by omega) (by omega)
  exact wrap_u64 (by omega) (by omega)
theorem kWord_spec {vid mac : Int} (wf : KeyWf vid mac) (h : Heap) : HCalls Tryz.prog 128 #[.agg #[.int .i64 vid, .int .u64 mac]] h (fun v h' => v = .int .u64 (wordM vid mac) ∧ Ext h h') := by
  refine xcalls env0 Tryz.func128 rfl (by kernel_rfl) rfl (by kernel_rfl) ?_
  intro b1 h1 n1
  refine ⟨_, rfl, reads_all n1.this, ?_⟩
  refine (keyRight_spec wf _).mono ?_
  rintro v h2 ⟨rfl, x2⟩
  have hb := x2.blk n1.this
  have x := n1.ext.trans x2
  refine xif_of (fun q => ?_) (fun q => ?_)
  · refine ⟨?_, x⟩
    have q : keyOk vid mac = false := by simpa using q
    rw [wordM, if_neg (by simp [q])]; rfl
  · have q : keyOk vid mac = true := by simpa using q
    obtain ⟨k0, k1, k2, k3⟩ := keyOk_range q
    refine ⟨_, cell_blk hb rfl, by decide, _, cell_blk hb rfl, ?_, x⟩
    refine congrArg (Value.int .u64) ?_
    obtain ⟨a, rfl⟩ : ∃ a : Nat, vid = a := ⟨vid.toNat, by omega⟩
    obtain ⟨m, rfl⟩ : ∃ a : Nat, mac = a := ⟨mac.toNat, by omega⟩
    have e1 : IntKind.u64.wrap (IntKind.u64.wrap (a : Int) * 2 ^ (min (48 : Int).toNat IntKind.u64.bits)) = ((2 ^ 48 * a : Nat) : Int) := by
      rw [show (2 : Int) ^ (min (48 : Int).toNat IntKind.u64.bits) = 281474976710656 from by decide, wrap_u64 (x := (a : Int)) (by omega) (by omega), wrap_u64 (by omega) (by omega)]
      omega
    have e2 : IntKind.u64.wrap ((BitVec.ofInt 64 1152921504606846976 ||| BitVec.ofInt 64 (IntKind.u64.wrap (IntKind.u64.wrap (a : Int) * 2 ^ (min (48 : Int).toNat IntKind.u64.bits)))).toNat : Int) = ((2 ^ 60 * 1 ||| 2 ^ 48 * a : Nat) : Int) :=
      or_eq (a := 2 ^ 60 * 1) (by rfl) e1 (by decide) (by omega)
    have e3 : 2 ^ 60 * 1 ||| 2 ^ 48 * a = 2 ^ 48 * (4096 + a) := by
      rw [← Nat.two_pow_add_eq_or_of_lt (by omega)]; omega
    rw [e3] at e2
    have e4 : IntKind.u64.wrap ((BitVec.ofInt 64 (IntKind.u64.wrap ((BitVec.ofInt 64 1152921504606846976 ||| BitVec.ofInt 64 (IntKind.u64.wrap (IntKind.u64.wrap (a : Int) * 2 ^ (min (48 : Int).toNat IntKind.u64.bits)))).toNat : Int)) ||| BitVec.ofInt 64 (m : Int)).toNat : Int) = ((2 ^ 48 * (4096 + a) ||| m : Nat) : Int) :=
      or_eq e2 rfl (by omega) (by omega)
    rw [← Nat.two_pow_add_eq_or_of_lt (by omega)] at e4
    refine Eq.trans (b := ((2 ^ 48 * (4096 + a) + m : Nat) : Int)) e4 ?_
    rw [wordM, if_pos q]
    omega
def placeM (vid mac sh bk : Int) : Int × Int := if keyOk vid mac = true then (mixM (wordM vid mac) % sh, mixM (wordM vid mac) / 4294967296 % bk) else (0, 0)
theorem placeM_range {vid mac sh bk : Int} (h1 : 1 ≤ sh) (h2 : 1 ≤ bk) : 0 ≤ (placeM vid mac sh bk).1 ∧ (placeM vid mac sh bk).1 < sh ∧ 0 ≤ (placeM vid mac sh bk).2 ∧ (placeM vid mac sh bk).2 < bk := by
  unfold placeM
  split
  · exact ⟨Int.emod_nonneg _ (by omega), Int.emod_lt_of_pos _ (by omega), Int.emod_nonneg _ (by omega), Int.emod_lt_of_pos _ (by omega)⟩
  · exact ⟨Int.le_refl _, h1, Int.le_refl _, h2⟩
theorem mod_eq {z k : Int} (h0 : 0 ≤ z) (h1 : 1 ≤ k) (h2 : k ≤ 16) : IntKind.i64.wrap (z.tmod (IntKind.u64.wrap k)) = z % k := by
  have e := wrap_u64 (x := k) (by omega) (by omega)
  have := Int.emod_lt_of_pos z (show 0 < k by omega)
  have := Int.emod_nonneg z (show k ≠ 0 by omega)
  rw [e, Int.tmod_eq_emod_of_nonneg h0, wrap_i64 (by omega) (by omega)]
theorem kPlace_spec {vid mac sh bk : Int} (wf : KeyWf vid mac) (s1 : 1 ≤ sh) (s2 : sh ≤ 8) (b1 : 1 ≤ bk) (b2 : bk ≤ 16) (h : Heap) :
    HCalls Tryz.prog 118 #[.agg #[.int .i64 vid, .int .u64 mac], .int .i64 sh, .int .i64 bk] h (fun v h' => v = .tuple #[.int .i64 (placeM vid mac sh bk).1, .int .i64 (placeM vid mac sh bk).2] ∧ Ext h h') := by
  refine xcalls env_kPlace Tryz.func118 rfl (by kernel_rfl) rfl (by kernel_rfl) ?_
  intro b h1 n1
  refine ⟨_, rfl, reads_all n1.this, ?_⟩
  refine (keyRight_spec wf _).mono ?_
  rintro v h2 ⟨rfl, x2⟩
  have hb := x2.blk n1.this
  have x := n1.ext.trans x2
  have e1 : decide (sh < 1) = false := by simp; omega
  have e2 : decide (bk < 1) = false := by simp; omega
  refine xif_of (fun q => ?_) (fun q => ?_)
  · have q : keyOk vid mac = false := by simpa using q
    exact ⟨by rw [placeM, if_neg (by simp [q])]; rfl, x⟩
  · have q : keyOk vid mac = true := by simpa using q
    refine xif_false e1 ?_
    refine xif_false e2 ?_
    refine ⟨_, rfl, reads_all hb, ?_⟩
    refine (kWord_spec wf _).mono ?_
    rintro v h3 ⟨rfl, x3⟩
    refine (tMix_spec _ _).mono ?_
    rintro v h4 ⟨rfl, rfl⟩
    have hm := mixM_range (wordM vid mac)
    refine ⟨by rw [wrap_u64 (by omega) (by omega)]; omega, by decide, by rw [wrap_u64 (by omega) (by omega)]; omega, ?_, x.trans x3⟩
    have f1 : IntKind.i64.wrap ((mixM (wordM vid mac)).tmod (IntKind.u64.wrap sh)) = mixM (wordM vid mac) % sh := mod_eq hm.1 s1 (by omega)
    have f2 : IntKind.i64.wrap (((mixM (wordM vid mac)).fdiv (2 ^ (min (32 : Int).toNat IntKind.u64.bits))).tmod (IntKind.u64.wrap bk)) = mixM (wordM vid mac) / 4294967296 % bk := by
      rw [shr_eq 32 4294967296 (by decide) (by decide)]
      exact mod_eq (by omega) b1 (by omega)
    show Value.tuple #[.int .i64 (IntKind.i64.wrap ((mixM (wordM vid mac)).tmod (IntKind.u64.wrap sh))), .int .i64 (IntKind.i64.wrap (((mixM (wordM vid mac)).fdiv (2 ^ (min (32 : Int).toNat IntKind.u64.bits))).tmod (IntKind.u64.wrap bk)))] = _
    rw [f1, f2, placeM, if_pos q]
end Go.Proofs.YthoikbogkhpciaaGreatDoorE
