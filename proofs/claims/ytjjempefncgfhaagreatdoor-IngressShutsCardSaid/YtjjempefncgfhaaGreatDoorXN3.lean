/- What the program's model answers: ports are set, VLANs, what waits, what is sent; whatever is done. Conditions: the arguments are of their types. -/
import Derived.Test.YtjjempefncgfhaaGreatDoorXN2
set_option linter.unusedVariables false
set_option linter.unusedSimpArgs false
set_option maxRecDepth 100000
namespace Go.Proofs.YtjjempefncgfhaaGreatDoorE
open Go Go.Proofs
section
variable {base : Nat} {F : Nat → Prop} {h h1 h' : Heap} {m : Nat} {D : Dat} {p : Pl} {M M' : Md}
theorem and_eq {a b : Int} (wa : SetWf a) (wb : SetWf b) : IntKind.u64.wrap ((BitVec.ofInt 64 a &&& BitVec.ofInt 64 b).toNat : Int) = andM a b := by
  have h := andM_wf (b := b) wa
  rw [BitVec.toNat_and, ofInt_toNat wa.lo wa.hi, ofInt_toNat wb.lo wb.hi]
  exact wrap_u64 h.lo h.hi
theorem pairSame (k : Int × Int) : Instr.sameBits 10000 (encPr k) (encPr k) = true := by
  have : Instr.sameBits 10000 (encPr k) (encPr k) = ((k.1 == k.1) && ((k.2 == k.2) && true)) := by kernel_rfl
  rw [this]; simp
theorem xlookup_def {α β : Type} [DecidableEq α] {encK : α → Value} {encV : β → Value} {P : Program} {T : TypeId} (L : KeyLaw P T encK) {kind : TypeDesc} {M V : TypeId} {z : β} {h : Heap} {b : Nat} {es : List (α × β)} {K : Value → (Heap → Prop) → Prop} (hu : P.underlying T = some kind) (hM : P.underlying M = some (.map T V))
    (hz : ∀ w, (zeroValue V).run P w = .ok (encV z) w) (hm : MapAt encK encV h b es) (k : α) (hk : ∀ Fc, K (encV ((getE k es).getD z)) Fc) : XGet P (Instr.lookup M (.map (some b)) (encK k) false) h K :=
  xlookup_one L hu hM hz hm k fun Fc _ => by
    have := hk Fc
    cases hg : getE k es with
    | none => rw [hg] at this; exact this
    | some v => rw [hg] at this; exact this
theorem qents_at {es : List ((Int × Int) × Sl)} {q : Int → Int → List Int} (Q : QEnts base F h es q) (a b : Int) : ∃ r, (getE (a, b) es).getD ⟨none, 0, 0⟩ = r ∧ r.n = (q a b).length ∧ OwnA encI 1 3 base h r.a r.c (q a b) ∧ (r.a = none ∨ getE (a, b) es = some r) := by
  cases hg : getE (a, b) es with
  | none =>
    refine ⟨⟨none, 0, 0⟩, rfl, ?_, ?_, .inl rfl⟩
    · rw [Q.none (a, b) hg]; rfl
    · rw [Q.none (a, b) hg]; exact .inl ⟨rfl, rfl, rfl⟩
  | some r =>
    have := Q.some (a, b) r hg
    exact ⟨r, rfl, this.1, this.2.1, .inr rfl⟩
theorem StampAt.keep {α β : Type} [DecidableEq α] {encK : α → Value} {encV : β → Value} {h h' : Heap} {b : Nat} {es : List (α × β)} {k : α} {s : Int} (S : StampAt encK encV h b es k s) (e : h'[b]? = h[b]?) : StampAt encK encV h' b es k s := by
  obtain ⟨E, cl, i, v0, en, hb, r⟩ := S
  exact ⟨E, cl, i, v0, en, by rw [e]; exact hb, r⟩
theorem MapAt.keep {α β : Type} {encK : α → Value} {encV : β → Value} {h h' : Heap} {b : Nat} {es : List (α × β)} (S : MapAt encK encV h b es) (e : h'[b]? = h[b]?) : MapAt encK encV h' b es := by
  obtain ⟨E, cl, hb, r⟩ := S
  exact ⟨E, cl, by rw [e]; exact hb, r⟩
theorem mapQZero : ∀ w, (zeroValue 64).run Tryz.prog w = .ok (encQv ⟨none, 0, 0⟩) w := fun _ => by kernel_rfl
end
end Go.Proofs.YtjjempefncgfhaaGreatDoorE
/- What the program's model answers: what is sent, and whatever is done. Conditions: the arguments are of their types. -/
set_option linter.unusedVariables false
set_option linter.unusedSimpArgs false
set_option maxRecDepth 100000
namespace Go.Proofs.YtjjempefncgfhaaGreatDoorE
open Go Go.Proofs
section
variable {base : Nat} {F : Nat → Prop} {h h1 h' : Heap} {m : Nat} {D : Dat} {p : Pl} {M M' : Md}
theorem ent_eq {o : Op17} (hm : mayO p o = true) (hk : 2 ≤ o.kind ∧ o.kind ≤ 7) : do17 p M o = entM p M o := by
  unfold do17 entM
  rw [if_neg (by simp [hm]), if_neg (by omega), if_neg (by omega)]
  by_cases h2 : o.kind = 2
  · rw [if_pos h2, if_pos h2]
  rw [if_neg h2, if_neg h2]
  by_cases h3 : o.kind = 3
  · rw [if_pos h3, if_pos h3]
  rw [if_neg h3, if_neg h3]
  by_cases h4 : o.kind = 4
  · rw [if_pos h4, if_pos h4]
  rw [if_neg h4, if_neg h4]
  by_cases h5 : o.kind = 5
  · rw [if_pos h5, if_neg (by omega), if_neg (by omega)]
  rw [if_neg h5]
  by_cases h6 : o.kind = 6
  · rw [if_pos h6, if_pos h6]
  rw [if_neg h6, if_neg h6, if_pos (by omega), if_pos (by omega)]
end
end Go.Proofs.YtjjempefncgfhaaGreatDoorE
/- What the document's functions of sets of ports answer. Conditions: the arguments are of their types. -/
set_option linter.unusedVariables false
set_option linter.unusedSimpArgs false
set_option maxRecDepth 100000
namespace Go.Proofs.YtjjempefncgfhaaGreatDoorE
open Go Go.Proofs
section
variable {h : Heap}
theorem r3bit_spec {p : Int} (h0 : 0 ≤ p) (h1 : p < 64) : HCalls Tryz.prog 90 #[.int .i64 p] h (fun v h' => v = .int .u64 (2 ^ p.toNat) ∧ h' = h) := by
  obtain ⟨k, rfl⟩ : ∃ k : Nat, p = k := ⟨p.toNat, by omega⟩
  refine xcalls env0 Tryz.func90 rfl (by kernel_rfl) rfl (by kernel_rfl) ?_
  refine ⟨Nat, fun i => [(0, .int .i64 k), (3, .int .u64 ((2 ^ i : Nat) : Int)), (4, .int .i64 i)], fun i h' => i ≤ k ∧ h' = h, fun i => k - i, 0, ⟨rfl, rfl, rfl, trivial⟩, ⟨Nat.zero_le _, rfl⟩, ?_⟩
  rintro i h2 ⟨hi, rfl⟩
  refine xif_of (fun hlt => ?_) (fun hge => ?_)
  · have hlt : (i : Int) < k := of_decide_eq_true hlt
    refine ⟨i + 1, ⟨rfl, congrArg (fun z => some (Value.int .u64 z)) ?_, slot_inc (by omega), trivial⟩, ⟨by omega, rfl⟩, by show k - (i + 1) < k - i; omega⟩
    have := two_pow_lt (n := i + 1) (by omega)
    rw [Nat.pow_succ] at this ⊢
    show IntKind.u64.wrap (((2 ^ i : Nat) : Int) * 2) = _
    rw [wrap_u64 (by omega) (by omega)]
    omega
  · have hge : ¬ (i : Int) < k := of_decide_eq_false hge
    have : i = k := by omega
    subst this
    exact ⟨congrArg (Value.int .u64) (by rw [Int.toNat_natCast]; simp), rfl⟩
theorem r3Has_spec {s p : Int} (ws : SetWf s) : HCalls Tryz.prog 39 #[.int .u64 s, .int .i64 p] h (fun v h' => v = .bool (hasM s p) ∧ h' = h) := by
  unfold hasM
  refine xcalls env0 Tryz.func39 rfl (by kernel_rfl) rfl (by kernel_rfl) ?_
  refine xif_of (fun q => ?_) (fun q => ?_)
  · have q : p ≥ 0 := of_decide_eq_true q
    refine xif_of (fun q2 => ?_) (fun q2 => ?_)
    · have q2 : p < 64 := of_decide_eq_true q2
      refine (r3bit_spec q q2).mono ?_
      rintro v h1 ⟨rfl, rfl⟩
      have h2 : 0 < 2 ^ p.toNat := Nat.pow_pos (by omega)
      have h3 := two_pow_lt (n := p.toNat) (by omega)
      refine ⟨by rw [← int_pow]; omega, by decide, congrArg Value.bool ?_, rfl⟩
      rw [decide_eq_true (show 0 ≤ p ∧ p < 64 from ⟨q, q2⟩), Bool.true_and, Nat.testBit_eq_decide_div_mod_eq]
      obtain ⟨n, rfl⟩ : ∃ n : Nat, s = n := ⟨s.toNat, by have := ws.lo; omega⟩
      have hs := ws.hi
      show ((IntKind.u64.wrap ((n : Int).tdiv (2 ^ p.toNat))).tmod 2 == 1) = _
      have e1 : (n : Int).tdiv (2 ^ p.toNat) = ((n / 2 ^ p.toNat : Nat) : Int) := by
        rw [← int_pow, Int.tdiv_eq_ediv_of_nonneg (by omega)]; simp
      have e2 : n / 2 ^ p.toNat ≤ n := Nat.div_le_self _ _
      obtain ⟨d, hd⟩ : ∃ d, n / 2 ^ p.toNat = d := ⟨_, rfl⟩
      rw [hd] at e1 e2
      rw [e1, wrap_u64 (by omega) (by omega), Int.tmod_eq_emod_of_nonneg (by omega), Int.toNat_natCast, hd]
      rw [Bool.eq_iff_iff]
      simp only [beq_iff_eq, decide_eq_true_eq]
      omega
    · have q2 : ¬ p < 64 := of_decide_eq_false q2
      exact ⟨congrArg Value.bool (by rw [decide_eq_false (by omega), Bool.false_and]), rfl⟩
  · have q : ¬ p ≥ 0 := of_decide_eq_false q
    exact ⟨congrArg Value.bool (by rw [decide_eq_false (by omega), Bool.false_and]), rfl⟩
def withM (s p : Int) : Int := if p < 0 ∨ 63 < p ∨ hasM s p = true then s else s + 2 ^ p.toNat
theorem r3With_spec {s p : Int} (ws : SetWf s) : HCalls Tryz.prog 40 #[.int .u64 s, .int .i64 p] h (fun v h' => v = .int .u64 (IntKind.u64.wrap (withM s p)) ∧ h' = h) := by
  have es : IntKind.u64.wrap s = s := wrap_u64 ws.lo ws.hi
  unfold withM
  refine xcalls env0 Tryz.func40 rfl (by kernel_rfl) rfl (by kernel_rfl) ?_
  refine xif_of (fun q => ?_) (fun q => ?_)
  · have q : p < 0 := of_decide_eq_true q
    exact ⟨by rw [if_pos (.inl q), es]; rfl, rfl⟩
  have q : ¬ p < 0 := of_decide_eq_false q
  refine xif_of (fun q2 => ?_) (fun q2 => ?_)
  · have q2 : p > 63 := of_decide_eq_true q2
    exact ⟨by rw [if_pos (.inr (.inl q2)), es]; rfl, rfl⟩
  have q2 : ¬ p > 63 := of_decide_eq_false q2
  refine (r3Has_spec ws).mono ?_
  rintro v h1 ⟨rfl, rfl⟩
  refine xif_of (fun q3 => ?_) (fun q3 => ?_)
  · exact ⟨by rw [if_pos (.inr (.inr q3)), es]; rfl, rfl⟩
  · refine (r3bit_spec (by omega) (by omega)).mono ?_
    rintro v h2 ⟨rfl, rfl⟩
    exact ⟨by rw [if_neg (by simp [q3]; omega)]; rfl, rfl⟩
/-- A set's first ports, and one more. -/
theorem with_next {x k : Nat} (hx : x < 18446744073709551616) (hk : k < 64) : (x.testBit k = true → IntKind.u64.wrap (withM ((x % 2 ^ k : Nat) : Int) k) = ((x % 2 ^ (k + 1) : Nat) : Int)) ∧ (x.testBit k = false → x % 2 ^ (k + 1) = x % 2 ^ k) := by
  have hn := mod_next x k
  have hlt : x % 2 ^ k < 2 ^ k := Nat.mod_lt _ (Nat.pow_pos (by omega))
  have hp := two_pow_le hk
  refine ⟨fun hb => ?_, fun hb => by rw [hn, if_neg (by simp [hb])]⟩
  rw [hn, if_pos hb]
  have hnb : hasM ((x % 2 ^ k : Nat) : Int) k = false := by
    unfold hasM
    rw [Int.toNat_natCast, Int.toNat_natCast, Nat.testBit_lt_two_pow hlt, Bool.and_false]
  rw [withM, if_neg (by rw [hnb]; simp; omega), Int.toNat_natCast, ← int_pow, wrap_u64 (by omega) (by omega)]
  omega
theorem r3All_spec (n : Int) : HCalls Tryz.prog 38 #[.int .i64 n] h (fun v h' => v = .int .u64 (allM n) ∧ h' = h) := by
  have full : ∀ k : Nat, k ≤ 64 → (18446744073709551615 : Nat) % 2 ^ k = 2 ^ k - 1 := by
    intro k hk
    have h1 : (18446744073709551615 : Nat) = 2 ^ 64 - 1 := by decide
    have h2 : (2 : Nat) ^ 64 = 2 ^ k * 2 ^ (64 - k) := by rw [← Nat.pow_add]; congr 1; omega
    have h3 : 0 < 2 ^ k := Nat.pow_pos (by omega)
    have h4 : 0 < 2 ^ (64 - k) := Nat.pow_pos (by omega)
    rw [h1, h2]
    obtain ⟨m, hm⟩ : ∃ m, 2 ^ (64 - k) = m + 1 := ⟨2 ^ (64 - k) - 1, by omega⟩
    rw [hm, Nat.mul_succ]
    have : 2 ^ k * m + 2 ^ k - 1 = 2 ^ k * m + (2 ^ k - 1) := by omega
    rw [this, Nat.mul_add_mod, Nat.mod_eq_of_lt (by omega)]
  refine xcalls env0 Tryz.func38 rfl (by kernel_rfl) rfl (by kernel_rfl) ?_
  refine ⟨Nat, fun i => [(0, .int .i64 n), (3, .int .u64 ((18446744073709551615 % 2 ^ i : Nat) : Int)), (4, .int .i64 i)], fun i h' => i ≤ 64 ∧ ((i : Int) ≤ n ∨ i = 0) ∧ h' = h, fun i => 64 - i, 0, ⟨rfl, rfl, rfl, trivial⟩, ⟨Nat.zero_le _, .inr rfl, rfl⟩, ?_⟩
  rintro i h2 ⟨hi, hin, rfl⟩
  have done : (n ≤ i ∨ i = 64) → Value.int .u64 ((18446744073709551615 % 2 ^ i : Nat) : Int) = Value.int .u64 (allM n) := by
    intro hd
    refine congrArg (Value.int .u64) ?_
    rw [full i hi]
    by_cases h0 : n ≤ 0
    · rw [allM, if_pos h0]
      have : i = 0 := by omega
      subst this; rfl
    by_cases h1 : 64 ≤ n
    · have : i = 64 := by omega
      subst this
      rw [allM, if_neg h0, if_pos h1]; decide
    · have e : n.toNat = i := by omega
      have h3 : 0 < 2 ^ i := Nat.pow_pos (by omega)
      rw [allM, if_neg h0, if_neg h1, e, ← int_pow]
      omega
  refine xif_of (fun hlt => ?_) (fun hge => ?_)
  · have hlt : (i : Int) < n := of_decide_eq_true hlt
    refine xif_of (fun h64 => ?_) (fun h64 => ?_)
    · have h64 : (i : Int) < 64 := of_decide_eq_true h64
      have hb : (18446744073709551615 : Nat).testBit i = true := by
        rw [show (18446744073709551615 : Nat) = 2 ^ 64 - 1 by decide, Nat.testBit_two_pow_sub_one]
        simp; omega
      have hm : 18446744073709551615 % 2 ^ i ≤ 18446744073709551615 := Nat.mod_le _ _
      refine (r3With_spec ⟨by omega, by omega⟩).mono ?_
      rintro v h3 ⟨rfl, rfl⟩
      refine ⟨i + 1, ⟨rfl, congrArg (fun z => some (Value.int .u64 z)) ((with_next (x := 18446744073709551615) (k := i) (by decide) (by omega)).1 hb), slot_inc (by omega), trivial⟩, ⟨by omega, .inl (by omega), rfl⟩, by show 64 - (i + 1) < 64 - i; omega⟩
    · have h64 : ¬ (i : Int) < 64 := of_decide_eq_false h64
      exact ⟨done (by omega), rfl⟩
  · have hge : ¬ (i : Int) < n := of_decide_eq_false hge
    exact ⟨done (by omega), rfl⟩
end
end Go.Proofs.YtjjempefncgfhaaGreatDoorE
