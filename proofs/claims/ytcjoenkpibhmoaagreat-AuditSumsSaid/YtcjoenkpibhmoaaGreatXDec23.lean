/- The arguments of the laws of layer 23, decoded. Conditions: none. -/
import Derived.Test.YtcjoenkpibhmoaaGreatXDec18
import Derived.Test.YtcjoenkpibhmoaaGreatXJA
set_option linter.unusedVariables false
set_option linter.unusedSimpArgs false
set_option maxRecDepth 100000
namespace Go.Proofs.YtcjoenkpibhmoaaGreatE
open Go Go.Proofs Go.ChangeShapes Go.WideShapes Go.ChangeAt Go.RowKit
section
variable {W : World}
theorem wf_u8' {n : Int} (h : (Lit.int .u8 n).wf = true) : 0 ≤ n ∧ n < 256 := by
  have : 0 ≤ n ∧ n ≤ 255 := by simpa [Lit.wf, IntKind.min, IntKind.max, IntKind.signed, IntKind.bits] using h
  omega
theorem dec_u8 {m : Nat} {cs : List Value} (h : DecW Tryz.prog W (m + 1) 5 cs) : ∃ y : Int, cs = encU8 y ∧ 0 ≤ y ∧ y < 256 := by
  obtain ⟨y, h0, w⟩ := h
  exact ⟨y, h0, wf_u8' w⟩
theorem dec_cm {cs : List Value} (h : DecW Tryz.prog W 5 63 cs) : ∃ x : Cm, cs = encCm x ∧ BsIn W.heap x.A x.n x.c x.bs := by
  obtain ⟨hl, hf⟩ := h
  have hl : cs.length = 3 := hl
  match cs, hl, hf with
  | [a, b, c], _, hf =>
    obtain ⟨⟨x, h0, _⟩, ⟨y, h1, _⟩, ⟨A, n, k, h2, lA, mA, rA⟩, _⟩ := hf
    have h0 : [a] = [Value.int .i64 x] := h0
    have h1 : [b] = [Value.int .u32 y] := h1
    have h2 : [c] = [Value.slice A n k] := h2
    cases h0; cases h1; cases h2
    obtain ⟨bs, l1, r1, w1⟩ := row_of_dec (enc' := encU8) (sz := 1) (by kernel_rfl) (fun cs h => dec_u8 h) rA
    exact ⟨⟨x, y, A, n, k, bs⟩, rfl, r1, l1, lA, w1⟩
theorem dec_dn {cs : List Value} (h : DecW Tryz.prog W 5 68 cs) : ∃ x : Dn, cs = encDn x ∧ True := by
  obtain ⟨hl, hf⟩ := h
  have hl : cs.length = 7 := hl
  match cs, hl, hf with
  | [a, b, c, d, e, f, g], _, hf =>
    obtain ⟨⟨x, h0, _⟩, ⟨y, h1, _⟩, ⟨z, h2, _⟩, ⟨u, h3, _⟩, ⟨v, h4, _⟩, ⟨A, n, k, h5, _⟩, ⟨B, m, j, h6, _⟩, _⟩ := hf
    have h0 : [a] = [Value.int .i64 x] := h0
    have h1 : [b] = [Value.int .i64 y] := h1
    have h2 : [c] = [Value.int .i64 z] := h2
    have h3 : [d] = [Value.int .i64 u] := h3
    have h4 : [e] = [Value.int .i64 v] := h4
    have h5 : [f] = [Value.slice A n k] := h5
    have h6 : [g] = [Value.slice B m j] := h6
    cases h0; cases h1; cases h2; cases h3; cases h4; cases h5; cases h6
    exact ⟨⟨x, y, z, u, v, A, n, k, B, m, j⟩, rfl, trivial⟩
theorem dec_ot {cs : List Value} (h : DecW Tryz.prog W 5 65 cs) : ∃ x : Ot, cs = encOt x ∧ BsIn W.heap x.A x.n x.c x.bs := by
  obtain ⟨hl, hf⟩ := h
  have hl : cs.length = 5 := hl
  match cs, hl, hf with
  | [a, b, c, d, e], _, hf =>
    obtain ⟨⟨x, h0, _⟩, ⟨y, h1, _⟩, ⟨z, h2, _⟩, ⟨u, h3, _⟩, ⟨A, n, k, h4, lA, mA, rA⟩, _⟩ := hf
    have h0 : [a] = [Value.int .i64 x] := h0
    have h1 : [b] = [Value.int .i64 y] := h1
    have h2 : [c] = [Value.int .i64 z] := h2
    have h3 : [d] = [Value.int .i64 u] := h3
    have h4 : [e] = [Value.slice A n k] := h4
    cases h0; cases h1; cases h2; cases h3; cases h4
    obtain ⟨bs, l1, r1, w1⟩ := row_of_dec (enc' := encU8) (sz := 1) (by kernel_rfl) (fun cs h => dec_u8 h) rA
    exact ⟨⟨x, y, z, u, A, n, k, bs⟩, rfl, r1, l1, lA, w1⟩
theorem dec_cn {cs : List Value} (h : DecW Tryz.prog W 4 58 cs) : ∃ x : Cn, cs = encCn x ∧ True := by
  obtain ⟨hl, hf⟩ := h
  have hl : cs.length = 6 := hl
  match cs, hl, hf with
  | [a, b, c, d, e, f], _, hf =>
    obtain ⟨⟨x, h0, _⟩, ⟨y, h1, _⟩, ⟨z, h2, _⟩, ⟨u, h3, _⟩, ⟨v, h4, _⟩, ⟨w, h5, _⟩, _⟩ := hf
    have h0 : [a] = [Value.int .i64 x] := h0
    have h1 : [b] = [Value.int .i64 y] := h1
    have h2 : [c] = [Value.int .i64 z] := h2
    have h3 : [d] = [Value.int .i64 u] := h3
    have h4 : [e] = [Value.int .i64 v] := h4
    have h5 : [f] = [Value.int .i64 w] := h5
    cases h0; cases h1; cases h2; cases h3; cases h4; cases h5
    exact ⟨⟨x, y, z, u, v, w⟩, rfl, trivial⟩
theorem dec_cr {cs : List Value} (h : DecW Tryz.prog W 5 36 cs) : ∃ x : Cr, cs = encCr x ∧ CrOk W.heap x := by
  obtain ⟨A, n, k, h0, lA, mA, rA⟩ := h
  have h0 : cs = [Value.slice A n k] := h0
  obtain ⟨l, l1, r1, w1⟩ := row_of_dec (enc' := encCn) (sz := 6) (by kernel_rfl) (fun cs h => dec_cn h) rA
  exact ⟨⟨A, n, k, l⟩, h0, r1, l1⟩
theorem dec_rp {cs : List Value} (h : DecW Tryz.prog W 7 35 cs) : ∃ (r : Rp) (P : Int) (A : Option Addr) (na ca : Nat) (B : Option Addr) (nb cb : Nat) (s : Sz) (tries ring normal short : Int) (rules : List Ru) (vls : List Vl),
    cs = encRp r ∧ RpIn W.heap r ∧ r.kn ≤ maxLen ∧ r.plan = planV P (.slice A na ca) (.slice B nb cb) s tries ring normal short ∧ rules.length = na ∧ Row encRu 2 W.heap A rules ∧ vls.length = nb ∧ Row encVl 3 W.heap B vls ∧ (∀ v ∈ vls, SetWf v.mem ∧ SetWf v.unt) := by
  obtain ⟨hl, hf⟩ := h
  have hl : cs.length = 15 := hl
  match cs, hl, hf with
  | [a0, a1, a2, a3, a4, a5, a6, a7, a8, a9, b, c, d, e, f], _, hf =>
    obtain ⟨hp, ⟨A1, n1, k1, h1, l1, m1, r1⟩, ⟨A2, n2, k2, h2, l2, m2, r2⟩, ⟨A3, n3, k3, h3, l3, m3, r3⟩, ⟨A4, n4, k4, h4, l4, m4, r4⟩, ⟨A5, n5, k5, h5, l5, m5, r5⟩, _⟩ := hf
    have h1 : [b] = [Value.slice A1 n1 k1] := h1
    have h2 : [c] = [Value.slice A2 n2 k2] := h2
    have h3 : [d] = [Value.slice A3 n3 k3] := h3
    have h4 : [e] = [Value.slice A4 n4 k4] := h4
    have h5 : [f] = [Value.slice A5 n5 k5] := h5
    obtain ⟨P, A, na, ca, B, nb, cb, s, tries, ring, normal, short, rules, vls, hp, hla, hra, hlb, hrb, wf, _⟩ := dec_plan hp
    have hp : [a0, a1, a2, a3, a4, a5, a6, a7, a8, a9] = planV P (.slice A na ca) (.slice B nb cb) s tries ring normal short := hp
    obtain ⟨g1, q1, o1, w1⟩ := row_of_dec (enc' := encHe) (sz := 19) (by kernel_rfl) (fun cs h => dec_he h) r1
    obtain ⟨g2, q2, o2, w2⟩ := row_of_dec (enc' := encCm) (sz := 3) (by kernel_rfl) (fun cs h => dec_cm h) r2
    obtain ⟨g3, q3, o3, w3⟩ := row_of_dec (enc' := encDn) (sz := 7) (by kernel_rfl) (fun cs h => dec_dn h) r3
    obtain ⟨g4, q4, o4, w4⟩ := row_of_dec (enc' := encOt) (sz := 5) (by kernel_rfl) (fun cs h => dec_ot h) r4
    obtain ⟨g5, q5, o5, w5⟩ := row_of_dec (enc' := encCr) (sz := 1) (by kernel_rfl) (fun cs h => dec_cr h) r5
    have e0 : a0 = .int .i64 P := by injection hp
    cases h1; cases h2; cases h3; cases h4; cases h5
    subst e0
    exact ⟨⟨P, a1, a2, a3, a4, a5, a6, a7, a8, a9, A1, n1, k1, g1, A2, n2, k2, g2, A3, n3, k3, g3, A4, n4, k4, g4, A5, n5, k5, g5⟩, P, A, na, ca, B, nb, cb, s, tries, ring, normal, short, rules, vls, rfl,
      ⟨o1, q1, l1, w1, o2, q2, w2, o3, q3, o4, q4, w4, o5, q5, l5, w5⟩, Nat.le_trans l5 m5, hp, hla, hra, hlb, hrb, wf⟩
end
end Go.Proofs.YtcjoenkpibhmoaaGreatE
