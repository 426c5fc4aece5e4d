/- The arguments of the laws of layer 17, decoded. Conditions: none. -/
import Derived.Test.YtjjempefncgfhaaGreatDoorXDec10
import Derived.Test.YtjjempefncgfhaaGreatDoorXLaw
import Derived.Test.YtjjempefncgfhaaGreatDoorXN6
set_option linter.unusedVariables false
set_option linter.unusedSimpArgs false
set_option maxRecDepth 100000
namespace Go.Proofs.YtjjempefncgfhaaGreatDoorE
open Go Go.Proofs Go.ChangeShapes Go.WideShapes Go.ChangeAt Go.RowKit
section
variable {W : World}
theorem dec_op17 {cs : List Value} (h : DecW Tryz.prog W 4 56 cs) : ∃ o : Op17, cs = encO17 o ∧ o.Wf := by
  obtain ⟨hl, hf⟩ := h
  have hl : cs.length = 14 := hl
  match cs, hl, hf with
  | [a, b, c, d, e, f, g, i, j, k, l, m, n, o], _, hf =>
    obtain ⟨⟨kind, h0, _⟩, ⟨port, h1, _⟩, ⟨to, h2, _⟩, ⟨vid, h3, _⟩, ⟨state, h4, _⟩, ⟨_, ⟨kvid, h5, w5⟩, ⟨mac, h6, w6⟩, _⟩, ⟨mem, h7, w7⟩, ⟨unt, h8, w8⟩, ⟨now, h9, w9⟩, ⟨limit, h10, _⟩, ⟨shard, h11, _⟩, ⟨bucket, h12, _⟩, ⟨id, h13, _⟩, _⟩ := hf
    have h0 : [a] = [Value.int .i64 kind] := h0
    have h1 : [b] = [Value.int .i64 port] := h1
    have h2 : [c] = [Value.int .i64 to] := h2
    have h3 : [d] = [Value.int .i64 vid] := h3
    have h4 : [e] = [Value.int .i64 state] := h4
    have h5 : [f] = [Value.int .i64 kvid] := h5
    have h6 : [g] = [Value.int .u64 mac] := h6
    have h7 : [i] = [Value.int .u64 mem] := h7
    have h8 : [j] = [Value.int .u64 unt] := h8
    have h9 : [k] = [Value.int .u32 now] := h9
    have h10 : [l] = [Value.int .u32 limit] := h10
    have h11 : [m] = [Value.int .i64 shard] := h11
    have h12 : [n] = [Value.int .i64 bucket] := h12
    have h13 : [o] = [Value.int .i64 id] := h13
    cases h0; cases h1; cases h2; cases h3; cases h4; cases h5; cases h6; cases h7; cases h8; cases h9; cases h10; cases h11; cases h12; cases h13
    have w5 := wf_i64 w5
    have w6 := wf_u64 w6
    have w7 := wf_u64 w7
    have w8 := wf_u64 w8
    have w9 := wf_u32 w9
    exact ⟨⟨kind, port, to, vid, state, kvid, mac, mem, unt, now, limit, shard, bucket, id⟩, rfl, ⟨⟨w5.1, w5.2, w6.1, w6.2⟩, ⟨w7.1, w7.2⟩, ⟨w8.1, w8.2⟩, w9.1, w9.2⟩⟩
theorem dec_ru {cs : List Value} (h : DecW Tryz.prog W 4 117 cs) : ∃ r : Ru, cs = encRu r ∧ True := by
  obtain ⟨hl, hf⟩ := h
  have hl : cs.length = 2 := hl
  match cs, hl, hf with
  | [a, b], _, hf =>
    obtain ⟨⟨x, h0, _⟩, ⟨y, h1, _⟩, _⟩ := hf
    have h0 : [a] = [Value.int .i64 x] := h0
    have h1 : [b] = [Value.int .i64 y] := h1
    cases h0; cases h1
    exact ⟨⟨x, y⟩, rfl, trivial⟩
theorem dec_vl {cs : List Value} (h : DecW Tryz.prog W 4 120 cs) : ∃ v : Vl, cs = encVl v ∧ (SetWf v.mem ∧ SetWf v.unt) ∧ v.Wf := by
  obtain ⟨hl, hf⟩ := h
  have hl : cs.length = 3 := hl
  match cs, hl, hf with
  | [a, b, c], _, hf =>
    obtain ⟨⟨x, h0, w0⟩, ⟨y, h1, w1⟩, ⟨z, h2, w2⟩, _⟩ := hf
    have h0 : [a] = [Value.int .i64 x] := h0
    have h1 : [b] = [Value.int .u64 y] := h1
    have h2 : [c] = [Value.int .u64 z] := h2
    cases h0; cases h1; cases h2
    have w0 := wf_i64 w0
    have w1 := wf_u64 w1
    have w2 := wf_u64 w2
    exact ⟨⟨x, y, z⟩, rfl, ⟨⟨w1.1, w1.2⟩, ⟨w2.1, w2.2⟩⟩, w0.1, w0.2, ⟨w1.1, w1.2⟩, ⟨w2.1, w2.2⟩⟩
theorem dec_plan {cs : List Value} (h : DecW Tryz.prog W 6 28 cs) : ∃ (P : Int) (A : Option Addr) (na ca : Nat) (B : Option Addr) (nb cb : Nat) (s : Sz) (tries ring normal short : Int) (rules : List Ru) (vls : List Vl),
    cs = planV P (.slice A na ca) (.slice B nb cb) s tries ring normal short ∧ rules.length = na ∧ Row encRu 2 W.heap A rules ∧ vls.length = nb ∧ Row encVl 3 W.heap B vls ∧ (∀ v ∈ vls, SetWf v.mem ∧ SetWf v.unt) ∧ (∀ v ∈ vls, v.Wf) ∧ na ≤ ca ∧ ca ≤ maxLen ∧ nb ≤ cb ∧ cb ≤ maxLen := by
  obtain ⟨hl, hf⟩ := h
  have hl : cs.length = 10 := hl
  match cs, hl, hf with
  | [a, b, c, d, e, f, g, i, j, k], _, hf =>
    obtain ⟨⟨P, h0, _⟩, ⟨A, na, ca, h1, lA, mA, rA⟩, ⟨B, nb, cb, h2, lB, mB, rB⟩, ⟨_, ⟨x, h3, _⟩, ⟨y, h4, _⟩, ⟨z, h5, _⟩, _⟩, ⟨tries, h6, _⟩, ⟨ring, h7, _⟩, ⟨normal, h8, _⟩, ⟨short, h9, _⟩, _⟩ := hf
    have h0 : [a] = [Value.int .i64 P] := h0
    have h1 : [b] = [Value.slice A na ca] := h1
    have h2 : [c] = [Value.slice B nb cb] := h2
    have h3 : [d] = [Value.int .i64 x] := h3
    have h4 : [e] = [Value.int .i64 y] := h4
    have h5 : [f] = [Value.int .i64 z] := h5
    have h6 : [g] = [Value.int .i64 tries] := h6
    have h7 : [i] = [Value.int .i64 ring] := h7
    have h8 : [j] = [Value.int .u32 normal] := h8
    have h9 : [k] = [Value.int .u32 short] := h9
    cases h0; cases h1; cases h2; cases h3; cases h4; cases h5; cases h6; cases h7; cases h8; cases h9
    obtain ⟨rules, l1, r1, _⟩ := row_of_dec (enc' := encRu) (sz := 2) (by kernel_rfl) (fun cs h => dec_ru h) rA
    obtain ⟨vls, l2, r2, w2⟩ := row_of_dec (enc' := encVl) (sz := 3) (by kernel_rfl) (fun cs h => dec_vl h) rB
    exact ⟨P, A, na, ca, B, nb, cb, ⟨x, y, z⟩, tries, ring, normal, short, rules, vls, rfl, l1, r1, l2, r2, fun v hv => (w2 v hv).1, fun v hv => (w2 v hv).2, lA, mA, lB, mB⟩
theorem planV_len (P : Int) (r v : Value) (s : Sz) (tries ring normal short : Int) : (planV P r v s tries ring normal short).length ≠ 1 := by
  show (10 : Nat) ≠ 1; omega
end
end Go.Proofs.YtjjempefncgfhaaGreatDoorE
