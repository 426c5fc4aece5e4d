/- The arguments of the laws of layer 10, decoded. Conditions: none. -/
import Derived.Test.YtjjempefncgfhaaGreatDoorXLaw
import Derived.Test.YtjjempefncgfhaaGreatDoorXA4
set_option linter.unusedVariables false
set_option linter.unusedSimpArgs false
set_option maxRecDepth 100000
namespace Go.Proofs.YtjjempefncgfhaaGreatDoorE
open Go Go.Proofs Go.ChangeShapes Go.WideShapes Go.ChangeAt Go.RowKit
theorem wf_i64 {n : Int} (h : (Lit.int .i64 n).wf = true) : -9223372036854775808 ≤ n ∧ n ≤ 9223372036854775807 := by simpa [Lit.wf, IntKind.min, IntKind.max, IntKind.signed, IntKind.bits] using h
theorem wf_u64 {n : Int} (h : (Lit.int .u64 n).wf = true) : 0 ≤ n ∧ n < 18446744073709551616 := by
  have : 0 ≤ n ∧ n ≤ 18446744073709551615 := by simpa [Lit.wf, IntKind.min, IntKind.max, IntKind.signed, IntKind.bits] using h
  omega
theorem wf_u32 {n : Int} (h : (Lit.int .u32 n).wf = true) : 0 ≤ n ∧ n < 4294967296 := by
  have : 0 ≤ n ∧ n ≤ 4294967295 := by simpa [Lit.wf, IntKind.min, IntKind.max, IntKind.signed, IntKind.bits] using h
  omega
theorem dec_place {cs : List Value} (h : Dec Tryz.prog 4 242 cs) : ∃ p : Place, cs = encP p ∧ p.Wf := by
  obtain ⟨hl, hf⟩ := h
  have hl : cs.length = 6 := hl
  match cs, hl, hf with
  | [a, b, c, d, e, f], _, hf =>
    obtain ⟨⟨u, h0⟩, ⟨_, ⟨_, ⟨vid, h1, w1⟩, ⟨mac, h2, w2⟩, _⟩, ⟨port, h3, w3⟩, ⟨st, h4⟩, ⟨stamp, h5, w5⟩, _⟩, _⟩ := hf
    have h0 : [a] = [Value.bool u] := h0
    have h1 : [b] = [Value.int .i64 vid] := h1
    have h2 : [c] = [Value.int .u64 mac] := h2
    have h3 : [d] = [Value.int .i64 port] := h3
    have h4 : [e] = [Value.bool st] := h4
    have h5 : [f] = [Value.int .u32 stamp] := h5
    cases h0; cases h1; cases h2; cases h3; cases h4; cases h5
    have w1 := wf_i64 w1
    have w2 := wf_u64 w2
    have w3 := wf_i64 w3
    have w5 := wf_u32 w5
    exact ⟨⟨u, vid, mac, port, st, stamp⟩, rfl, ⟨⟨w1.1, w1.2, w2.1, w2.2⟩, w3.1, w3.2, w5.1, w5.2⟩⟩
theorem dec_filt {cs : List Value} (h : Dec Tryz.prog 4 235 cs) : ∃ port vid : Int, cs = [.int .i64 port, .int .i64 vid] := by
  obtain ⟨hl, hf⟩ := h
  have hl : cs.length = 2 := hl
  match cs, hl, hf with
  | [a, b], _, hf =>
    obtain ⟨⟨port, h1, _⟩, ⟨vid, h2, _⟩, _⟩ := hf
    have h1 : [a] = [Value.int .i64 port] := h1
    have h2 : [b] = [Value.int .i64 vid] := h2
    cases h1; cases h2
    exact ⟨port, vid, rfl⟩
theorem own : ownKnob Tryz.prog.godebug = none := by kernel_rfl
theorem laidOut : laidOutB Tryz.prog = true := by kernel_rfl
theorem placeBytes : Tryz.prog.bytesOf 242 = 40 := by kernel_rfl
end Go.Proofs.YtjjempefncgfhaaGreatDoorE
