/- The arguments of the laws of layer 11, decoded. Conditions: none. -/
import Derived.Test.YtkppagdjakllpaaXDec10
import Derived.Test.YtkppagdjakllpaaXM11
set_option linter.unusedVariables false
set_option linter.unusedSimpArgs false
set_option maxRecDepth 100000
namespace Go.Proofs.YtkppagdjakllpaaE
open Go Go.Proofs Go.ChangeShapes Go.WideShapes Go.ChangeAt Go.RowKit
theorem dec_op {cs : List Value} (h : Dec Try.prog 4 82 cs) : ∃ x : OpR, cs = encO7 x ∧ x.Wf := by
  obtain ⟨hl, hf⟩ := h
  have hl : cs.length = 7 := hl
  match cs, hl, hf with
  | [a, b, c, d, e, f, g], _, hf =>
    obtain ⟨⟨kind, h0, _⟩, ⟨_, ⟨vid, h1, w1⟩, ⟨mac, h2, w2⟩, _⟩, ⟨port, h3, _⟩, ⟨vlan, h4, _⟩, ⟨now, h5, w5⟩, ⟨old, h6, _⟩, _⟩ := hf
    have h0 : [a] = [Value.int .i64 kind] := h0
    have h1 : [b] = [Value.int .i64 vid] := h1
    have h2 : [c] = [Value.int .u64 mac] := h2
    have h3 : [d] = [Value.int .i64 port] := h3
    have h4 : [e] = [Value.int .i64 vlan] := h4
    have h5 : [f] = [Value.int .u32 now] := h5
    have h6 : [g] = [Value.int .u32 old] := h6
    cases h0; cases h1; cases h2; cases h3; cases h4; cases h5; cases h6
    have w1 := wf_i64 w1
    have w2 := wf_u64 w2
    have w5 := wf_u32 w5
    exact ⟨⟨kind, vid, mac, port, vlan, now, old⟩, rfl, ⟨⟨w1.1, w1.2, w2.1, w2.2⟩, w5.1, w5.2⟩⟩
theorem dec_size {cs : List Value} (h : Dec Try.prog 4 79 cs) : ∃ s : Sz, cs = [.int .i64 s.sh, .int .i64 s.bk, .int .i64 s.sl] := by
  obtain ⟨hl, hf⟩ := h
  have hl : cs.length = 3 := hl
  match cs, hl, hf with
  | [a, b, c], _, hf =>
    obtain ⟨⟨x, h0, _⟩, ⟨y, h1, _⟩, ⟨z, h2, _⟩, _⟩ := hf
    have h0 : [a] = [Value.int .i64 x] := h0
    have h1 : [b] = [Value.int .i64 y] := h1
    have h2 : [c] = [Value.int .i64 z] := h2
    cases h0; cases h1; cases h2
    exact ⟨⟨x, y, z⟩, rfl⟩
theorem opBytes : Try.prog.bytesOf 82 = 48 := by kernel_rfl
end Go.Proofs.YtkppagdjakllpaaE
