/- The arguments of the laws of layer 18, decoded. Conditions: none. -/
import Derived.Test.YtcjoenkpibhmoaaGreatXDec17
import Derived.Test.YtcjoenkpibhmoaaGreatXH3
set_option linter.unusedVariables false
set_option linter.unusedSimpArgs false
set_option maxRecDepth 100000
namespace Go.Proofs.YtcjoenkpibhmoaaGreatE
open Go Go.Proofs Go.ChangeShapes Go.WideShapes Go.ChangeAt Go.RowKit
section
variable {W : World}
theorem dec_he {cs : List Value} (h : DecW Tryz.prog W 5 107 cs) : ∃ e : He, cs = encHe e ∧ e.op.Wf := by
  obtain ⟨hl, hf⟩ := h
  have hl : cs.length = 19 := hl
  match cs, hl, hf with
  | [a, b, c, d, e, f, g, i, j, k, l, m, n, o, p, q, r, s, t], _, hf =>
    obtain ⟨⟨who, h0, _⟩, ⟨beg, h1, _⟩, ⟨mark, h2, _⟩, ⟨fin, h3, _⟩, hop, ⟨ans, h5, _⟩, _⟩ := hf
    have h0 : [a] = [Value.int .i64 who] := h0
    have h1 : [b] = [Value.int .i64 beg] := h1
    have h2 : [c] = [Value.int .i64 mark] := h2
    have h3 : [d] = [Value.int .i64 fin] := h3
    have h5 : [t] = [Value.int .i64 ans] := h5
    obtain ⟨x, hx, wx⟩ := dec_op17 hop
    have hx : [e, f, g, i, j, k, l, m, n, o, p, q, r, s] = encO17 x := hx
    cases h0; cases h1; cases h2; cases h3; cases h5; cases hx
    exact ⟨⟨who, beg, mark, fin, x, ans⟩, rfl, wx⟩
end
end Go.Proofs.YtcjoenkpibhmoaaGreatE
