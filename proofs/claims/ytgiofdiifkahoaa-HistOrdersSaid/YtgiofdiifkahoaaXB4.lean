/- What the document's book answers. Conditions: the arguments are of their types. -/
import Derived.Test.YtgiofdiifkahoaaXB2
set_option linter.unusedVariables false
set_option linter.unusedSimpArgs false
set_option maxRecDepth 100000
namespace Go.Proofs.YtgiofdiifkahoaaE
open Go Go.Proofs
section
variable {base b tb : Nat} {s : Sz} {L : List (List Place)} {h : Heap}
theorem ix_wrap (o : s.Ok) (vid mac : Int) : IntKind.i64.wrap (IntKind.i64.wrap ((placeM vid mac s.sh s.bk).1 * s.bk) + (placeM vid mac s.sh s.bk).2) = ixM s vid mac := by
  have p := placeM_range (vid := vid) (mac := mac) o.sh1 o.bk1
  have m := mul_in p.1 p.2.1 p.2.2.1 p.2.2.2
  have mm := o.many
  have : 0 ≤ (placeM vid mac s.sh s.bk).1 * s.bk := Int.mul_nonneg p.1 (by omega)
  rw [wrap_i64 (x := (placeM vid mac s.sh s.bk).1 * s.bk) (by omega) (by omega), wrap_i64 (by omega) (by omega)]; rfl
end
end Go.Proofs.YtgiofdiifkahoaaE
