/- What the laws BookKnows and BookApart answer: yes. Conditions: the arguments are of their types. -/
import Derived.Test.YtgiofdiifkahoaaGreatXB6
import Derived.Test.YtgiofdiifkahoaaGreatXM12
set_option linter.unusedVariables false
set_option linter.unusedSimpArgs false
set_option maxRecDepth 100000
namespace Go.Proofs.YtgiofdiifkahoaaGreatE
open Go Go.Proofs
section
variable {h : Heap}
theorem at_ix {s : Sz} (o : s.Ok) {i : Int} (h0 : 0 ≤ i) (h1 : i < s.sh * s.bk) : atM s (i / s.bk) (i % s.bk) = i := by
  have hb : 0 < s.bk := o.bk1
  have e := Int.mul_ediv_add_emod i s.bk
  have m0 := Int.emod_nonneg i (show s.bk ≠ 0 by omega)
  have m1 := Int.emod_lt_of_pos i hb
  have d0 := Int.ediv_nonneg h0 (show 0 ≤ s.bk by omega)
  have d1 : i / s.bk < s.sh := Int.ediv_lt_of_lt_mul hb h1
  rw [atM, if_neg (by omega), Int.mul_comm]
  exact e
theorem quo_ix {i k : Int} (h0 : 0 ≤ i) (h1 : i ≤ 1000) (hk : 1 ≤ k) : IntKind.i64.wrap (i.tdiv k) = i / k := by
  have := Int.ediv_le_self k h0
  have := Int.ediv_nonneg h0 (show 0 ≤ k by omega)
  rw [Int.tdiv_eq_ediv_of_nonneg h0, wrap_i64 (by omega) (by omega)]
end
end Go.Proofs.YtgiofdiifkahoaaGreatE
