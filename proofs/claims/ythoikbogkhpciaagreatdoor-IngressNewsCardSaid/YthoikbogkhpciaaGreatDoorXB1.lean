/- What the program's book answers: where a bucket is, who is known, what is learned, ordered, dropped. Conditions: the arguments are of their types. -/
import Derived.Test.YthoikbogkhpciaaGreatDoorXBk
set_option linter.unusedVariables false
set_option linter.unusedSimpArgs false
set_option maxRecDepth 100000
namespace Go.Proofs.YthoikbogkhpciaaGreatDoorE
open Go Go.Proofs
section
variable {base b tb : Nat} {s : Sz} {L : List (List Place)} {h : Heap}
theorem cell_ix {h : Heap} {t k : Nat} {v : Value} (H : cell h ⟨t, k, none⟩ = some v) : cell h ((⟨t, 0, none⟩ : Addr).add ((k : Int).toNat * 1)) = some v := by rw [add_lit]; simpa using H
theorem canset_ix {h : Heap} {t k n : Nat} (H : CanSet h ⟨t, k, none⟩ n) : CanSet h ((⟨t, 0, none⟩ : Addr).add ((k : Int).toNat * 1)) n := by rw [add_lit]; simpa using H
theorem stored_ix {h h' : Heap} {t k : Nat} {vs : List Value} (s : Stored h ((⟨t, 0, none⟩ : Addr).add ((k : Int).toNat * 1)) vs h') : Stored h ⟨t, k, none⟩ vs h' := by rw [add_lit] at s; simpa using s
theorem sl_small (o : s.Ok) {l : List Place} (h : (l.length : Int) = s.sl) : l.length ≤ 8 := by have := o.sl2; omega
end
end Go.Proofs.YthoikbogkhpciaaGreatDoorE
