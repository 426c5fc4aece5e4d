/- What the program's model answers. Conditions: the arguments are of their types. -/
import Derived.Test.YtjjempefncgfhaaGreatDoorXN1
import Derived.Test.YtjjempefncgfhaaGreatDoorXB1
set_option linter.unusedVariables false
set_option linter.unusedSimpArgs false
set_option maxRecDepth 100000
namespace Go.Proofs.YtjjempefncgfhaaGreatDoorE
open Go Go.Proofs
section
variable {base : Nat} {F : Nat → Prop} {h h1 h' : Heap} {m : Nat} {D : Dat} {p : Pl} {M M' : Md}
def entM (p : Pl) (M : Md) (o : Op17) : Md × Int :=
  if o.kind = 2 then ({ M with book := (learnB p.size M.book o.kvid o.mac o.port o.now).1 }, (learnB p.size M.book o.kvid o.mac o.port o.now).2)
  else if o.kind = 3 then (M, lookB p.size M.book o.kvid o.mac)
  else if o.kind = 4 then ({ M with book := (orderB p.size M.book o.kvid o.mac o.port o.now).1 }, (orderB p.size M.book o.kvid o.mac o.port o.now).2)
  else if o.kind = 6 then ({ M with book := (ageB p.size M.book o.shard o.bucket o.now o.limit).1 }, (ageB p.size M.book o.shard o.bucket o.now o.limit).2)
  else if o.kind = 7 then ({ M with book := (flushB M.book o.port o.vid).1 }, (flushB M.book o.port o.vid).2)
  else ({ M with book := (dropB p.size M.book o.kvid o.mac).1 }, if (dropB p.size M.book o.kvid o.mac).2 = true then 1 else 0)
end
end Go.Proofs.YtjjempefncgfhaaGreatDoorE
