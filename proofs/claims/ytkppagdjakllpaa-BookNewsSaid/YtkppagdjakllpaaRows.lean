/-
  No cell of these rows narrows 'for every input' (looked for: loops, veiled, ifaces, maps, wideKeys, modest, calm, conditions, laid).
  DERIVED. THE GIVEN ROWS OF THIS SEAT. 11 by the template 'for every input the law returns true; each argument reads behind the call as it read before'; 0 by the template 'total and deterministic' (their statements: YtkppagdjakllpaaTotals.lean).
  GIVEN WITH THE SEED: the statements are not yours to turn. If you find one false, say at which input.
  Laid BY PROGRAM, IN A SANDBOX (cutbox-rows.mjs): the forced cells as the released guide's own fill.sh prints them over the translation 5c1fd4500f3c66af… (all of the seat's roots in one cut). By AI agents, Wed Nov 11 2026. No macro, syntax, notation, axiom, sorry.
-/
import Derived.Test.YtkppagdjakllpaaChecked
import GoSem.Claim
import GoSem.ClaimJoined
import GoSem.ClaimMapViews
import Derived.JoinedTies
import Derived.KernelRfl
namespace Go.Proofs.Ytkppagdjakllpaa
/- THE CELL 'sum', in the pinned program and in every row, IS THE sha256 OF THE DUMP (.gsa) THAT YtkppagdjakllpaaProg.lean LOADS. Nothing in Lean hashes anything: it is a label: what it is worth is what the hold of that sum in a sandbox is worth. -/
noncomputable def Try.pinned : Pinned := { name := "ytkppagdjakllpaa", sum := "5c1fd4500f3c66afd11d8e90f3ddd55048a6a573eb8744437757f1eaab58e81e", checked := Try.checked }
namespace Rows
def none {H : Type} : Left H := { results := [], args := [] }

/-- 'patchbaylaw10.BucketLearns': WHATEVER THE INPUT: true; the input reads as it did. -/
def bucketLearnsSpec : ChangeSpec := { name := "bucketLearns", fn := fun _ => fun
  | [d1, d2] => { results := [.lit (.bool true)], args := [d1, d2] }
  | _ => none }
def bucketLearnsRow : OpenClaim := { program := "ytkppagdjakllpaa", sum := "5c1fd4500f3c66afd11d8e90f3ddd55048a6a573eb8744437757f1eaab58e81e", func := "patchbay/patchbaylaw10.BucketLearns", spec := "bucketLearns", plainKeys := false, apart := false }
def BucketLearnsSaid : Prop := bucketLearnsRow.holds Try.pinned (OpenSpec.ofChange bucketLearnsSpec)

/-- ITS FALSE NEIGHBOUR: 'it returns false'. Refute it at one input. -/
def bucketLearnsWrong : ChangeSpec := { name := "bucketLearns", fn := fun _ => fun
  | [d1, d2] => { results := [.lit (.bool false)], args := [d1, d2] }
  | _ => none }
def BucketLearnsWrongFalsely : Prop := bucketLearnsRow.holds Try.pinned (OpenSpec.ofChange bucketLearnsWrong)

/-- 'patchbaylaw10.BucketEvicts': WHATEVER THE INPUT: true; the input reads as it did. -/
def bucketEvictsSpec : ChangeSpec := { name := "bucketEvicts", fn := fun _ => fun
  | [d1, d2, d3] => { results := [.lit (.bool true)], args := [d1, d2, d3] }
  | _ => none }
def bucketEvictsRow : OpenClaim := { program := "ytkppagdjakllpaa", sum := "5c1fd4500f3c66afd11d8e90f3ddd55048a6a573eb8744437757f1eaab58e81e", func := "patchbay/patchbaylaw10.BucketEvicts", spec := "bucketEvicts", plainKeys := false, apart := false }
def BucketEvictsSaid : Prop := bucketEvictsRow.holds Try.pinned (OpenSpec.ofChange bucketEvictsSpec)

/-- ITS FALSE NEIGHBOUR: 'it returns false'. Refute it at one input. -/
def bucketEvictsWrong : ChangeSpec := { name := "bucketEvicts", fn := fun _ => fun
  | [d1, d2, d3] => { results := [.lit (.bool false)], args := [d1, d2, d3] }
  | _ => none }
def BucketEvictsWrongFalsely : Prop := bucketEvictsRow.holds Try.pinned (OpenSpec.ofChange bucketEvictsWrong)

/-- 'patchbaylaw10.BucketAges': WHATEVER THE INPUT: true; the input reads as it did. -/
def bucketAgesSpec : ChangeSpec := { name := "bucketAges", fn := fun _ => fun
  | [d1, d2, d3] => { results := [.lit (.bool true)], args := [d1, d2, d3] }
  | _ => none }
def bucketAgesRow : OpenClaim := { program := "ytkppagdjakllpaa", sum := "5c1fd4500f3c66afd11d8e90f3ddd55048a6a573eb8744437757f1eaab58e81e", func := "patchbay/patchbaylaw10.BucketAges", spec := "bucketAges", unfollowed := true, recurses := true, plainKeys := false, apart := false }
def BucketAgesSaid : Prop := bucketAgesRow.holds Try.pinned (OpenSpec.ofChange bucketAgesSpec)

/-- ITS FALSE NEIGHBOUR: 'it returns false'. Refute it at one input. -/
def bucketAgesWrong : ChangeSpec := { name := "bucketAges", fn := fun _ => fun
  | [d1, d2, d3] => { results := [.lit (.bool false)], args := [d1, d2, d3] }
  | _ => none }
def BucketAgesWrongFalsely : Prop := bucketAgesRow.holds Try.pinned (OpenSpec.ofChange bucketAgesWrong)

/-- 'patchbaylaw10.BucketKeeps': WHATEVER THE INPUT: true; the input reads as it did. -/
def bucketKeepsSpec : ChangeSpec := { name := "bucketKeeps", fn := fun _ => fun
  | [d1, d2, d3] => { results := [.lit (.bool true)], args := [d1, d2, d3] }
  | _ => none }
def bucketKeepsRow : OpenClaim := { program := "ytkppagdjakllpaa", sum := "5c1fd4500f3c66afd11d8e90f3ddd55048a6a573eb8744437757f1eaab58e81e", func := "patchbay/patchbaylaw10.BucketKeeps", spec := "bucketKeeps", unfollowed := true, recurses := true, plainKeys := false, apart := false }
def BucketKeepsSaid : Prop := bucketKeepsRow.holds Try.pinned (OpenSpec.ofChange bucketKeepsSpec)

/-- ITS FALSE NEIGHBOUR: 'it returns false'. Refute it at one input. -/
def bucketKeepsWrong : ChangeSpec := { name := "bucketKeeps", fn := fun _ => fun
  | [d1, d2, d3] => { results := [.lit (.bool false)], args := [d1, d2, d3] }
  | _ => none }
def BucketKeepsWrongFalsely : Prop := bucketKeepsRow.holds Try.pinned (OpenSpec.ofChange bucketKeepsWrong)

/-- 'patchbaylaw10.BucketOrders': WHATEVER THE INPUT: true; the input reads as it did. -/
def bucketOrdersSpec : ChangeSpec := { name := "bucketOrders", fn := fun _ => fun
  | [d1, d2] => { results := [.lit (.bool true)], args := [d1, d2] }
  | _ => none }
def bucketOrdersRow : OpenClaim := { program := "ytkppagdjakllpaa", sum := "5c1fd4500f3c66afd11d8e90f3ddd55048a6a573eb8744437757f1eaab58e81e", func := "patchbay/patchbaylaw10.BucketOrders", spec := "bucketOrders", plainKeys := false, apart := false }
def BucketOrdersSaid : Prop := bucketOrdersRow.holds Try.pinned (OpenSpec.ofChange bucketOrdersSpec)

/-- ITS FALSE NEIGHBOUR: 'it returns false'. Refute it at one input. -/
def bucketOrdersWrong : ChangeSpec := { name := "bucketOrders", fn := fun _ => fun
  | [d1, d2] => { results := [.lit (.bool false)], args := [d1, d2] }
  | _ => none }
def BucketOrdersWrongFalsely : Prop := bucketOrdersRow.holds Try.pinned (OpenSpec.ofChange bucketOrdersWrong)

/-- 'patchbaylaw10.BucketOnce': WHATEVER THE INPUT: true; the input reads as it did. -/
def bucketOnceSpec : ChangeSpec := { name := "bucketOnce", fn := fun _ => fun
  | [d1, d2] => { results := [.lit (.bool true)], args := [d1, d2] }
  | _ => none }
def bucketOnceRow : OpenClaim := { program := "ytkppagdjakllpaa", sum := "5c1fd4500f3c66afd11d8e90f3ddd55048a6a573eb8744437757f1eaab58e81e", func := "patchbay/patchbaylaw10.BucketOnce", spec := "bucketOnce", plainKeys := false, apart := false }
def BucketOnceSaid : Prop := bucketOnceRow.holds Try.pinned (OpenSpec.ofChange bucketOnceSpec)

/-- ITS FALSE NEIGHBOUR: 'it returns false'. Refute it at one input. -/
def bucketOnceWrong : ChangeSpec := { name := "bucketOnce", fn := fun _ => fun
  | [d1, d2] => { results := [.lit (.bool false)], args := [d1, d2] }
  | _ => none }
def BucketOnceWrongFalsely : Prop := bucketOnceRow.holds Try.pinned (OpenSpec.ofChange bucketOnceWrong)

/-- 'patchbaylaw11.BookKnows': WHATEVER THE INPUT: true; the input reads as it did. -/
def bookKnowsSpec : ChangeSpec := { name := "bookKnows", fn := fun _ => fun
  | [d1, d2, d3] => { results := [.lit (.bool true)], args := [d1, d2, d3] }
  | _ => none }
def bookKnowsRow : OpenClaim := { program := "ytkppagdjakllpaa", sum := "5c1fd4500f3c66afd11d8e90f3ddd55048a6a573eb8744437757f1eaab58e81e", func := "patchbay/patchbaylaw11.BookKnows", spec := "bookKnows", unfollowed := true, recurses := true, plainKeys := false, apart := false }
def BookKnowsSaid : Prop := bookKnowsRow.holds Try.pinned (OpenSpec.ofChange bookKnowsSpec)

/-- ITS FALSE NEIGHBOUR: 'it returns false'. Refute it at one input. -/
def bookKnowsWrong : ChangeSpec := { name := "bookKnows", fn := fun _ => fun
  | [d1, d2, d3] => { results := [.lit (.bool false)], args := [d1, d2, d3] }
  | _ => none }
def BookKnowsWrongFalsely : Prop := bookKnowsRow.holds Try.pinned (OpenSpec.ofChange bookKnowsWrong)

/-- 'patchbaylaw11.BookCopies': WHATEVER THE INPUT: true; the input reads as it did. -/
def bookCopiesSpec : ChangeSpec := { name := "bookCopies", fn := fun _ => fun
  | [d1, d2, d3] => { results := [.lit (.bool true)], args := [d1, d2, d3] }
  | _ => none }
def bookCopiesRow : OpenClaim := { program := "ytkppagdjakllpaa", sum := "5c1fd4500f3c66afd11d8e90f3ddd55048a6a573eb8744437757f1eaab58e81e", func := "patchbay/patchbaylaw11.BookCopies", spec := "bookCopies", unfollowed := true, recurses := true, plainKeys := false, apart := false }
def BookCopiesSaid : Prop := bookCopiesRow.holds Try.pinned (OpenSpec.ofChange bookCopiesSpec)

/-- ITS FALSE NEIGHBOUR: 'it returns false'. Refute it at one input. -/
def bookCopiesWrong : ChangeSpec := { name := "bookCopies", fn := fun _ => fun
  | [d1, d2, d3] => { results := [.lit (.bool false)], args := [d1, d2, d3] }
  | _ => none }
def BookCopiesWrongFalsely : Prop := bookCopiesRow.holds Try.pinned (OpenSpec.ofChange bookCopiesWrong)

/-- 'patchbaylaw11.BookActs': WHATEVER THE INPUT: true; the input reads as it did. -/
def bookActsSpec : ChangeSpec := { name := "bookActs", fn := fun _ => fun
  | [d1, d2] => { results := [.lit (.bool true)], args := [d1, d2] }
  | _ => none }
def bookActsRow : OpenClaim := { program := "ytkppagdjakllpaa", sum := "5c1fd4500f3c66afd11d8e90f3ddd55048a6a573eb8744437757f1eaab58e81e", func := "patchbay/patchbaylaw11.BookActs", spec := "bookActs", unfollowed := true, recurses := true, plainKeys := false, apart := false }
def BookActsSaid : Prop := bookActsRow.holds Try.pinned (OpenSpec.ofChange bookActsSpec)

/-- ITS FALSE NEIGHBOUR: 'it returns false'. Refute it at one input. -/
def bookActsWrong : ChangeSpec := { name := "bookActs", fn := fun _ => fun
  | [d1, d2] => { results := [.lit (.bool false)], args := [d1, d2] }
  | _ => none }
def BookActsWrongFalsely : Prop := bookActsRow.holds Try.pinned (OpenSpec.ofChange bookActsWrong)

/-- 'patchbaylaw11.BookApart': WHATEVER THE INPUT: true; the input reads as it did. -/
def bookApartSpec : ChangeSpec := { name := "bookApart", fn := fun _ => fun
  | [d1, d2, d3] => { results := [.lit (.bool true)], args := [d1, d2, d3] }
  | _ => none }
def bookApartRow : OpenClaim := { program := "ytkppagdjakllpaa", sum := "5c1fd4500f3c66afd11d8e90f3ddd55048a6a573eb8744437757f1eaab58e81e", func := "patchbay/patchbaylaw11.BookApart", spec := "bookApart", unfollowed := true, recurses := true, plainKeys := false, apart := false }
def BookApartSaid : Prop := bookApartRow.holds Try.pinned (OpenSpec.ofChange bookApartSpec)

/-- ITS FALSE NEIGHBOUR: 'it returns false'. Refute it at one input. -/
def bookApartWrong : ChangeSpec := { name := "bookApart", fn := fun _ => fun
  | [d1, d2, d3] => { results := [.lit (.bool false)], args := [d1, d2, d3] }
  | _ => none }
def BookApartWrongFalsely : Prop := bookApartRow.holds Try.pinned (OpenSpec.ofChange bookApartWrong)

/-- 'patchbaylaw11.BookNews': WHATEVER THE INPUT: true; the input reads as it did. -/
def bookNewsSpec : ChangeSpec := { name := "bookNews", fn := fun _ => fun
  | [d1, d2] => { results := [.lit (.bool true)], args := [d1, d2] }
  | _ => none }
def bookNewsRow : OpenClaim := { program := "ytkppagdjakllpaa", sum := "5c1fd4500f3c66afd11d8e90f3ddd55048a6a573eb8744437757f1eaab58e81e", func := "patchbay/patchbaylaw11.BookNews", spec := "bookNews", unfollowed := true, recurses := true, plainKeys := false, apart := false }
def BookNewsSaid : Prop := bookNewsRow.holds Try.pinned (OpenSpec.ofChange bookNewsSpec)

/-- ITS FALSE NEIGHBOUR: 'it returns false'. Refute it at one input. -/
def bookNewsWrong : ChangeSpec := { name := "bookNews", fn := fun _ => fun
  | [d1, d2] => { results := [.lit (.bool false)], args := [d1, d2] }
  | _ => none }
def BookNewsWrongFalsely : Prop := bookNewsRow.holds Try.pinned (OpenSpec.ofChange bookNewsWrong)

/- THE SECOND FORM. 'bulk': how many values and letters a reading holds, each counted each time it is reached (what is shared counts as often as it is met; a slice's spare places count too). A statement '..UptoSaid' is the law's where the arguments, and the package variables that the reading takes, are together of bulk at most 1048576: NARROWER than '..Said'. Prove '..Said' where nothing that the law and all that it calls make is longer than what came in: it says more and counts as full. Else prove '..UptoSaid'. A law counts once. -/
mutual
def uptoBulk {H : Type} : DataW H → Nat
  | .lit (.string bytes) => bytes.length + 1
  | .lit _ => 1
  | .nil => 1
  | .ptr d => uptoBulk d + 1
  | .slice elems spare => uptoBulkAll elems + uptoBulkAll spare + 1
  | .agg parts => uptoBulkAll parts + 1
  | .iface _ d => uptoBulk d + 1
  | .map entries => uptoBulkEntries entries + 1
  | .held _ => 1
def uptoBulkAll {H : Type} : List (DataW H) → Nat
  | [] => 0
  | d :: r => uptoBulk d + uptoBulkAll r
def uptoBulkEntries {H : Type} : List (Lit × DataW H) → Nat
  | [] => 0
  | x :: r => uptoBulkEntry x + uptoBulkEntries r
def uptoBulkEntry {H : Type} : Lit × DataW H → Nat
  | (.string bytes, d) => bytes.length + uptoBulk d + 1
  | (_, d) => uptoBulk d + 1
 end
def uptoSmall : (H : Type) → List (DataW H) → Bool := fun _ ds => decide (uptoBulkAll ds ≤ 1048576)
def OpenSpec.upto (s : _root_.Go.ChangeSpec) : _root_.Go.OpenSpec := { _root_.Go.OpenSpec.ofChange s with cond := some uptoSmall }

/-- 'patchbaylaw10.BucketLearns', WHERE WHAT IT READS IS OF BULK AT MOST 1048576: true; the input reads as it did. -/
def bucketLearnsUptoRow : OpenClaim := { program := "ytkppagdjakllpaa", sum := "5c1fd4500f3c66afd11d8e90f3ddd55048a6a573eb8744437757f1eaab58e81e", func := "patchbay/patchbaylaw10.BucketLearns", spec := "bucketLearns", plainKeys := false, apart := false, narrowed := true }
def BucketLearnsUptoSaid : Prop := bucketLearnsUptoRow.holds Try.pinned (OpenSpec.upto bucketLearnsSpec)

/-- 'patchbaylaw10.BucketEvicts', WHERE WHAT IT READS IS OF BULK AT MOST 1048576: true; the input reads as it did. -/
def bucketEvictsUptoRow : OpenClaim := { program := "ytkppagdjakllpaa", sum := "5c1fd4500f3c66afd11d8e90f3ddd55048a6a573eb8744437757f1eaab58e81e", func := "patchbay/patchbaylaw10.BucketEvicts", spec := "bucketEvicts", plainKeys := false, apart := false, narrowed := true }
def BucketEvictsUptoSaid : Prop := bucketEvictsUptoRow.holds Try.pinned (OpenSpec.upto bucketEvictsSpec)

/-- 'patchbaylaw10.BucketAges', WHERE WHAT IT READS IS OF BULK AT MOST 1048576: true; the input reads as it did. -/
def bucketAgesUptoRow : OpenClaim := { program := "ytkppagdjakllpaa", sum := "5c1fd4500f3c66afd11d8e90f3ddd55048a6a573eb8744437757f1eaab58e81e", func := "patchbay/patchbaylaw10.BucketAges", spec := "bucketAges", unfollowed := true, recurses := true, plainKeys := false, apart := false, narrowed := true }
def BucketAgesUptoSaid : Prop := bucketAgesUptoRow.holds Try.pinned (OpenSpec.upto bucketAgesSpec)

/-- 'patchbaylaw10.BucketKeeps', WHERE WHAT IT READS IS OF BULK AT MOST 1048576: true; the input reads as it did. -/
def bucketKeepsUptoRow : OpenClaim := { program := "ytkppagdjakllpaa", sum := "5c1fd4500f3c66afd11d8e90f3ddd55048a6a573eb8744437757f1eaab58e81e", func := "patchbay/patchbaylaw10.BucketKeeps", spec := "bucketKeeps", unfollowed := true, recurses := true, plainKeys := false, apart := false, narrowed := true }
def BucketKeepsUptoSaid : Prop := bucketKeepsUptoRow.holds Try.pinned (OpenSpec.upto bucketKeepsSpec)

/-- 'patchbaylaw10.BucketOrders', WHERE WHAT IT READS IS OF BULK AT MOST 1048576: true; the input reads as it did. -/
def bucketOrdersUptoRow : OpenClaim := { program := "ytkppagdjakllpaa", sum := "5c1fd4500f3c66afd11d8e90f3ddd55048a6a573eb8744437757f1eaab58e81e", func := "patchbay/patchbaylaw10.BucketOrders", spec := "bucketOrders", plainKeys := false, apart := false, narrowed := true }
def BucketOrdersUptoSaid : Prop := bucketOrdersUptoRow.holds Try.pinned (OpenSpec.upto bucketOrdersSpec)

/-- 'patchbaylaw10.BucketOnce', WHERE WHAT IT READS IS OF BULK AT MOST 1048576: true; the input reads as it did. -/
def bucketOnceUptoRow : OpenClaim := { program := "ytkppagdjakllpaa", sum := "5c1fd4500f3c66afd11d8e90f3ddd55048a6a573eb8744437757f1eaab58e81e", func := "patchbay/patchbaylaw10.BucketOnce", spec := "bucketOnce", plainKeys := false, apart := false, narrowed := true }
def BucketOnceUptoSaid : Prop := bucketOnceUptoRow.holds Try.pinned (OpenSpec.upto bucketOnceSpec)

/-- 'patchbaylaw11.BookKnows', WHERE WHAT IT READS IS OF BULK AT MOST 1048576: true; the input reads as it did. -/
def bookKnowsUptoRow : OpenClaim := { program := "ytkppagdjakllpaa", sum := "5c1fd4500f3c66afd11d8e90f3ddd55048a6a573eb8744437757f1eaab58e81e", func := "patchbay/patchbaylaw11.BookKnows", spec := "bookKnows", unfollowed := true, recurses := true, plainKeys := false, apart := false, narrowed := true }
def BookKnowsUptoSaid : Prop := bookKnowsUptoRow.holds Try.pinned (OpenSpec.upto bookKnowsSpec)

/-- 'patchbaylaw11.BookCopies', WHERE WHAT IT READS IS OF BULK AT MOST 1048576: true; the input reads as it did. -/
def bookCopiesUptoRow : OpenClaim := { program := "ytkppagdjakllpaa", sum := "5c1fd4500f3c66afd11d8e90f3ddd55048a6a573eb8744437757f1eaab58e81e", func := "patchbay/patchbaylaw11.BookCopies", spec := "bookCopies", unfollowed := true, recurses := true, plainKeys := false, apart := false, narrowed := true }
def BookCopiesUptoSaid : Prop := bookCopiesUptoRow.holds Try.pinned (OpenSpec.upto bookCopiesSpec)

/-- 'patchbaylaw11.BookActs', WHERE WHAT IT READS IS OF BULK AT MOST 1048576: true; the input reads as it did. -/
def bookActsUptoRow : OpenClaim := { program := "ytkppagdjakllpaa", sum := "5c1fd4500f3c66afd11d8e90f3ddd55048a6a573eb8744437757f1eaab58e81e", func := "patchbay/patchbaylaw11.BookActs", spec := "bookActs", unfollowed := true, recurses := true, plainKeys := false, apart := false, narrowed := true }
def BookActsUptoSaid : Prop := bookActsUptoRow.holds Try.pinned (OpenSpec.upto bookActsSpec)

/-- 'patchbaylaw11.BookApart', WHERE WHAT IT READS IS OF BULK AT MOST 1048576: true; the input reads as it did. -/
def bookApartUptoRow : OpenClaim := { program := "ytkppagdjakllpaa", sum := "5c1fd4500f3c66afd11d8e90f3ddd55048a6a573eb8744437757f1eaab58e81e", func := "patchbay/patchbaylaw11.BookApart", spec := "bookApart", unfollowed := true, recurses := true, plainKeys := false, apart := false, narrowed := true }
def BookApartUptoSaid : Prop := bookApartUptoRow.holds Try.pinned (OpenSpec.upto bookApartSpec)

/-- 'patchbaylaw11.BookNews', WHERE WHAT IT READS IS OF BULK AT MOST 1048576: true; the input reads as it did. -/
def bookNewsUptoRow : OpenClaim := { program := "ytkppagdjakllpaa", sum := "5c1fd4500f3c66afd11d8e90f3ddd55048a6a573eb8744437757f1eaab58e81e", func := "patchbay/patchbaylaw11.BookNews", spec := "bookNews", unfollowed := true, recurses := true, plainKeys := false, apart := false, narrowed := true }
def BookNewsUptoSaid : Prop := bookNewsUptoRow.holds Try.pinned (OpenSpec.upto bookNewsSpec)

end Rows
end Go.Proofs.Ytkppagdjakllpaa
