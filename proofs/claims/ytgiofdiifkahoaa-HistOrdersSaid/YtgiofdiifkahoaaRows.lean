/-
  No cell of these rows narrows 'for every input' (looked for: loops, veiled, ifaces, maps, wideKeys, modest, calm, conditions, laid).
  DERIVED. THE GIVEN ROWS OF THIS SEAT. 5 by the template 'for every input the law returns true; each argument reads behind the call as it read before'; 0 by the template 'total and deterministic' (their statements: YtgiofdiifkahoaaTotals.lean).
  GIVEN WITH THE SEED: the statements are not yours to turn. If you find one false, say at which input.
  Laid BY PROGRAM, IN A SANDBOX (cutbox-rows.mjs): the forced cells as the released guide's own fill.sh prints them over the translation 42c6ed11fa4dc55e… (all of the seat's roots in one cut). By AI agents, Wed Nov 11 2026. No macro, syntax, notation, axiom, sorry.
-/
import Derived.Test.YtgiofdiifkahoaaChecked
import GoSem.Claim
import GoSem.ClaimJoined
import GoSem.ClaimMapViews
import Derived.JoinedTies
import Derived.KernelRfl
namespace Go.Proofs.Ytgiofdiifkahoaa
/- THE CELL 'sum', in the pinned program and in every row, IS THE sha256 OF THE DUMP (.gsa) THAT YtgiofdiifkahoaaProg.lean LOADS. Nothing in Lean hashes anything: it is a label: what it is worth is what the hold of that sum in a sandbox is worth. -/
noncomputable def Try.pinned : Pinned := { name := "ytgiofdiifkahoaa", sum := "42c6ed11fa4dc55e2fe4dace04125813169a9d4b3447f1d77c7cf9bac97c9ab5", checked := Try.checked }
namespace Rows
def none {H : Type} : Left H := { results := [], args := [] }

/-- 'patchbaylaw17.ModelQueues': WHATEVER THE INPUT: true; the input reads as it did. -/
def modelQueuesSpec : ChangeSpec := { name := "modelQueues", fn := fun _ => fun
  | [d1, d2, d3] => { results := [.lit (.bool true)], args := [d1, d2, d3] }
  | _ => none }
def modelQueuesRow : OpenClaim := { program := "ytgiofdiifkahoaa", sum := "42c6ed11fa4dc55e2fe4dace04125813169a9d4b3447f1d77c7cf9bac97c9ab5", func := "patchbay/patchbaylaw17.ModelQueues", spec := "modelQueues", unfollowed := true, recurses := true, plainKeys := false, apart := false }
def ModelQueuesSaid : Prop := modelQueuesRow.holds Try.pinned (OpenSpec.ofChange modelQueuesSpec)

/-- ITS FALSE NEIGHBOUR: 'it returns false'. Refute it at one input. -/
def modelQueuesWrong : ChangeSpec := { name := "modelQueues", fn := fun _ => fun
  | [d1, d2, d3] => { results := [.lit (.bool false)], args := [d1, d2, d3] }
  | _ => none }
def ModelQueuesWrongFalsely : Prop := modelQueuesRow.holds Try.pinned (OpenSpec.ofChange modelQueuesWrong)

/-- 'patchbaylaw17.ModelStands': WHATEVER THE INPUT: true; the input reads as it did. -/
def modelStandsSpec : ChangeSpec := { name := "modelStands", fn := fun _ => fun
  | [d1, d2, d3] => { results := [.lit (.bool true)], args := [d1, d2, d3] }
  | _ => none }
def modelStandsRow : OpenClaim := { program := "ytgiofdiifkahoaa", sum := "42c6ed11fa4dc55e2fe4dace04125813169a9d4b3447f1d77c7cf9bac97c9ab5", func := "patchbay/patchbaylaw17.ModelStands", spec := "modelStands", unfollowed := true, recurses := true, plainKeys := false, apart := false }
def ModelStandsSaid : Prop := modelStandsRow.holds Try.pinned (OpenSpec.ofChange modelStandsSpec)

/-- ITS FALSE NEIGHBOUR: 'it returns false'. Refute it at one input. -/
def modelStandsWrong : ChangeSpec := { name := "modelStands", fn := fun _ => fun
  | [d1, d2, d3] => { results := [.lit (.bool false)], args := [d1, d2, d3] }
  | _ => none }
def ModelStandsWrongFalsely : Prop := modelStandsRow.holds Try.pinned (OpenSpec.ofChange modelStandsWrong)

/-- 'patchbaylaw17.ModelSends': WHATEVER THE INPUT: true; the input reads as it did. -/
def modelSendsSpec : ChangeSpec := { name := "modelSends", fn := fun _ => fun
  | [d1, d2, d3] => { results := [.lit (.bool true)], args := [d1, d2, d3] }
  | _ => none }
def modelSendsRow : OpenClaim := { program := "ytgiofdiifkahoaa", sum := "42c6ed11fa4dc55e2fe4dace04125813169a9d4b3447f1d77c7cf9bac97c9ab5", func := "patchbay/patchbaylaw17.ModelSends", spec := "modelSends", unfollowed := true, recurses := true, plainKeys := false, apart := false }
def ModelSendsSaid : Prop := modelSendsRow.holds Try.pinned (OpenSpec.ofChange modelSendsSpec)

/-- ITS FALSE NEIGHBOUR: 'it returns false'. Refute it at one input. -/
def modelSendsWrong : ChangeSpec := { name := "modelSends", fn := fun _ => fun
  | [d1, d2, d3] => { results := [.lit (.bool false)], args := [d1, d2, d3] }
  | _ => none }
def ModelSendsWrongFalsely : Prop := modelSendsRow.holds Try.pinned (OpenSpec.ofChange modelSendsWrong)

/-- 'patchbaylaw17.ModelChecks': WHATEVER THE INPUT: true; the input reads as it did. -/
def modelChecksSpec : ChangeSpec := { name := "modelChecks", fn := fun _ => fun
  | [d] => { results := [.lit (.bool true)], args := [d] }
  | _ => none }
def modelChecksRow : OpenClaim := { program := "ytgiofdiifkahoaa", sum := "42c6ed11fa4dc55e2fe4dace04125813169a9d4b3447f1d77c7cf9bac97c9ab5", func := "patchbay/patchbaylaw17.ModelChecks", spec := "modelChecks", unfollowed := true, recurses := true, plainKeys := false, apart := false }
def ModelChecksSaid : Prop := modelChecksRow.holds Try.pinned (OpenSpec.ofChange modelChecksSpec)

/-- ITS FALSE NEIGHBOUR: 'it returns false'. Refute it at one input. -/
def modelChecksWrong : ChangeSpec := { name := "modelChecks", fn := fun _ => fun
  | [d] => { results := [.lit (.bool false)], args := [d] }
  | _ => none }
def ModelChecksWrongFalsely : Prop := modelChecksRow.holds Try.pinned (OpenSpec.ofChange modelChecksWrong)

/-- 'patchbaylaw18.HistOrders': WHATEVER THE INPUT: true; the input reads as it did. -/
def histOrdersSpec : ChangeSpec := { name := "histOrders", fn := fun _ => fun
  | [d] => { results := [.lit (.bool true)], args := [d] }
  | _ => none }
def histOrdersRow : OpenClaim := { program := "ytgiofdiifkahoaa", sum := "42c6ed11fa4dc55e2fe4dace04125813169a9d4b3447f1d77c7cf9bac97c9ab5", func := "patchbay/patchbaylaw18.HistOrders", spec := "histOrders", unfollowed := true, recurses := true, plainKeys := false, apart := false }
def HistOrdersSaid : Prop := histOrdersRow.holds Try.pinned (OpenSpec.ofChange histOrdersSpec)

/-- ITS FALSE NEIGHBOUR: 'it returns false'. Refute it at one input. -/
def histOrdersWrong : ChangeSpec := { name := "histOrders", fn := fun _ => fun
  | [d] => { results := [.lit (.bool false)], args := [d] }
  | _ => none }
def HistOrdersWrongFalsely : Prop := histOrdersRow.holds Try.pinned (OpenSpec.ofChange histOrdersWrong)

/- THE SECOND FORM. 'bulk': how many values and letters a reading holds, each counted each time it is reached (what is shared counts as often as it is met; a slice's spare places count too). A statement '..UptoSaid' is the law's where the arguments, and the package variables that the reading takes, are together of bulk at most 1048576: NARROWER than '..Said'. Prove '..Said' where nothing that the law and all that it calls make is longer than what came in: it says more and counts as full. Else prove '..UptoSaid'. A law counts once. -/
mutual
def uptoBulk {H : Type} : DataW H → Nat
  | .lit (.string bytes) => bytes.length + 1
  | .lit _ => 1
  | .nil => 1
  | .ptr d => uptoBulk d + 1
  | .slice elems spare => uptoBulkAll elems + uptoBulkAll spare + 1
  | .agg parts => uptoBulkAll parts + 1
  | .iface _ d => uptoBulk d + 1
  | .map entries => uptoBulkEntries entries + 1
  | .held _ => 1
def uptoBulkAll {H : Type} : List (DataW H) → Nat
  | [] => 0
  | d :: r => uptoBulk d + uptoBulkAll r
def uptoBulkEntries {H : Type} : List (Lit × DataW H) → Nat
  | [] => 0
  | x :: r => uptoBulkEntry x + uptoBulkEntries r
def uptoBulkEntry {H : Type} : Lit × DataW H → Nat
  | (.string bytes, d) => bytes.length + uptoBulk d + 1
  | (_, d) => uptoBulk d + 1
 end
def uptoSmall : (H : Type) → List (DataW H) → Bool := fun _ ds => decide (uptoBulkAll ds ≤ 1048576)
def OpenSpec.upto (s : _root_.Go.ChangeSpec) : _root_.Go.OpenSpec := { _root_.Go.OpenSpec.ofChange s with cond := some uptoSmall }

/-- 'patchbaylaw17.ModelQueues', WHERE WHAT IT READS IS OF BULK AT MOST 1048576: true; the input reads as it did. -/
def modelQueuesUptoRow : OpenClaim := { program := "ytgiofdiifkahoaa", sum := "42c6ed11fa4dc55e2fe4dace04125813169a9d4b3447f1d77c7cf9bac97c9ab5", func := "patchbay/patchbaylaw17.ModelQueues", spec := "modelQueues", unfollowed := true, recurses := true, plainKeys := false, apart := false, narrowed := true }
def ModelQueuesUptoSaid : Prop := modelQueuesUptoRow.holds Try.pinned (OpenSpec.upto modelQueuesSpec)

/-- 'patchbaylaw17.ModelStands', WHERE WHAT IT READS IS OF BULK AT MOST 1048576: true; the input reads as it did. -/
def modelStandsUptoRow : OpenClaim := { program := "ytgiofdiifkahoaa", sum := "42c6ed11fa4dc55e2fe4dace04125813169a9d4b3447f1d77c7cf9bac97c9ab5", func := "patchbay/patchbaylaw17.ModelStands", spec := "modelStands", unfollowed := true, recurses := true, plainKeys := false, apart := false, narrowed := true }
def ModelStandsUptoSaid : Prop := modelStandsUptoRow.holds Try.pinned (OpenSpec.upto modelStandsSpec)

/-- 'patchbaylaw17.ModelSends', WHERE WHAT IT READS IS OF BULK AT MOST 1048576: true; the input reads as it did. -/
def modelSendsUptoRow : OpenClaim := { program := "ytgiofdiifkahoaa", sum := "42c6ed11fa4dc55e2fe4dace04125813169a9d4b3447f1d77c7cf9bac97c9ab5", func := "patchbay/patchbaylaw17.ModelSends", spec := "modelSends", unfollowed := true, recurses := true, plainKeys := false, apart := false, narrowed := true }
def ModelSendsUptoSaid : Prop := modelSendsUptoRow.holds Try.pinned (OpenSpec.upto modelSendsSpec)

/-- 'patchbaylaw17.ModelChecks', WHERE WHAT IT READS IS OF BULK AT MOST 1048576: true; the input reads as it did. -/
def modelChecksUptoRow : OpenClaim := { program := "ytgiofdiifkahoaa", sum := "42c6ed11fa4dc55e2fe4dace04125813169a9d4b3447f1d77c7cf9bac97c9ab5", func := "patchbay/patchbaylaw17.ModelChecks", spec := "modelChecks", unfollowed := true, recurses := true, plainKeys := false, apart := false, narrowed := true }
def ModelChecksUptoSaid : Prop := modelChecksUptoRow.holds Try.pinned (OpenSpec.upto modelChecksSpec)

/-- 'patchbaylaw18.HistOrders', WHERE WHAT IT READS IS OF BULK AT MOST 1048576: true; the input reads as it did. -/
def histOrdersUptoRow : OpenClaim := { program := "ytgiofdiifkahoaa", sum := "42c6ed11fa4dc55e2fe4dace04125813169a9d4b3447f1d77c7cf9bac97c9ab5", func := "patchbay/patchbaylaw18.HistOrders", spec := "histOrders", unfollowed := true, recurses := true, plainKeys := false, apart := false, narrowed := true }
def HistOrdersUptoSaid : Prop := histOrdersUptoRow.holds Try.pinned (OpenSpec.upto histOrdersSpec)

end Rows
end Go.Proofs.Ytgiofdiifkahoaa
