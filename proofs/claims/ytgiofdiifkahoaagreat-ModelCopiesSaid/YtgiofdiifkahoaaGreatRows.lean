/-
  No cell of these rows narrows 'for every input' (looked for: loops, veiled, ifaces, maps, wideKeys, modest, calm, conditions, laid).
  DERIVED. THE GIVEN ROWS OF THIS SEAT. 6 by the template 'for every input the law returns true; each argument reads behind the call as it read before'; 0 by the template 'total and deterministic' (their statements: YtgiofdiifkahoaaGreatTotals.lean).
  GIVEN WITH THE SEED: the statements are not yours to turn. If you find one false, say at which input.
  Laid BY PROGRAM, IN A SANDBOX (cutbox-rows.mjs): the forced cells as the released guide's own fill.sh prints them over the translation 6d3a87bcc5277cef… (all of the seat's roots in one cut). By AI agents, Wed Nov 11 2026. No macro, syntax, notation, axiom, sorry.
-/
import Derived.Test.YtgiofdiifkahoaaGreatChecked
import GoSem.Claim
import GoSem.ClaimJoined
import GoSem.ClaimMapViews
import Derived.JoinedTies
import Derived.KernelRfl
namespace Go.Proofs.YtgiofdiifkahoaaGreat
/- THE CELL 'sum', in the pinned program and in every row, IS THE sha256 OF THE DUMP (.gsa) THAT YtgiofdiifkahoaaGreatProg.lean LOADS. Nothing in Lean hashes anything: it is a label: what it is worth is what the hold of that sum in a sandbox is worth. -/
noncomputable def Tryz.pinned : Pinned := { name := "ytgiofdiifkahoaagreat", sum := "6d3a87bcc5277cef5487748ba16441800ba435182d55f583e6288817d8dac8d5", checked := Tryz.checked }
namespace Rows
def none {H : Type} : Left H := { results := [], args := [] }

/-- 'patchbaylaw17.ModelActs': WHATEVER THE INPUT: true; the input reads as it did. -/
def modelActsSpec : ChangeSpec := { name := "modelActs", fn := fun _ => fun
  | [d1, d2] => { results := [.lit (.bool true)], args := [d1, d2] }
  | _ => none }
def modelActsRow : OpenClaim := { program := "ytgiofdiifkahoaagreat", sum := "6d3a87bcc5277cef5487748ba16441800ba435182d55f583e6288817d8dac8d5", func := "patchbay/patchbaylaw17.ModelActs", spec := "modelActs", unfollowed := true, recurses := true, plainKeys := false, apart := false }
def ModelActsSaid : Prop := modelActsRow.holds Tryz.pinned (OpenSpec.ofChange modelActsSpec)

/-- ITS FALSE NEIGHBOUR: 'it returns false'. Refute it at one input. -/
def modelActsWrong : ChangeSpec := { name := "modelActs", fn := fun _ => fun
  | [d1, d2] => { results := [.lit (.bool false)], args := [d1, d2] }
  | _ => none }
def ModelActsWrongFalsely : Prop := modelActsRow.holds Tryz.pinned (OpenSpec.ofChange modelActsWrong)

/-- 'patchbaylaw17.ModelCopies': WHATEVER THE INPUT: true; the input reads as it did. -/
def modelCopiesSpec : ChangeSpec := { name := "modelCopies", fn := fun _ => fun
  | [d1, d2, d3] => { results := [.lit (.bool true)], args := [d1, d2, d3] }
  | _ => none }
def modelCopiesRow : OpenClaim := { program := "ytgiofdiifkahoaagreat", sum := "6d3a87bcc5277cef5487748ba16441800ba435182d55f583e6288817d8dac8d5", func := "patchbay/patchbaylaw17.ModelCopies", spec := "modelCopies", unfollowed := true, recurses := true, plainKeys := false, apart := false }
def ModelCopiesSaid : Prop := modelCopiesRow.holds Tryz.pinned (OpenSpec.ofChange modelCopiesSpec)

/-- ITS FALSE NEIGHBOUR: 'it returns false'. Refute it at one input. -/
def modelCopiesWrong : ChangeSpec := { name := "modelCopies", fn := fun _ => fun
  | [d1, d2, d3] => { results := [.lit (.bool false)], args := [d1, d2, d3] }
  | _ => none }
def ModelCopiesWrongFalsely : Prop := modelCopiesRow.holds Tryz.pinned (OpenSpec.ofChange modelCopiesWrong)

/-- 'patchbaylaw18.HistChecks': WHATEVER THE INPUT: true; the input reads as it did. -/
def histChecksSpec : ChangeSpec := { name := "histChecks", fn := fun _ => fun
  | [d1, d2] => { results := [.lit (.bool true)], args := [d1, d2] }
  | _ => none }
def histChecksRow : OpenClaim := { program := "ytgiofdiifkahoaagreat", sum := "6d3a87bcc5277cef5487748ba16441800ba435182d55f583e6288817d8dac8d5", func := "patchbay/patchbaylaw18.HistChecks", spec := "histChecks", unfollowed := true, recurses := true, plainKeys := false, apart := false }
def HistChecksSaid : Prop := histChecksRow.holds Tryz.pinned (OpenSpec.ofChange histChecksSpec)

/-- ITS FALSE NEIGHBOUR: 'it returns false'. Refute it at one input. -/
def histChecksWrong : ChangeSpec := { name := "histChecks", fn := fun _ => fun
  | [d1, d2] => { results := [.lit (.bool false)], args := [d1, d2] }
  | _ => none }
def HistChecksWrongFalsely : Prop := histChecksRow.holds Tryz.pinned (OpenSpec.ofChange histChecksWrong)

/-- 'patchbaylaw18.HistAlone': WHATEVER THE INPUT: true; the input reads as it did. -/
def histAloneSpec : ChangeSpec := { name := "histAlone", fn := fun _ => fun
  | [d1, d2, d3] => { results := [.lit (.bool true)], args := [d1, d2, d3] }
  | _ => none }
def histAloneRow : OpenClaim := { program := "ytgiofdiifkahoaagreat", sum := "6d3a87bcc5277cef5487748ba16441800ba435182d55f583e6288817d8dac8d5", func := "patchbay/patchbaylaw18.HistAlone", spec := "histAlone", unfollowed := true, recurses := true, plainKeys := false, apart := false }
def HistAloneSaid : Prop := histAloneRow.holds Tryz.pinned (OpenSpec.ofChange histAloneSpec)

/-- ITS FALSE NEIGHBOUR: 'it returns false'. Refute it at one input. -/
def histAloneWrong : ChangeSpec := { name := "histAlone", fn := fun _ => fun
  | [d1, d2, d3] => { results := [.lit (.bool false)], args := [d1, d2, d3] }
  | _ => none }
def HistAloneWrongFalsely : Prop := histAloneRow.holds Tryz.pinned (OpenSpec.ofChange histAloneWrong)

/-- 'patchbaylaw18.HistMoves': WHATEVER THE INPUT: true; the input reads as it did. -/
def histMovesSpec : ChangeSpec := { name := "histMoves", fn := fun _ => fun
  | [d1, d2, d3] => { results := [.lit (.bool true)], args := [d1, d2, d3] }
  | _ => none }
def histMovesRow : OpenClaim := { program := "ytgiofdiifkahoaagreat", sum := "6d3a87bcc5277cef5487748ba16441800ba435182d55f583e6288817d8dac8d5", func := "patchbay/patchbaylaw18.HistMoves", spec := "histMoves", unfollowed := true, recurses := true, plainKeys := false, apart := false }
def HistMovesSaid : Prop := histMovesRow.holds Tryz.pinned (OpenSpec.ofChange histMovesSpec)

/-- ITS FALSE NEIGHBOUR: 'it returns false'. Refute it at one input. -/
def histMovesWrong : ChangeSpec := { name := "histMoves", fn := fun _ => fun
  | [d1, d2, d3] => { results := [.lit (.bool false)], args := [d1, d2, d3] }
  | _ => none }
def HistMovesWrongFalsely : Prop := histMovesRow.holds Tryz.pinned (OpenSpec.ofChange histMovesWrong)

/-- 'patchbaylaw18.HistReplays': WHATEVER THE INPUT: true; the input reads as it did. -/
def histReplaysSpec : ChangeSpec := { name := "histReplays", fn := fun _ => fun
  | [d1, d2] => { results := [.lit (.bool true)], args := [d1, d2] }
  | _ => none }
def histReplaysRow : OpenClaim := { program := "ytgiofdiifkahoaagreat", sum := "6d3a87bcc5277cef5487748ba16441800ba435182d55f583e6288817d8dac8d5", func := "patchbay/patchbaylaw18.HistReplays", spec := "histReplays", unfollowed := true, recurses := true, plainKeys := false, apart := false }
def HistReplaysSaid : Prop := histReplaysRow.holds Tryz.pinned (OpenSpec.ofChange histReplaysSpec)

/-- ITS FALSE NEIGHBOUR: 'it returns false'. Refute it at one input. -/
def histReplaysWrong : ChangeSpec := { name := "histReplays", fn := fun _ => fun
  | [d1, d2] => { results := [.lit (.bool false)], args := [d1, d2] }
  | _ => none }
def HistReplaysWrongFalsely : Prop := histReplaysRow.holds Tryz.pinned (OpenSpec.ofChange histReplaysWrong)

/- THE SECOND FORM. 'bulk': how many values and letters a reading holds, each counted each time it is reached (what is shared counts as often as it is met; a slice's spare places count too). A statement '..UptoSaid' is the law's where the arguments, and the package variables that the reading takes, are together of bulk at most 1048576: NARROWER than '..Said'. Prove '..Said' where nothing that the law and all that it calls make is longer than what came in: it says more and counts as full. Else prove '..UptoSaid'. A law counts once. -/
mutual
def uptoBulk {H : Type} : DataW H → Nat
  | .lit (.string bytes) => bytes.length + 1
  | .lit _ => 1
  | .nil => 1
  | .ptr d => uptoBulk d + 1
  | .slice elems spare => uptoBulkAll elems + uptoBulkAll spare + 1
  | .agg parts => uptoBulkAll parts + 1
  | .iface _ d => uptoBulk d + 1
  | .map entries => uptoBulkEntries entries + 1
  | .held _ => 1
def uptoBulkAll {H : Type} : List (DataW H) → Nat
  | [] => 0
  | d :: r => uptoBulk d + uptoBulkAll r
def uptoBulkEntries {H : Type} : List (Lit × DataW H) → Nat
  | [] => 0
  | x :: r => uptoBulkEntry x + uptoBulkEntries r
def uptoBulkEntry {H : Type} : Lit × DataW H → Nat
  | (.string bytes, d) => bytes.length + uptoBulk d + 1
  | (_, d) => uptoBulk d + 1
 end
def uptoSmall : (H : Type) → List (DataW H) → Bool := fun _ ds => decide (uptoBulkAll ds ≤ 1048576)
def OpenSpec.upto (s : _root_.Go.ChangeSpec) : _root_.Go.OpenSpec := { _root_.Go.OpenSpec.ofChange s with cond := some uptoSmall }

/-- 'patchbaylaw17.ModelActs', WHERE WHAT IT READS IS OF BULK AT MOST 1048576: true; the input reads as it did. -/
def modelActsUptoRow : OpenClaim := { program := "ytgiofdiifkahoaagreat", sum := "6d3a87bcc5277cef5487748ba16441800ba435182d55f583e6288817d8dac8d5", func := "patchbay/patchbaylaw17.ModelActs", spec := "modelActs", unfollowed := true, recurses := true, plainKeys := false, apart := false, narrowed := true }
def ModelActsUptoSaid : Prop := modelActsUptoRow.holds Tryz.pinned (OpenSpec.upto modelActsSpec)

/-- 'patchbaylaw17.ModelCopies', WHERE WHAT IT READS IS OF BULK AT MOST 1048576: true; the input reads as it did. -/
def modelCopiesUptoRow : OpenClaim := { program := "ytgiofdiifkahoaagreat", sum := "6d3a87bcc5277cef5487748ba16441800ba435182d55f583e6288817d8dac8d5", func := "patchbay/patchbaylaw17.ModelCopies", spec := "modelCopies", unfollowed := true, recurses := true, plainKeys := false, apart := false, narrowed := true }
def ModelCopiesUptoSaid : Prop := modelCopiesUptoRow.holds Tryz.pinned (OpenSpec.upto modelCopiesSpec)

/-- 'patchbaylaw18.HistChecks', WHERE WHAT IT READS IS OF BULK AT MOST 1048576: true; the input reads as it did. -/
def histChecksUptoRow : OpenClaim := { program := "ytgiofdiifkahoaagreat", sum := "6d3a87bcc5277cef5487748ba16441800ba435182d55f583e6288817d8dac8d5", func := "patchbay/patchbaylaw18.HistChecks", spec := "histChecks", unfollowed := true, recurses := true, plainKeys := false, apart := false, narrowed := true }
def HistChecksUptoSaid : Prop := histChecksUptoRow.holds Tryz.pinned (OpenSpec.upto histChecksSpec)

/-- 'patchbaylaw18.HistAlone', WHERE WHAT IT READS IS OF BULK AT MOST 1048576: true; the input reads as it did. -/
def histAloneUptoRow : OpenClaim := { program := "ytgiofdiifkahoaagreat", sum := "6d3a87bcc5277cef5487748ba16441800ba435182d55f583e6288817d8dac8d5", func := "patchbay/patchbaylaw18.HistAlone", spec := "histAlone", unfollowed := true, recurses := true, plainKeys := false, apart := false, narrowed := true }
def HistAloneUptoSaid : Prop := histAloneUptoRow.holds Tryz.pinned (OpenSpec.upto histAloneSpec)

/-- 'patchbaylaw18.HistMoves', WHERE WHAT IT READS IS OF BULK AT MOST 1048576: true; the input reads as it did. -/
def histMovesUptoRow : OpenClaim := { program := "ytgiofdiifkahoaagreat", sum := "6d3a87bcc5277cef5487748ba16441800ba435182d55f583e6288817d8dac8d5", func := "patchbay/patchbaylaw18.HistMoves", spec := "histMoves", unfollowed := true, recurses := true, plainKeys := false, apart := false, narrowed := true }
def HistMovesUptoSaid : Prop := histMovesUptoRow.holds Tryz.pinned (OpenSpec.upto histMovesSpec)

/-- 'patchbaylaw18.HistReplays', WHERE WHAT IT READS IS OF BULK AT MOST 1048576: true; the input reads as it did. -/
def histReplaysUptoRow : OpenClaim := { program := "ytgiofdiifkahoaagreat", sum := "6d3a87bcc5277cef5487748ba16441800ba435182d55f583e6288817d8dac8d5", func := "patchbay/patchbaylaw18.HistReplays", spec := "histReplays", unfollowed := true, recurses := true, plainKeys := false, apart := false, narrowed := true }
def HistReplaysUptoSaid : Prop := histReplaysUptoRow.holds Tryz.pinned (OpenSpec.upto histReplaysSpec)

end Rows
end Go.Proofs.YtgiofdiifkahoaaGreat
