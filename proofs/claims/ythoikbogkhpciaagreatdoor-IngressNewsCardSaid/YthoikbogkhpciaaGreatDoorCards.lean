/-
  DERIVED. GIVEN WITH THE SEED: THE CARDS: each row of YthoikbogkhpciaaGreatDoorRows.lean that lists a variable, with what it lists TIED to the program's text (the seventh form; the later family's looks); each row that meets fmt, with fmt's text TOLD by the authors' own Lean function (tested against real Go, not proved from fmt's source: count such statements apart). THE CARD IS WHAT COUNTS. Prove the row's statement (the work); the ties are given (YthoikbogkhpciaaGreatDoorTie.lean); close each card by the builder's one call (the guide's Derived/Test/ToyasCard.lean, 'card_holds'). Laid BY PROGRAM, IN A SANDBOX (cutbox-door.mjs). By AI agents, Wed Nov 11 2026. No macro, syntax, notation, axiom, sorry.
-/
import Derived.Test.YthoikbogkhpciaaGreatDoorRows
import GoSem.ClaimSeven
namespace Go.Proofs.YthoikbogkhpciaaGreatDoor
namespace Rows

/-- THE TIED CARD OF 'patchbaylaw20.IngressTickets'. -/
def ingressTicketsCard : Claim7 := { stood := { row := ingressTicketsRow, standIns := [], harness := (true, "cf30b20d3fb00575ce4dc5fc84662fbfe3d942de379ba011f99b47d33df73952"), looks := false }, kinds := [], alts := [], laidByText := true, laidKinds := [.data], laidTests := true, laidLooks := .later }
def IngressTicketsCardSaid : Prop := Claim7.holds Tryz.pinned (.plain (OpenSpec.ofChange ingressTicketsSpec)) ingressTicketsCard

/-- THE TIED CARD OF 'patchbaylaw20.IngressNews'. -/
def ingressNewsCard : Claim7 := { stood := { row := ingressNewsRow, standIns := [], harness := (true, "cf30b20d3fb00575ce4dc5fc84662fbfe3d942de379ba011f99b47d33df73952"), looks := false }, kinds := [], alts := [], laidByText := true, laidKinds := [.data], laidTests := true, laidLooks := .later }
def IngressNewsCardSaid : Prop := Claim7.holds Tryz.pinned (.plain (OpenSpec.ofChange ingressNewsSpec)) ingressNewsCard

/-- THE SECOND FORM's CARD OF 'patchbaylaw20.IngressTickets'. -/
def ingressTicketsUptoCard : Claim7 := { stood := { row := ingressTicketsUptoRow, standIns := [], harness := (true, "cf30b20d3fb00575ce4dc5fc84662fbfe3d942de379ba011f99b47d33df73952"), looks := false }, kinds := [], alts := [], laidByText := true, laidKinds := [.data], laidTests := true, laidLooks := .later }
def IngressTicketsUptoCardSaid : Prop := Claim7.holds Tryz.pinned (.plain (OpenSpec.upto ingressTicketsSpec)) ingressTicketsUptoCard

/-- THE SECOND FORM's CARD OF 'patchbaylaw20.IngressNews'. -/
def ingressNewsUptoCard : Claim7 := { stood := { row := ingressNewsUptoRow, standIns := [], harness := (true, "cf30b20d3fb00575ce4dc5fc84662fbfe3d942de379ba011f99b47d33df73952"), looks := false }, kinds := [], alts := [], laidByText := true, laidKinds := [.data], laidTests := true, laidLooks := .later }
def IngressNewsUptoCardSaid : Prop := Claim7.holds Tryz.pinned (.plain (OpenSpec.upto ingressNewsSpec)) ingressNewsUptoCard
end Rows
end Go.Proofs.YthoikbogkhpciaaGreatDoor
