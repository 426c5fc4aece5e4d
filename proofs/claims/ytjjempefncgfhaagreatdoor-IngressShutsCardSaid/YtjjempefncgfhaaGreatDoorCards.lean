/-
  DERIVED. GIVEN WITH THE SEED: THE CARDS: each row of YtjjempefncgfhaaGreatDoorRows.lean that lists a variable, with what it lists TIED to the program's text (the seventh form; the later family's looks); each row that meets fmt, with fmt's text TOLD by the authors' own Lean function (tested against real Go, not proved from fmt's source: count such statements apart). THE CARD IS WHAT COUNTS. Prove the row's statement (the work); the ties are given (YtjjempefncgfhaaGreatDoorTie.lean); close each card by the builder's one call (the guide's Derived/Test/ToyasCard.lean, 'card_holds'). Laid BY PROGRAM, IN A SANDBOX (cutbox-door.mjs). By AI agents, Wed Nov 11 2026. No macro, syntax, notation, axiom, sorry.
-/
import Derived.Test.YtjjempefncgfhaaGreatDoorRows
import GoSem.ClaimSeven
namespace Go.Proofs.YtjjempefncgfhaaGreatDoor
namespace Rows

/-- THE TIED CARD OF 'patchbaylaw20.IngressNews'. -/
def ingressNewsCard : Claim7 := { stood := { row := ingressNewsRow, standIns := [], harness := (true, "a559bc61e55f63086abd1af893b93dfefa98d9639a5b0e53a0c38a67d2bda124"), looks := false }, kinds := [], alts := [], laidByText := true, laidKinds := [.data], laidTests := true, laidLooks := .later }
def IngressNewsCardSaid : Prop := Claim7.holds Tryz.pinned (.plain (OpenSpec.ofChange ingressNewsSpec)) ingressNewsCard

/-- THE TIED CARD OF 'patchbaylaw20.IngressShuts'. -/
def ingressShutsCard : Claim7 := { stood := { row := ingressShutsRow, standIns := [], harness := (true, "a559bc61e55f63086abd1af893b93dfefa98d9639a5b0e53a0c38a67d2bda124"), looks := false }, kinds := [], alts := [], laidByText := true, laidKinds := [.data], laidTests := true, laidLooks := .later }
def IngressShutsCardSaid : Prop := Claim7.holds Tryz.pinned (.plain (OpenSpec.ofChange ingressShutsSpec)) ingressShutsCard

/-- THE TIED CARD OF 'patchbaylaw20.IngressAlone'. -/
def ingressAloneCard : Claim7 := { stood := { row := ingressAloneRow, standIns := [], harness := (true, "a559bc61e55f63086abd1af893b93dfefa98d9639a5b0e53a0c38a67d2bda124"), looks := false }, kinds := [], alts := [], laidByText := true, laidKinds := [.data], laidTests := true, laidLooks := .later }
def IngressAloneCardSaid : Prop := Claim7.holds Tryz.pinned (.plain (OpenSpec.ofChange ingressAloneSpec)) ingressAloneCard

/-- THE TIED CARD OF 'patchbaylaw20.IngressTurns'. -/
def ingressTurnsCard : Claim7 := { stood := { row := ingressTurnsRow, standIns := [], harness := (true, "a559bc61e55f63086abd1af893b93dfefa98d9639a5b0e53a0c38a67d2bda124"), looks := false }, kinds := [], alts := [], laidByText := true, laidKinds := [.data], laidTests := true, laidLooks := .later }
def IngressTurnsCardSaid : Prop := Claim7.holds Tryz.pinned (.plain (OpenSpec.ofChange ingressTurnsSpec)) ingressTurnsCard

/-- THE SECOND FORM's CARD OF 'patchbaylaw20.IngressNews'. -/
def ingressNewsUptoCard : Claim7 := { stood := { row := ingressNewsUptoRow, standIns := [], harness := (true, "a559bc61e55f63086abd1af893b93dfefa98d9639a5b0e53a0c38a67d2bda124"), looks := false }, kinds := [], alts := [], laidByText := true, laidKinds := [.data], laidTests := true, laidLooks := .later }
def IngressNewsUptoCardSaid : Prop := Claim7.holds Tryz.pinned (.plain (OpenSpec.upto ingressNewsSpec)) ingressNewsUptoCard

/-- THE SECOND FORM's CARD OF 'patchbaylaw20.IngressShuts'. -/
def ingressShutsUptoCard : Claim7 := { stood := { row := ingressShutsUptoRow, standIns := [], harness := (true, "a559bc61e55f63086abd1af893b93dfefa98d9639a5b0e53a0c38a67d2bda124"), looks := false }, kinds := [], alts := [], laidByText := true, laidKinds := [.data], laidTests := true, laidLooks := .later }
def IngressShutsUptoCardSaid : Prop := Claim7.holds Tryz.pinned (.plain (OpenSpec.upto ingressShutsSpec)) ingressShutsUptoCard

/-- THE SECOND FORM's CARD OF 'patchbaylaw20.IngressAlone'. -/
def ingressAloneUptoCard : Claim7 := { stood := { row := ingressAloneUptoRow, standIns := [], harness := (true, "a559bc61e55f63086abd1af893b93dfefa98d9639a5b0e53a0c38a67d2bda124"), looks := false }, kinds := [], alts := [], laidByText := true, laidKinds := [.data], laidTests := true, laidLooks := .later }
def IngressAloneUptoCardSaid : Prop := Claim7.holds Tryz.pinned (.plain (OpenSpec.upto ingressAloneSpec)) ingressAloneUptoCard

/-- THE SECOND FORM's CARD OF 'patchbaylaw20.IngressTurns'. -/
def ingressTurnsUptoCard : Claim7 := { stood := { row := ingressTurnsUptoRow, standIns := [], harness := (true, "a559bc61e55f63086abd1af893b93dfefa98d9639a5b0e53a0c38a67d2bda124"), looks := false }, kinds := [], alts := [], laidByText := true, laidKinds := [.data], laidTests := true, laidLooks := .later }
def IngressTurnsUptoCardSaid : Prop := Claim7.holds Tryz.pinned (.plain (OpenSpec.upto ingressTurnsSpec)) ingressTurnsUptoCard
end Rows
end Go.Proofs.YtjjempefncgfhaaGreatDoor
