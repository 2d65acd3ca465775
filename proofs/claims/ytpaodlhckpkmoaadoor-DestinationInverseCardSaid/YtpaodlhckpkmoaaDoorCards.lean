/-
  DERIVED. GIVEN WITH THE SEED: THE CARDS: each row of YtpaodlhckpkmoaaDoorRows.lean that lists a variable, with what it lists TIED to the program's text (the seventh form; the later family's looks); each row that meets fmt, with fmt's text TOLD by the authors' own Lean function (tested against real Go, not proved from fmt's source: count such statements apart). THE CARD IS WHAT COUNTS. Prove the row's statement (the work); the ties are given (YtpaodlhckpkmoaaDoorTie.lean); close each card by the builder's one call (the guide's Derived/Test/ToyasCard.lean, 'card_holds'). Laid BY PROGRAM, IN A SANDBOX (cutbox-door.mjs). By AI agents, Wed Nov 11 2026. No macro, syntax, notation, axiom, sorry.
-/
import Derived.Test.YtpaodlhckpkmoaaDoorRows
import GoSem.ClaimSeven
namespace Go.Proofs.YtpaodlhckpkmoaaDoor
namespace Rows

/-- THE TIED CARD OF 'hstsstorelaw27.DestinationMatchesSpec'. -/
def destinationMatchesSpecCard : Claim7 := { stood := { row := destinationMatchesSpecRow, standIns := [], harness := (true, "7f4f75dbe30e6c603cb229b447ca438483d2e725370670a2be2a8976381d68d5"), looks := false }, kinds := [], alts := [], laidByText := true, laidKinds := [.data], laidTests := true, laidLooks := .later }
def DestinationMatchesSpecCardSaid : Prop := Claim7.holds Tryd.pinned (.plain (OpenSpec.ofChange destinationMatchesSpecSpec)) destinationMatchesSpecCard

/-- THE TIED CARD OF 'hstsstorelaw27.DestinationInverse'. -/
def destinationInverseCard : Claim7 := { stood := { row := destinationInverseRow, standIns := [], harness := (true, "7f4f75dbe30e6c603cb229b447ca438483d2e725370670a2be2a8976381d68d5"), looks := false }, kinds := [], alts := [], laidByText := true, laidKinds := [.data], laidTests := true, laidLooks := .later }
def DestinationInverseCardSaid : Prop := Claim7.holds Tryd.pinned (.plain (OpenSpec.ofChange destinationInverseSpec)) destinationInverseCard

/-- THE SECOND FORM's CARD OF 'hstsstorelaw27.DestinationMatchesSpec'. -/
def destinationMatchesSpecUptoCard : Claim7 := { stood := { row := destinationMatchesSpecUptoRow, standIns := [], harness := (true, "7f4f75dbe30e6c603cb229b447ca438483d2e725370670a2be2a8976381d68d5"), looks := false }, kinds := [], alts := [], laidByText := true, laidKinds := [.data], laidTests := true, laidLooks := .later }
def DestinationMatchesSpecUptoCardSaid : Prop := Claim7.holds Tryd.pinned (.plain (OpenSpec.upto destinationMatchesSpecSpec)) destinationMatchesSpecUptoCard

/-- THE SECOND FORM's CARD OF 'hstsstorelaw27.DestinationInverse'. -/
def destinationInverseUptoCard : Claim7 := { stood := { row := destinationInverseUptoRow, standIns := [], harness := (true, "7f4f75dbe30e6c603cb229b447ca438483d2e725370670a2be2a8976381d68d5"), looks := false }, kinds := [], alts := [], laidByText := true, laidKinds := [.data], laidTests := true, laidLooks := .later }
def DestinationInverseUptoCardSaid : Prop := Claim7.holds Tryd.pinned (.plain (OpenSpec.upto destinationInverseSpec)) destinationInverseUptoCard
end Rows
end Go.Proofs.YtpaodlhckpkmoaaDoor
