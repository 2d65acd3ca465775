/-
  DERIVED. GIVEN WITH THE SEED: THE CARDS: each row of YtjdkmidajhbefaaDoorRows.lean that lists a variable, with what it lists TIED to the program's text (the seventh form; the later family's looks); each row that meets fmt, with fmt's text TOLD by the authors' own Lean function (tested against real Go, not proved from fmt's source: count such statements apart). THE CARD IS WHAT COUNTS. Prove the row's statement (the work); the ties are given (YtjdkmidajhbefaaDoorTie.lean); close each card by the builder's one call (the guide's Derived/Test/ToyasCard.lean, 'card_holds'). Laid BY PROGRAM, IN A SANDBOX (cutbox-door.mjs). By AI agents, Wed Nov 11 2026. No macro, syntax, notation, axiom, sorry.
-/
import Derived.Test.YtjdkmidajhbefaaDoorRows
import GoSem.ClaimSeven
namespace Go.Proofs.YtjdkmidajhbefaaDoor
namespace Rows

/-- THE TIED CARD OF 'hstsstorelaw19.StsRoundTrip'. -/
def stsRoundTripCard : Claim7 := { stood := { row := stsRoundTripRow, standIns := [], harness := (true, "eb68a2180f2e1c3ab9238fd8350eb4bf8186329b7c8ec8943ba7059e93379d30"), looks := false }, kinds := [], alts := [], laidByText := true, laidKinds := [.data, .data, .data], laidTests := true, laidLooks := .later }
def StsRoundTripCardSaid : Prop := Claim7.holds Tryd.pinned (.plain (OpenSpec.ofChange stsRoundTripSpec)) stsRoundTripCard

/-- THE SECOND FORM's CARD OF 'hstsstorelaw19.StsRoundTrip'. -/
def stsRoundTripUptoCard : Claim7 := { stood := { row := stsRoundTripUptoRow, standIns := [], harness := (true, "eb68a2180f2e1c3ab9238fd8350eb4bf8186329b7c8ec8943ba7059e93379d30"), looks := false }, kinds := [], alts := [], laidByText := true, laidKinds := [.data, .data, .data], laidTests := true, laidLooks := .later }
def StsRoundTripUptoCardSaid : Prop := Claim7.holds Tryd.pinned (.plain (OpenSpec.upto stsRoundTripSpec)) stsRoundTripUptoCard
end Rows
end Go.Proofs.YtjdkmidajhbefaaDoor
