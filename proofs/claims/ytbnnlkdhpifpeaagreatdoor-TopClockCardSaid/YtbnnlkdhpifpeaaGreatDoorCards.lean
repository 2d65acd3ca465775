/-
  DERIVED. GIVEN WITH THE SEED: THE CARDS: each row of YtbnnlkdhpifpeaaGreatDoorRows.lean that lists a variable, with what it lists TIED to the program's text (the seventh form; the later family's looks); each row that meets fmt, with fmt's text TOLD by the authors' own Lean function (tested against real Go, not proved from fmt's source: count such statements apart). THE CARD IS WHAT COUNTS. Prove the row's statement (the work); the ties are given (YtbnnlkdhpifpeaaGreatDoorTie.lean); close each card by the builder's one call (the guide's Derived/Test/ToyasCard.lean, 'card_holds'). Laid BY PROGRAM, IN A SANDBOX (cutbox-door.mjs). By AI agents, Wed Nov 11 2026. No macro, syntax, notation, axiom, sorry.
-/
import Derived.Test.YtbnnlkdhpifpeaaGreatDoorRows
import GoSem.ClaimSeven
namespace Go.Proofs.YtbnnlkdhpifpeaaGreatDoor
namespace Rows

/-- THE TIED CARD OF 'hstsstoretop.TopClock'. -/
def topClockCard : Claim7 := { stood := { row := topClockRow, standIns := [], harness := (true, "39cc69ffd598cb721f8fc9725bc320a175eb411c09148162486567c857d5ead8"), looks := false }, kinds := [], alts := [], laidByText := true, laidKinds := [.data, .data, .data, .data, .pinned], laidTests := true, laidLooks := .later }
def TopClockCardSaid : Prop := Claim7.holds Tryz.pinned (.plain (OpenSpec.ofChange topClockSpec)) topClockCard

/-- THE SECOND FORM's CARD OF 'hstsstoretop.TopClock'. -/
def topClockUptoCard : Claim7 := { stood := { row := topClockUptoRow, standIns := [], harness := (true, "39cc69ffd598cb721f8fc9725bc320a175eb411c09148162486567c857d5ead8"), looks := false }, kinds := [], alts := [], laidByText := true, laidKinds := [.data, .data, .data, .data, .pinned], laidTests := true, laidLooks := .later }
def TopClockUptoCardSaid : Prop := Claim7.holds Tryz.pinned (.plain (OpenSpec.upto topClockSpec)) topClockUptoCard
end Rows
end Go.Proofs.YtbnnlkdhpifpeaaGreatDoor
