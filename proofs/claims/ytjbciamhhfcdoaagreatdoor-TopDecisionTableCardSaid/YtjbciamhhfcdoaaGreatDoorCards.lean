/-
  DERIVED. GIVEN WITH THE SEED: THE CARDS: each row of YtjbciamhhfcdoaaGreatDoorRows.lean that lists a variable, with what it lists TIED to the program's text (the seventh form; the later family's looks); each row that meets fmt, with fmt's text TOLD by the authors' own Lean function (tested against real Go, not proved from fmt's source: count such statements apart). THE CARD IS WHAT COUNTS. Prove the row's statement (the work); the ties are given (YtjbciamhhfcdoaaGreatDoorTie.lean); close each card by the builder's one call (the guide's Derived/Test/ToyasCard.lean, 'card_holds'). Laid BY PROGRAM, IN A SANDBOX (cutbox-door.mjs). By AI agents, Wed Nov 11 2026. No macro, syntax, notation, axiom, sorry.
-/
import Derived.Test.YtjbciamhhfcdoaaGreatDoorRows
import GoSem.ClaimSeven
namespace Go.Proofs.YtjbciamhhfcdoaaGreatDoor
namespace Rows

/-- THE TIED CARD OF 'hstsstoretop.TopSubdomains'. -/
def topSubdomainsCard : Claim7 := { stood := { row := topSubdomainsRow, standIns := [], harness := (true, "f9fcd86a7191c9100881894346321c9a0de832e89337b4a0eb997cbdc8b7177b"), looks := false }, kinds := [], alts := [], laidByText := true, laidKinds := [.data, .data, .data, .data, .pinned], laidTests := true, laidLooks := .later }
def TopSubdomainsCardSaid : Prop := Claim7.holds Tryz.pinned (.plain (OpenSpec.ofChange topSubdomainsSpec)) topSubdomainsCard

/-- THE TIED CARD OF 'hstsstoretop.TopDecisionTable'. -/
def topDecisionTableCard : Claim7 := { stood := { row := topDecisionTableRow, standIns := [], harness := (true, "f9fcd86a7191c9100881894346321c9a0de832e89337b4a0eb997cbdc8b7177b"), looks := false }, kinds := [], alts := [], laidByText := true, laidKinds := [.data, .data, .data, .data, .pinned], laidTests := true, laidLooks := .later }
def TopDecisionTableCardSaid : Prop := Claim7.holds Tryz.pinned (.plain (OpenSpec.ofChange topDecisionTableSpec)) topDecisionTableCard

/-- THE TIED CARD OF 'hstsstoretop.TopNoDowngrade'. -/
def topNoDowngradeCard : Claim7 := { stood := { row := topNoDowngradeRow, standIns := [], harness := (true, "f9fcd86a7191c9100881894346321c9a0de832e89337b4a0eb997cbdc8b7177b"), looks := false }, kinds := [], alts := [], laidByText := true, laidKinds := [.data, .data, .data, .data, .pinned], laidTests := true, laidLooks := .later }
def TopNoDowngradeCardSaid : Prop := Claim7.holds Tryz.pinned (.plain (OpenSpec.ofChange topNoDowngradeSpec)) topNoDowngradeCard

/-- THE SECOND FORM's CARD OF 'hstsstoretop.TopSubdomains'. -/
def topSubdomainsUptoCard : Claim7 := { stood := { row := topSubdomainsUptoRow, standIns := [], harness := (true, "f9fcd86a7191c9100881894346321c9a0de832e89337b4a0eb997cbdc8b7177b"), looks := false }, kinds := [], alts := [], laidByText := true, laidKinds := [.data, .data, .data, .data, .pinned], laidTests := true, laidLooks := .later }
def TopSubdomainsUptoCardSaid : Prop := Claim7.holds Tryz.pinned (.plain (OpenSpec.upto topSubdomainsSpec)) topSubdomainsUptoCard

/-- THE SECOND FORM's CARD OF 'hstsstoretop.TopDecisionTable'. -/
def topDecisionTableUptoCard : Claim7 := { stood := { row := topDecisionTableUptoRow, standIns := [], harness := (true, "f9fcd86a7191c9100881894346321c9a0de832e89337b4a0eb997cbdc8b7177b"), looks := false }, kinds := [], alts := [], laidByText := true, laidKinds := [.data, .data, .data, .data, .pinned], laidTests := true, laidLooks := .later }
def TopDecisionTableUptoCardSaid : Prop := Claim7.holds Tryz.pinned (.plain (OpenSpec.upto topDecisionTableSpec)) topDecisionTableUptoCard

/-- THE SECOND FORM's CARD OF 'hstsstoretop.TopNoDowngrade'. -/
def topNoDowngradeUptoCard : Claim7 := { stood := { row := topNoDowngradeUptoRow, standIns := [], harness := (true, "f9fcd86a7191c9100881894346321c9a0de832e89337b4a0eb997cbdc8b7177b"), looks := false }, kinds := [], alts := [], laidByText := true, laidKinds := [.data, .data, .data, .data, .pinned], laidTests := true, laidLooks := .later }
def TopNoDowngradeUptoCardSaid : Prop := Claim7.holds Tryz.pinned (.plain (OpenSpec.upto topNoDowngradeSpec)) topNoDowngradeUptoCard
end Rows
end Go.Proofs.YtjbciamhhfcdoaaGreatDoor
