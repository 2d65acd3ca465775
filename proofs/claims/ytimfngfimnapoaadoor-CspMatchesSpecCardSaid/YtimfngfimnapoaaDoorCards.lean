/-
  DERIVED. GIVEN WITH THE SEED: THE CARDS: each row of YtimfngfimnapoaaDoorRows.lean that lists a variable, with what it lists TIED to the program's text (the seventh form; the later family's looks); each row that meets fmt, with fmt's text TOLD by the authors' own Lean function (tested against real Go, not proved from fmt's source: count such statements apart). THE CARD IS WHAT COUNTS. Prove the row's statement (the work); the ties are given (YtimfngfimnapoaaDoorTie.lean); close each card by the builder's one call (the guide's Derived/Test/ToyasCard.lean, 'card_holds'). Laid BY PROGRAM, IN A SANDBOX (cutbox-door.mjs). By AI agents, Wed Nov 11 2026. No macro, syntax, notation, axiom, sorry.
-/
import Derived.Test.YtimfngfimnapoaaDoorRows
import GoSem.ClaimSeven
namespace Go.Proofs.YtimfngfimnapoaaDoor
namespace Rows

/-- THE TIED CARD OF 'hstsstorelaw20.CspMatchesSpec'. -/
def cspMatchesSpecCard : Claim7 := { stood := { row := cspMatchesSpecRow, standIns := [], harness := (true, "5b29f65f996613a2248133a1905ae34a7f7fcb710bf11bd683e67ff306e4d902"), looks := false }, kinds := [], alts := [], laidByText := true, laidKinds := [.data, .pinned], laidTests := true, laidLooks := .later }
def CspMatchesSpecCardSaid : Prop := Claim7.holds Tryd.pinned (.plain (OpenSpec.ofChange cspMatchesSpecSpec)) cspMatchesSpecCard

/-- THE TIED CARD OF 'hstsstorelaw20.CspJoined'. -/
def cspJoinedCard : Claim7 := { stood := { row := cspJoinedRow, standIns := [], harness := (true, "5b29f65f996613a2248133a1905ae34a7f7fcb710bf11bd683e67ff306e4d902"), looks := false }, kinds := [], alts := [], laidByText := true, laidKinds := [.data, .pinned], laidTests := true, laidLooks := .later }
def CspJoinedCardSaid : Prop := Claim7.holds Tryd.pinned (.plain (OpenSpec.ofChange cspJoinedSpec)) cspJoinedCard

/-- THE TIED CARD OF 'hstsstorelaw20.CspNames'. -/
def cspNamesCard : Claim7 := { stood := { row := cspNamesRow, standIns := [], harness := (true, "5b29f65f996613a2248133a1905ae34a7f7fcb710bf11bd683e67ff306e4d902"), looks := false }, kinds := [], alts := [], laidByText := true, laidKinds := [.data, .pinned], laidTests := true, laidLooks := .later }
def CspNamesCardSaid : Prop := Claim7.holds Tryd.pinned (.plain (OpenSpec.ofChange cspNamesSpec)) cspNamesCard

/-- THE TIED CARD OF 'hstsstorelaw20.CspMore'. -/
def cspMoreCard : Claim7 := { stood := { row := cspMoreRow, standIns := [], harness := (true, "5b29f65f996613a2248133a1905ae34a7f7fcb710bf11bd683e67ff306e4d902"), looks := false }, kinds := [], alts := [], laidByText := true, laidKinds := [.data, .pinned], laidTests := true, laidLooks := .later }
def CspMoreCardSaid : Prop := Claim7.holds Tryd.pinned (.plain (OpenSpec.ofChange cspMoreSpec)) cspMoreCard

/-- THE SECOND FORM's CARD OF 'hstsstorelaw20.CspMatchesSpec'. -/
def cspMatchesSpecUptoCard : Claim7 := { stood := { row := cspMatchesSpecUptoRow, standIns := [], harness := (true, "5b29f65f996613a2248133a1905ae34a7f7fcb710bf11bd683e67ff306e4d902"), looks := false }, kinds := [], alts := [], laidByText := true, laidKinds := [.data, .pinned], laidTests := true, laidLooks := .later }
def CspMatchesSpecUptoCardSaid : Prop := Claim7.holds Tryd.pinned (.plain (OpenSpec.upto cspMatchesSpecSpec)) cspMatchesSpecUptoCard

/-- THE SECOND FORM's CARD OF 'hstsstorelaw20.CspJoined'. -/
def cspJoinedUptoCard : Claim7 := { stood := { row := cspJoinedUptoRow, standIns := [], harness := (true, "5b29f65f996613a2248133a1905ae34a7f7fcb710bf11bd683e67ff306e4d902"), looks := false }, kinds := [], alts := [], laidByText := true, laidKinds := [.data, .pinned], laidTests := true, laidLooks := .later }
def CspJoinedUptoCardSaid : Prop := Claim7.holds Tryd.pinned (.plain (OpenSpec.upto cspJoinedSpec)) cspJoinedUptoCard

/-- THE SECOND FORM's CARD OF 'hstsstorelaw20.CspNames'. -/
def cspNamesUptoCard : Claim7 := { stood := { row := cspNamesUptoRow, standIns := [], harness := (true, "5b29f65f996613a2248133a1905ae34a7f7fcb710bf11bd683e67ff306e4d902"), looks := false }, kinds := [], alts := [], laidByText := true, laidKinds := [.data, .pinned], laidTests := true, laidLooks := .later }
def CspNamesUptoCardSaid : Prop := Claim7.holds Tryd.pinned (.plain (OpenSpec.upto cspNamesSpec)) cspNamesUptoCard

/-- THE SECOND FORM's CARD OF 'hstsstorelaw20.CspMore'. -/
def cspMoreUptoCard : Claim7 := { stood := { row := cspMoreUptoRow, standIns := [], harness := (true, "5b29f65f996613a2248133a1905ae34a7f7fcb710bf11bd683e67ff306e4d902"), looks := false }, kinds := [], alts := [], laidByText := true, laidKinds := [.data, .pinned], laidTests := true, laidLooks := .later }
def CspMoreUptoCardSaid : Prop := Claim7.holds Tryd.pinned (.plain (OpenSpec.upto cspMoreSpec)) cspMoreUptoCard
end Rows
end Go.Proofs.YtimfngfimnapoaaDoor
