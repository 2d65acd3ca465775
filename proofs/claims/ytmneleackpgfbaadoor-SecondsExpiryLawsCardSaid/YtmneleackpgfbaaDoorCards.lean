/-
  DERIVED. GIVEN WITH THE SEED: THE CARDS: each row of YtmneleackpgfbaaDoorRows.lean that lists a variable, with what it lists TIED to the program's text (the seventh form; the later family's looks); each row that meets fmt, with fmt's text TOLD by the authors' own Lean function (tested against real Go, not proved from fmt's source: count such statements apart). THE CARD IS WHAT COUNTS. Prove the row's statement (the work); the ties are given (YtmneleackpgfbaaDoorTie.lean); close each card by the builder's one call (the guide's Derived/Test/ToyasCard.lean, 'card_holds'). Laid BY PROGRAM, IN A SANDBOX (cutbox-door.mjs). By AI agents, Wed Nov 11 2026. No macro, syntax, notation, axiom, sorry.
-/
import Derived.Test.YtmneleackpgfbaaDoorRows
import GoSem.ClaimSeven
namespace Go.Proofs.YtmneleackpgfbaaDoor
namespace Rows

/-- THE TIED CARD OF 'hstsstorelaw04.SecondsMatchSpec'. -/
def secondsMatchSpecCard : Claim7 := { stood := { row := secondsMatchSpecRow, standIns := [], harness := (true, "61f5c49110d8c5a85052e367e018a32b846047e341a2bad922ca5672e2128d82"), looks := false }, kinds := [], alts := [], laidByText := true, laidKinds := [.data, .data, .data], laidTests := true, laidLooks := .later }
def SecondsMatchSpecCardSaid : Prop := Claim7.holds Tryd.pinned (.plain (OpenSpec.ofChange secondsMatchSpecSpec)) secondsMatchSpecCard

/-- THE TIED CARD OF 'hstsstorelaw04.SecondsRoundTrip'. -/
def secondsRoundTripCard : Claim7 := { stood := { row := secondsRoundTripRow, standIns := [], harness := (true, "61f5c49110d8c5a85052e367e018a32b846047e341a2bad922ca5672e2128d82"), looks := false }, kinds := [], alts := [], laidByText := true, laidKinds := [.data, .data, .data], laidTests := true, laidLooks := .later }
def SecondsRoundTripCardSaid : Prop := Claim7.holds Tryd.pinned (.plain (OpenSpec.ofChange secondsRoundTripSpec)) secondsRoundTripCard

/-- THE TIED CARD OF 'hstsstorelaw04.SecondsOrder'. -/
def secondsOrderCard : Claim7 := { stood := { row := secondsOrderRow, standIns := [], harness := (true, "61f5c49110d8c5a85052e367e018a32b846047e341a2bad922ca5672e2128d82"), looks := false }, kinds := [], alts := [], laidByText := true, laidKinds := [.data, .data, .data], laidTests := true, laidLooks := .later }
def SecondsOrderCardSaid : Prop := Claim7.holds Tryd.pinned (.plain (OpenSpec.ofChange secondsOrderSpec)) secondsOrderCard

/-- THE TIED CARD OF 'hstsstorelaw04.SecondsExpiryLaws'. -/
def secondsExpiryLawsCard : Claim7 := { stood := { row := secondsExpiryLawsRow, standIns := [], harness := (true, "61f5c49110d8c5a85052e367e018a32b846047e341a2bad922ca5672e2128d82"), looks := false }, kinds := [], alts := [], laidByText := true, laidKinds := [.data, .data, .data], laidTests := true, laidLooks := .later }
def SecondsExpiryLawsCardSaid : Prop := Claim7.holds Tryd.pinned (.plain (OpenSpec.ofChange secondsExpiryLawsSpec)) secondsExpiryLawsCard

/-- THE TIED CARD OF 'hstsstorelaw20.CspMatchesSpec'. -/
def cspMatchesSpecCard : Claim7 := { stood := { row := cspMatchesSpecRow, standIns := [], harness := (true, "61f5c49110d8c5a85052e367e018a32b846047e341a2bad922ca5672e2128d82"), looks := false }, kinds := [], alts := [], laidByText := true, laidKinds := [.data, .pinned], laidTests := true, laidLooks := .later }
def CspMatchesSpecCardSaid : Prop := Claim7.holds Tryd.pinned (.plain (OpenSpec.ofChange cspMatchesSpecSpec)) cspMatchesSpecCard

/-- THE TIED CARD OF 'hstsstorelaw20.CspJoined'. -/
def cspJoinedCard : Claim7 := { stood := { row := cspJoinedRow, standIns := [], harness := (true, "61f5c49110d8c5a85052e367e018a32b846047e341a2bad922ca5672e2128d82"), looks := false }, kinds := [], alts := [], laidByText := true, laidKinds := [.data, .pinned], laidTests := true, laidLooks := .later }
def CspJoinedCardSaid : Prop := Claim7.holds Tryd.pinned (.plain (OpenSpec.ofChange cspJoinedSpec)) cspJoinedCard

/-- THE TIED CARD OF 'hstsstorelaw20.CspNames'. -/
def cspNamesCard : Claim7 := { stood := { row := cspNamesRow, standIns := [], harness := (true, "61f5c49110d8c5a85052e367e018a32b846047e341a2bad922ca5672e2128d82"), looks := false }, kinds := [], alts := [], laidByText := true, laidKinds := [.data, .pinned], laidTests := true, laidLooks := .later }
def CspNamesCardSaid : Prop := Claim7.holds Tryd.pinned (.plain (OpenSpec.ofChange cspNamesSpec)) cspNamesCard

/-- THE TIED CARD OF 'hstsstorelaw20.CspMore'. -/
def cspMoreCard : Claim7 := { stood := { row := cspMoreRow, standIns := [], harness := (true, "61f5c49110d8c5a85052e367e018a32b846047e341a2bad922ca5672e2128d82"), looks := false }, kinds := [], alts := [], laidByText := true, laidKinds := [.data, .pinned], laidTests := true, laidLooks := .later }
def CspMoreCardSaid : Prop := Claim7.holds Tryd.pinned (.plain (OpenSpec.ofChange cspMoreSpec)) cspMoreCard

/-- THE SECOND FORM's CARD OF 'hstsstorelaw04.SecondsMatchSpec'. -/
def secondsMatchSpecUptoCard : Claim7 := { stood := { row := secondsMatchSpecUptoRow, standIns := [], harness := (true, "61f5c49110d8c5a85052e367e018a32b846047e341a2bad922ca5672e2128d82"), looks := false }, kinds := [], alts := [], laidByText := true, laidKinds := [.data, .data, .data], laidTests := true, laidLooks := .later }
def SecondsMatchSpecUptoCardSaid : Prop := Claim7.holds Tryd.pinned (.plain (OpenSpec.upto secondsMatchSpecSpec)) secondsMatchSpecUptoCard

/-- THE SECOND FORM's CARD OF 'hstsstorelaw04.SecondsRoundTrip'. -/
def secondsRoundTripUptoCard : Claim7 := { stood := { row := secondsRoundTripUptoRow, standIns := [], harness := (true, "61f5c49110d8c5a85052e367e018a32b846047e341a2bad922ca5672e2128d82"), looks := false }, kinds := [], alts := [], laidByText := true, laidKinds := [.data, .data, .data], laidTests := true, laidLooks := .later }
def SecondsRoundTripUptoCardSaid : Prop := Claim7.holds Tryd.pinned (.plain (OpenSpec.upto secondsRoundTripSpec)) secondsRoundTripUptoCard

/-- THE SECOND FORM's CARD OF 'hstsstorelaw04.SecondsOrder'. -/
def secondsOrderUptoCard : Claim7 := { stood := { row := secondsOrderUptoRow, standIns := [], harness := (true, "61f5c49110d8c5a85052e367e018a32b846047e341a2bad922ca5672e2128d82"), looks := false }, kinds := [], alts := [], laidByText := true, laidKinds := [.data, .data, .data], laidTests := true, laidLooks := .later }
def SecondsOrderUptoCardSaid : Prop := Claim7.holds Tryd.pinned (.plain (OpenSpec.upto secondsOrderSpec)) secondsOrderUptoCard

/-- THE SECOND FORM's CARD OF 'hstsstorelaw04.SecondsExpiryLaws'. -/
def secondsExpiryLawsUptoCard : Claim7 := { stood := { row := secondsExpiryLawsUptoRow, standIns := [], harness := (true, "61f5c49110d8c5a85052e367e018a32b846047e341a2bad922ca5672e2128d82"), looks := false }, kinds := [], alts := [], laidByText := true, laidKinds := [.data, .data, .data], laidTests := true, laidLooks := .later }
def SecondsExpiryLawsUptoCardSaid : Prop := Claim7.holds Tryd.pinned (.plain (OpenSpec.upto secondsExpiryLawsSpec)) secondsExpiryLawsUptoCard

/-- THE SECOND FORM's CARD OF 'hstsstorelaw20.CspMatchesSpec'. -/
def cspMatchesSpecUptoCard : Claim7 := { stood := { row := cspMatchesSpecUptoRow, standIns := [], harness := (true, "61f5c49110d8c5a85052e367e018a32b846047e341a2bad922ca5672e2128d82"), looks := false }, kinds := [], alts := [], laidByText := true, laidKinds := [.data, .pinned], laidTests := true, laidLooks := .later }
def CspMatchesSpecUptoCardSaid : Prop := Claim7.holds Tryd.pinned (.plain (OpenSpec.upto cspMatchesSpecSpec)) cspMatchesSpecUptoCard

/-- THE SECOND FORM's CARD OF 'hstsstorelaw20.CspJoined'. -/
def cspJoinedUptoCard : Claim7 := { stood := { row := cspJoinedUptoRow, standIns := [], harness := (true, "61f5c49110d8c5a85052e367e018a32b846047e341a2bad922ca5672e2128d82"), looks := false }, kinds := [], alts := [], laidByText := true, laidKinds := [.data, .pinned], laidTests := true, laidLooks := .later }
def CspJoinedUptoCardSaid : Prop := Claim7.holds Tryd.pinned (.plain (OpenSpec.upto cspJoinedSpec)) cspJoinedUptoCard

/-- THE SECOND FORM's CARD OF 'hstsstorelaw20.CspNames'. -/
def cspNamesUptoCard : Claim7 := { stood := { row := cspNamesUptoRow, standIns := [], harness := (true, "61f5c49110d8c5a85052e367e018a32b846047e341a2bad922ca5672e2128d82"), looks := false }, kinds := [], alts := [], laidByText := true, laidKinds := [.data, .pinned], laidTests := true, laidLooks := .later }
def CspNamesUptoCardSaid : Prop := Claim7.holds Tryd.pinned (.plain (OpenSpec.upto cspNamesSpec)) cspNamesUptoCard

/-- THE SECOND FORM's CARD OF 'hstsstorelaw20.CspMore'. -/
def cspMoreUptoCard : Claim7 := { stood := { row := cspMoreUptoRow, standIns := [], harness := (true, "61f5c49110d8c5a85052e367e018a32b846047e341a2bad922ca5672e2128d82"), looks := false }, kinds := [], alts := [], laidByText := true, laidKinds := [.data, .pinned], laidTests := true, laidLooks := .later }
def CspMoreUptoCardSaid : Prop := Claim7.holds Tryd.pinned (.plain (OpenSpec.upto cspMoreSpec)) cspMoreUptoCard
end Rows
end Go.Proofs.YtmneleackpgfbaaDoor
