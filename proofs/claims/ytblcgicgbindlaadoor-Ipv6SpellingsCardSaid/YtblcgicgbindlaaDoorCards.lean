/-
  DERIVED. GIVEN WITH THE SEED: THE CARDS: each row of YtblcgicgbindlaaDoorRows.lean that lists a variable, with what it lists TIED to the program's text (the seventh form; the later family's looks); each row that meets fmt, with fmt's text TOLD by the authors' own Lean function (tested against real Go, not proved from fmt's source: count such statements apart). THE CARD IS WHAT COUNTS. Prove the row's statement (the work); the ties are given (YtblcgicgbindlaaDoorTie.lean); close each card by the builder's one call (the guide's Derived/Test/ToyasCard.lean, 'card_holds'). Laid BY PROGRAM, IN A SANDBOX (cutbox-door.mjs). By AI agents, Wed Nov 11 2026. No macro, syntax, notation, axiom, sorry.
-/
import Derived.Test.YtblcgicgbindlaaDoorRows
import GoSem.ClaimSeven
namespace Go.Proofs.YtblcgicgbindlaaDoor
namespace Rows

/-- THE TIED CARD OF 'hstsstorelaw10.Ipv4MatchesSpec'. -/
def ipv4MatchesSpecCard : Claim7 := { stood := { row := ipv4MatchesSpecRow, standIns := [], harness := (true, "167b62b017d71f1b330fd2c47f8526bc4dd2a3ab1485d1abe57d827d1ef93f54"), looks := false }, kinds := [], alts := [], laidByText := true, laidKinds := [.data, .data, .data, .data, .pinned], laidTests := true, laidLooks := .later }
def Ipv4MatchesSpecCardSaid : Prop := Claim7.holds Tryd.pinned (.plain (OpenSpec.ofChange ipv4MatchesSpecSpec)) ipv4MatchesSpecCard

/-- THE TIED CARD OF 'hstsstorelaw10.Ipv4RoundTrip'. -/
def ipv4RoundTripCard : Claim7 := { stood := { row := ipv4RoundTripRow, standIns := [], harness := (true, "167b62b017d71f1b330fd2c47f8526bc4dd2a3ab1485d1abe57d827d1ef93f54"), looks := false }, kinds := [], alts := [], laidByText := true, laidKinds := [.data, .data, .data, .data, .pinned], laidTests := true, laidLooks := .later }
def Ipv4RoundTripCardSaid : Prop := Claim7.holds Tryd.pinned (.plain (OpenSpec.ofChange ipv4RoundTripSpec)) ipv4RoundTripCard

/-- THE TIED CARD OF 'hstsstorelaw10.Ipv4Spellings'. -/
def ipv4SpellingsCard : Claim7 := { stood := { row := ipv4SpellingsRow, standIns := [], harness := (true, "167b62b017d71f1b330fd2c47f8526bc4dd2a3ab1485d1abe57d827d1ef93f54"), looks := false }, kinds := [], alts := [], laidByText := true, laidKinds := [.data, .data, .data, .data, .pinned], laidTests := true, laidLooks := .later }
def Ipv4SpellingsCardSaid : Prop := Claim7.holds Tryd.pinned (.plain (OpenSpec.ofChange ipv4SpellingsSpec)) ipv4SpellingsCard

/-- THE TIED CARD OF 'hstsstorelaw10.Ipv4TooLarge'. -/
def ipv4TooLargeCard : Claim7 := { stood := { row := ipv4TooLargeRow, standIns := [], harness := (true, "167b62b017d71f1b330fd2c47f8526bc4dd2a3ab1485d1abe57d827d1ef93f54"), looks := false }, kinds := [], alts := [], laidByText := true, laidKinds := [.data, .data, .data, .data, .pinned], laidTests := true, laidLooks := .later }
def Ipv4TooLargeCardSaid : Prop := Claim7.holds Tryd.pinned (.plain (OpenSpec.ofChange ipv4TooLargeSpec)) ipv4TooLargeCard

/-- THE TIED CARD OF 'hstsstorelaw11.Ipv6MatchesSpec'. -/
def ipv6MatchesSpecCard : Claim7 := { stood := { row := ipv6MatchesSpecRow, standIns := [], harness := (true, "167b62b017d71f1b330fd2c47f8526bc4dd2a3ab1485d1abe57d827d1ef93f54"), looks := false }, kinds := [], alts := [], laidByText := true, laidKinds := [.data, .data, .data, .data, .pinned], laidTests := true, laidLooks := .later }
def Ipv6MatchesSpecCardSaid : Prop := Claim7.holds Tryd.pinned (.plain (OpenSpec.ofChange ipv6MatchesSpecSpec)) ipv6MatchesSpecCard

/-- THE TIED CARD OF 'hstsstorelaw11.Ipv6RoundTrip'. -/
def ipv6RoundTripCard : Claim7 := { stood := { row := ipv6RoundTripRow, standIns := [], harness := (true, "167b62b017d71f1b330fd2c47f8526bc4dd2a3ab1485d1abe57d827d1ef93f54"), looks := false }, kinds := [], alts := [], laidByText := true, laidKinds := [.data, .data, .data, .data, .pinned], laidTests := true, laidLooks := .later }
def Ipv6RoundTripCardSaid : Prop := Claim7.holds Tryd.pinned (.plain (OpenSpec.ofChange ipv6RoundTripSpec)) ipv6RoundTripCard

/-- THE TIED CARD OF 'hstsstorelaw11.Ipv6Spellings'. -/
def ipv6SpellingsCard : Claim7 := { stood := { row := ipv6SpellingsRow, standIns := [], harness := (true, "167b62b017d71f1b330fd2c47f8526bc4dd2a3ab1485d1abe57d827d1ef93f54"), looks := false }, kinds := [], alts := [], laidByText := true, laidKinds := [.data, .data, .data, .data, .pinned], laidTests := true, laidLooks := .later }
def Ipv6SpellingsCardSaid : Prop := Claim7.holds Tryd.pinned (.plain (OpenSpec.ofChange ipv6SpellingsSpec)) ipv6SpellingsCard

/-- THE TIED CARD OF 'hstsstorelaw11.Ipv6Canonical'. -/
def ipv6CanonicalCard : Claim7 := { stood := { row := ipv6CanonicalRow, standIns := [], harness := (true, "167b62b017d71f1b330fd2c47f8526bc4dd2a3ab1485d1abe57d827d1ef93f54"), looks := false }, kinds := [], alts := [], laidByText := true, laidKinds := [.data, .data, .data, .data, .pinned], laidTests := true, laidLooks := .later }
def Ipv6CanonicalCardSaid : Prop := Claim7.holds Tryd.pinned (.plain (OpenSpec.ofChange ipv6CanonicalSpec)) ipv6CanonicalCard

/-- THE SECOND FORM's CARD OF 'hstsstorelaw10.Ipv4MatchesSpec'. -/
def ipv4MatchesSpecUptoCard : Claim7 := { stood := { row := ipv4MatchesSpecUptoRow, standIns := [], harness := (true, "167b62b017d71f1b330fd2c47f8526bc4dd2a3ab1485d1abe57d827d1ef93f54"), looks := false }, kinds := [], alts := [], laidByText := true, laidKinds := [.data, .data, .data, .data, .pinned], laidTests := true, laidLooks := .later }
def Ipv4MatchesSpecUptoCardSaid : Prop := Claim7.holds Tryd.pinned (.plain (OpenSpec.upto ipv4MatchesSpecSpec)) ipv4MatchesSpecUptoCard

/-- THE SECOND FORM's CARD OF 'hstsstorelaw10.Ipv4RoundTrip'. -/
def ipv4RoundTripUptoCard : Claim7 := { stood := { row := ipv4RoundTripUptoRow, standIns := [], harness := (true, "167b62b017d71f1b330fd2c47f8526bc4dd2a3ab1485d1abe57d827d1ef93f54"), looks := false }, kinds := [], alts := [], laidByText := true, laidKinds := [.data, .data, .data, .data, .pinned], laidTests := true, laidLooks := .later }
def Ipv4RoundTripUptoCardSaid : Prop := Claim7.holds Tryd.pinned (.plain (OpenSpec.upto ipv4RoundTripSpec)) ipv4RoundTripUptoCard

/-- THE SECOND FORM's CARD OF 'hstsstorelaw10.Ipv4Spellings'. -/
def ipv4SpellingsUptoCard : Claim7 := { stood := { row := ipv4SpellingsUptoRow, standIns := [], harness := (true, "167b62b017d71f1b330fd2c47f8526bc4dd2a3ab1485d1abe57d827d1ef93f54"), looks := false }, kinds := [], alts := [], laidByText := true, laidKinds := [.data, .data, .data, .data, .pinned], laidTests := true, laidLooks := .later }
def Ipv4SpellingsUptoCardSaid : Prop := Claim7.holds Tryd.pinned (.plain (OpenSpec.upto ipv4SpellingsSpec)) ipv4SpellingsUptoCard

/-- THE SECOND FORM's CARD OF 'hstsstorelaw10.Ipv4TooLarge'. -/
def ipv4TooLargeUptoCard : Claim7 := { stood := { row := ipv4TooLargeUptoRow, standIns := [], harness := (true, "167b62b017d71f1b330fd2c47f8526bc4dd2a3ab1485d1abe57d827d1ef93f54"), looks := false }, kinds := [], alts := [], laidByText := true, laidKinds := [.data, .data, .data, .data, .pinned], laidTests := true, laidLooks := .later }
def Ipv4TooLargeUptoCardSaid : Prop := Claim7.holds Tryd.pinned (.plain (OpenSpec.upto ipv4TooLargeSpec)) ipv4TooLargeUptoCard

/-- THE SECOND FORM's CARD OF 'hstsstorelaw11.Ipv6MatchesSpec'. -/
def ipv6MatchesSpecUptoCard : Claim7 := { stood := { row := ipv6MatchesSpecUptoRow, standIns := [], harness := (true, "167b62b017d71f1b330fd2c47f8526bc4dd2a3ab1485d1abe57d827d1ef93f54"), looks := false }, kinds := [], alts := [], laidByText := true, laidKinds := [.data, .data, .data, .data, .pinned], laidTests := true, laidLooks := .later }
def Ipv6MatchesSpecUptoCardSaid : Prop := Claim7.holds Tryd.pinned (.plain (OpenSpec.upto ipv6MatchesSpecSpec)) ipv6MatchesSpecUptoCard

/-- THE SECOND FORM's CARD OF 'hstsstorelaw11.Ipv6RoundTrip'. -/
def ipv6RoundTripUptoCard : Claim7 := { stood := { row := ipv6RoundTripUptoRow, standIns := [], harness := (true, "167b62b017d71f1b330fd2c47f8526bc4dd2a3ab1485d1abe57d827d1ef93f54"), looks := false }, kinds := [], alts := [], laidByText := true, laidKinds := [.data, .data, .data, .data, .pinned], laidTests := true, laidLooks := .later }
def Ipv6RoundTripUptoCardSaid : Prop := Claim7.holds Tryd.pinned (.plain (OpenSpec.upto ipv6RoundTripSpec)) ipv6RoundTripUptoCard

/-- THE SECOND FORM's CARD OF 'hstsstorelaw11.Ipv6Spellings'. -/
def ipv6SpellingsUptoCard : Claim7 := { stood := { row := ipv6SpellingsUptoRow, standIns := [], harness := (true, "167b62b017d71f1b330fd2c47f8526bc4dd2a3ab1485d1abe57d827d1ef93f54"), looks := false }, kinds := [], alts := [], laidByText := true, laidKinds := [.data, .data, .data, .data, .pinned], laidTests := true, laidLooks := .later }
def Ipv6SpellingsUptoCardSaid : Prop := Claim7.holds Tryd.pinned (.plain (OpenSpec.upto ipv6SpellingsSpec)) ipv6SpellingsUptoCard

/-- THE SECOND FORM's CARD OF 'hstsstorelaw11.Ipv6Canonical'. -/
def ipv6CanonicalUptoCard : Claim7 := { stood := { row := ipv6CanonicalUptoRow, standIns := [], harness := (true, "167b62b017d71f1b330fd2c47f8526bc4dd2a3ab1485d1abe57d827d1ef93f54"), looks := false }, kinds := [], alts := [], laidByText := true, laidKinds := [.data, .data, .data, .data, .pinned], laidTests := true, laidLooks := .later }
def Ipv6CanonicalUptoCardSaid : Prop := Claim7.holds Tryd.pinned (.plain (OpenSpec.upto ipv6CanonicalSpec)) ipv6CanonicalUptoCard
end Rows
end Go.Proofs.YtblcgicgbindlaaDoor
