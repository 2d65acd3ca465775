/-
  No cell of these rows narrows 'for every input' (looked for: loops, veiled, ifaces, maps, wideKeys, modest, calm, conditions, laid).
  DERIVED. THE GIVEN ROWS OF THIS SEAT. 13 by the template 'for every input the law returns true; each argument reads behind the call as it read before'; 0 by the template 'total and deterministic' (their statements: YtjdkmidajhbefaaTotals.lean).
  GIVEN WITH THE SEED: the statements are not yours to turn. If you find one false, say at which input.
  Laid BY PROGRAM, IN A SANDBOX (cutbox-rows.mjs): the forced cells as the released guide's own fill.sh prints them over the translation e5cdf22a516f03d3… (all of the seat's roots in one cut). By AI agents, Wed Nov 11 2026. No macro, syntax, notation, axiom, sorry.
-/
import Derived.Test.YtjdkmidajhbefaaChecked
import GoSem.Claim
import GoSem.ClaimJoined
import GoSem.ClaimMapViews
import Derived.JoinedTies
import Derived.KernelRfl
namespace Go.Proofs.Ytjdkmidajhbefaa
/- THE CELL 'sum', in the pinned program and in every row, IS THE sha256 OF THE DUMP (.gsa) THAT YtjdkmidajhbefaaProg.lean LOADS. Nothing in Lean hashes anything: it is a label: what it is worth is what the hold of that sum in a sandbox is worth. -/
noncomputable def Try.pinned : Pinned := { name := "ytjdkmidajhbefaa", sum := "e5cdf22a516f03d3b8c9e79a6f802b6640e2fe99fc6847b242c8b7d63802f21b", checked := Try.checked }
namespace Rows
def none {H : Type} : Left H := { results := [], args := [] }

/-- 'hstsstorelaw17.QuotedParseMatchesSpec': WHATEVER THE INPUT: true; the input reads as it did. -/
def quotedParseMatchesSpecSpec : ChangeSpec := { name := "quotedParseMatchesSpec", fn := fun _ => fun
  | [d1, d2] => { results := [.lit (.bool true)], args := [d1, d2] }
  | _ => none }
def quotedParseMatchesSpecRow : OpenClaim := { program := "ytjdkmidajhbefaa", sum := "e5cdf22a516f03d3b8c9e79a6f802b6640e2fe99fc6847b242c8b7d63802f21b", func := "hstsstore/hstsstorelaw17.QuotedParseMatchesSpec", spec := "quotedParseMatchesSpec", inPlace := ["internal/abi.NoEscape"], apart := false }
def QuotedParseMatchesSpecSaid : Prop := quotedParseMatchesSpecRow.holds Try.pinned (OpenSpec.ofChange quotedParseMatchesSpecSpec)

/-- ITS FALSE NEIGHBOUR: 'it returns false'. Refute it at one input. -/
def quotedParseMatchesSpecWrong : ChangeSpec := { name := "quotedParseMatchesSpec", fn := fun _ => fun
  | [d1, d2] => { results := [.lit (.bool false)], args := [d1, d2] }
  | _ => none }
def QuotedParseMatchesSpecWrongFalsely : Prop := quotedParseMatchesSpecRow.holds Try.pinned (OpenSpec.ofChange quotedParseMatchesSpecWrong)

/-- 'hstsstorelaw17.QuotedQuoteMatchesSpec': WHATEVER THE INPUT: true; the input reads as it did. -/
def quotedQuoteMatchesSpecSpec : ChangeSpec := { name := "quotedQuoteMatchesSpec", fn := fun _ => fun
  | [d] => { results := [.lit (.bool true)], args := [d] }
  | _ => none }
def quotedQuoteMatchesSpecRow : OpenClaim := { program := "ytjdkmidajhbefaa", sum := "e5cdf22a516f03d3b8c9e79a6f802b6640e2fe99fc6847b242c8b7d63802f21b", func := "hstsstore/hstsstorelaw17.QuotedQuoteMatchesSpec", spec := "quotedQuoteMatchesSpec", inPlace := ["internal/abi.NoEscape"], apart := false }
def QuotedQuoteMatchesSpecSaid : Prop := quotedQuoteMatchesSpecRow.holds Try.pinned (OpenSpec.ofChange quotedQuoteMatchesSpecSpec)

/-- ITS FALSE NEIGHBOUR: 'it returns false'. Refute it at one input. -/
def quotedQuoteMatchesSpecWrong : ChangeSpec := { name := "quotedQuoteMatchesSpec", fn := fun _ => fun
  | [d] => { results := [.lit (.bool false)], args := [d] }
  | _ => none }
def QuotedQuoteMatchesSpecWrongFalsely : Prop := quotedQuoteMatchesSpecRow.holds Try.pinned (OpenSpec.ofChange quotedQuoteMatchesSpecWrong)

/-- 'hstsstorelaw17.QuotedRoundTrip': WHATEVER THE INPUT: true; the input reads as it did. -/
def quotedRoundTripSpec : ChangeSpec := { name := "quotedRoundTrip", fn := fun _ => fun
  | [d1, d2, d3] => { results := [.lit (.bool true)], args := [d1, d2, d3] }
  | _ => none }
def quotedRoundTripRow : OpenClaim := { program := "ytjdkmidajhbefaa", sum := "e5cdf22a516f03d3b8c9e79a6f802b6640e2fe99fc6847b242c8b7d63802f21b", func := "hstsstore/hstsstorelaw17.QuotedRoundTrip", spec := "quotedRoundTrip", inPlace := ["internal/abi.NoEscape"], apart := false }
def QuotedRoundTripSaid : Prop := quotedRoundTripRow.holds Try.pinned (OpenSpec.ofChange quotedRoundTripSpec)

/-- ITS FALSE NEIGHBOUR: 'it returns false'. Refute it at one input. -/
def quotedRoundTripWrong : ChangeSpec := { name := "quotedRoundTrip", fn := fun _ => fun
  | [d1, d2, d3] => { results := [.lit (.bool false)], args := [d1, d2, d3] }
  | _ => none }
def QuotedRoundTripWrongFalsely : Prop := quotedRoundTripRow.holds Try.pinned (OpenSpec.ofChange quotedRoundTripWrong)

/-- 'hstsstorelaw17.QuotedTokens': WHATEVER THE INPUT: true; the input reads as it did. -/
def quotedTokensSpec : ChangeSpec := { name := "quotedTokens", fn := fun _ => fun
  | [d1, d2] => { results := [.lit (.bool true)], args := [d1, d2] }
  | _ => none }
def quotedTokensRow : OpenClaim := { program := "ytjdkmidajhbefaa", sum := "e5cdf22a516f03d3b8c9e79a6f802b6640e2fe99fc6847b242c8b7d63802f21b", func := "hstsstore/hstsstorelaw17.QuotedTokens", spec := "quotedTokens", inPlace := ["internal/abi.NoEscape"], apart := false }
def QuotedTokensSaid : Prop := quotedTokensRow.holds Try.pinned (OpenSpec.ofChange quotedTokensSpec)

/-- ITS FALSE NEIGHBOUR: 'it returns false'. Refute it at one input. -/
def quotedTokensWrong : ChangeSpec := { name := "quotedTokens", fn := fun _ => fun
  | [d1, d2] => { results := [.lit (.bool false)], args := [d1, d2] }
  | _ => none }
def QuotedTokensWrongFalsely : Prop := quotedTokensRow.holds Try.pinned (OpenSpec.ofChange quotedTokensWrong)

/-- 'hstsstorelaw19.StsParseMatchesSpec': WHATEVER THE INPUT: true; the input reads as it did. -/
def stsParseMatchesSpecSpec : ChangeSpec := { name := "stsParseMatchesSpec", fn := fun _ => fun
  | [d] => { results := [.lit (.bool true)], args := [d] }
  | _ => none }
def stsParseMatchesSpecRow : OpenClaim := { program := "ytjdkmidajhbefaa", sum := "e5cdf22a516f03d3b8c9e79a6f802b6640e2fe99fc6847b242c8b7d63802f21b", func := "hstsstore/hstsstorelaw19.StsParseMatchesSpec", spec := "stsParseMatchesSpec", inPlace := ["internal/abi.NoEscape"], apart := false }
def StsParseMatchesSpecSaid : Prop := stsParseMatchesSpecRow.holds Try.pinned (OpenSpec.ofChange stsParseMatchesSpecSpec)

/-- ITS FALSE NEIGHBOUR: 'it returns false'. Refute it at one input. -/
def stsParseMatchesSpecWrong : ChangeSpec := { name := "stsParseMatchesSpec", fn := fun _ => fun
  | [d] => { results := [.lit (.bool false)], args := [d] }
  | _ => none }
def StsParseMatchesSpecWrongFalsely : Prop := stsParseMatchesSpecRow.holds Try.pinned (OpenSpec.ofChange stsParseMatchesSpecWrong)

/-- 'hstsstorelaw19.StsOrder': WHATEVER THE INPUT: true; the input reads as it did. -/
def stsOrderSpec : ChangeSpec := { name := "stsOrder", fn := fun _ => fun
  | [d1, d2, d3] => { results := [.lit (.bool true)], args := [d1, d2, d3] }
  | _ => none }
def stsOrderRow : OpenClaim := { program := "ytjdkmidajhbefaa", sum := "e5cdf22a516f03d3b8c9e79a6f802b6640e2fe99fc6847b242c8b7d63802f21b", func := "hstsstore/hstsstorelaw19.StsOrder", spec := "stsOrder", inPlace := ["internal/abi.NoEscape"], apart := false }
def StsOrderSaid : Prop := stsOrderRow.holds Try.pinned (OpenSpec.ofChange stsOrderSpec)

/-- ITS FALSE NEIGHBOUR: 'it returns false'. Refute it at one input. -/
def stsOrderWrong : ChangeSpec := { name := "stsOrder", fn := fun _ => fun
  | [d1, d2, d3] => { results := [.lit (.bool false)], args := [d1, d2, d3] }
  | _ => none }
def StsOrderWrongFalsely : Prop := stsOrderRow.holds Try.pinned (OpenSpec.ofChange stsOrderWrong)

/-- 'hstsstorelaw19.StsUnknown': WHATEVER THE INPUT: true; the input reads as it did. -/
def stsUnknownSpec : ChangeSpec := { name := "stsUnknown", fn := fun _ => fun
  | [d1, d2] => { results := [.lit (.bool true)], args := [d1, d2] }
  | _ => none }
def stsUnknownRow : OpenClaim := { program := "ytjdkmidajhbefaa", sum := "e5cdf22a516f03d3b8c9e79a6f802b6640e2fe99fc6847b242c8b7d63802f21b", func := "hstsstore/hstsstorelaw19.StsUnknown", spec := "stsUnknown", inPlace := ["internal/abi.NoEscape"], apart := false }
def StsUnknownSaid : Prop := stsUnknownRow.holds Try.pinned (OpenSpec.ofChange stsUnknownSpec)

/-- ITS FALSE NEIGHBOUR: 'it returns false'. Refute it at one input. -/
def stsUnknownWrong : ChangeSpec := { name := "stsUnknown", fn := fun _ => fun
  | [d1, d2] => { results := [.lit (.bool false)], args := [d1, d2] }
  | _ => none }
def StsUnknownWrongFalsely : Prop := stsUnknownRow.holds Try.pinned (OpenSpec.ofChange stsUnknownWrong)

/-- 'hstsstorelaw19.StsSaturates': WHATEVER THE INPUT: true; the input reads as it did. -/
def stsSaturatesSpec : ChangeSpec := { name := "stsSaturates", fn := fun _ => fun
  | [d1, d2, d3] => { results := [.lit (.bool true)], args := [d1, d2, d3] }
  | _ => none }
def stsSaturatesRow : OpenClaim := { program := "ytjdkmidajhbefaa", sum := "e5cdf22a516f03d3b8c9e79a6f802b6640e2fe99fc6847b242c8b7d63802f21b", func := "hstsstore/hstsstorelaw19.StsSaturates", spec := "stsSaturates", inPlace := ["internal/abi.NoEscape"], apart := false }
def StsSaturatesSaid : Prop := stsSaturatesRow.holds Try.pinned (OpenSpec.ofChange stsSaturatesSpec)

/-- ITS FALSE NEIGHBOUR: 'it returns false'. Refute it at one input. -/
def stsSaturatesWrong : ChangeSpec := { name := "stsSaturates", fn := fun _ => fun
  | [d1, d2, d3] => { results := [.lit (.bool false)], args := [d1, d2, d3] }
  | _ => none }
def StsSaturatesWrongFalsely : Prop := stsSaturatesRow.holds Try.pinned (OpenSpec.ofChange stsSaturatesWrong)

/-- 'hstsstorelaw18.DirectiveParseMatchesSpec': WHATEVER THE INPUT: true; the input reads as it did. -/
def directiveParseMatchesSpecSpec : ChangeSpec := { name := "directiveParseMatchesSpec", fn := fun _ => fun
  | [d] => { results := [.lit (.bool true)], args := [d] }
  | _ => none }
def directiveParseMatchesSpecRow : OpenClaim := { program := "ytjdkmidajhbefaa", sum := "e5cdf22a516f03d3b8c9e79a6f802b6640e2fe99fc6847b242c8b7d63802f21b", func := "hstsstore/hstsstorelaw18.DirectiveParseMatchesSpec", spec := "directiveParseMatchesSpec", inPlace := ["internal/abi.NoEscape", "internal/bytealg.MakeNoZero"], apart := false }
def DirectiveParseMatchesSpecSaid : Prop := directiveParseMatchesSpecRow.holds Try.pinned (OpenSpec.ofChange directiveParseMatchesSpecSpec)

/-- ITS FALSE NEIGHBOUR: 'it returns false'. Refute it at one input. -/
def directiveParseMatchesSpecWrong : ChangeSpec := { name := "directiveParseMatchesSpec", fn := fun _ => fun
  | [d] => { results := [.lit (.bool false)], args := [d] }
  | _ => none }
def DirectiveParseMatchesSpecWrongFalsely : Prop := directiveParseMatchesSpecRow.holds Try.pinned (OpenSpec.ofChange directiveParseMatchesSpecWrong)

/-- 'hstsstorelaw18.DirectiveFormatMatchesSpec': WHATEVER THE INPUT: true; the input reads as it did. -/
def directiveFormatMatchesSpecSpec : ChangeSpec := { name := "directiveFormatMatchesSpec", fn := fun _ => fun
  | [d] => { results := [.lit (.bool true)], args := [d] }
  | _ => none }
def directiveFormatMatchesSpecRow : OpenClaim := { program := "ytjdkmidajhbefaa", sum := "e5cdf22a516f03d3b8c9e79a6f802b6640e2fe99fc6847b242c8b7d63802f21b", func := "hstsstore/hstsstorelaw18.DirectiveFormatMatchesSpec", spec := "directiveFormatMatchesSpec", inPlace := ["internal/abi.NoEscape", "internal/bytealg.MakeNoZero"], apart := false }
def DirectiveFormatMatchesSpecSaid : Prop := directiveFormatMatchesSpecRow.holds Try.pinned (OpenSpec.ofChange directiveFormatMatchesSpecSpec)

/-- ITS FALSE NEIGHBOUR: 'it returns false'. Refute it at one input. -/
def directiveFormatMatchesSpecWrong : ChangeSpec := { name := "directiveFormatMatchesSpec", fn := fun _ => fun
  | [d] => { results := [.lit (.bool false)], args := [d] }
  | _ => none }
def DirectiveFormatMatchesSpecWrongFalsely : Prop := directiveFormatMatchesSpecRow.holds Try.pinned (OpenSpec.ofChange directiveFormatMatchesSpecWrong)

/-- 'hstsstorelaw18.DirectiveRoundTrip': WHATEVER THE INPUT: true; the input reads as it did. -/
def directiveRoundTripSpec : ChangeSpec := { name := "directiveRoundTrip", fn := fun _ => fun
  | [d1, d2] => { results := [.lit (.bool true)], args := [d1, d2] }
  | _ => none }
def directiveRoundTripRow : OpenClaim := { program := "ytjdkmidajhbefaa", sum := "e5cdf22a516f03d3b8c9e79a6f802b6640e2fe99fc6847b242c8b7d63802f21b", func := "hstsstore/hstsstorelaw18.DirectiveRoundTrip", spec := "directiveRoundTrip", inPlace := ["internal/abi.NoEscape", "internal/bytealg.MakeNoZero"], apart := false }
def DirectiveRoundTripSaid : Prop := directiveRoundTripRow.holds Try.pinned (OpenSpec.ofChange directiveRoundTripSpec)

/-- ITS FALSE NEIGHBOUR: 'it returns false'. Refute it at one input. -/
def directiveRoundTripWrong : ChangeSpec := { name := "directiveRoundTrip", fn := fun _ => fun
  | [d1, d2] => { results := [.lit (.bool false)], args := [d1, d2] }
  | _ => none }
def DirectiveRoundTripWrongFalsely : Prop := directiveRoundTripRow.holds Try.pinned (OpenSpec.ofChange directiveRoundTripWrong)

/-- 'hstsstorelaw18.DirectiveBlanks': WHATEVER THE INPUT: true; the input reads as it did. -/
def directiveBlanksSpec : ChangeSpec := { name := "directiveBlanks", fn := fun _ => fun
  | [d1, d2] => { results := [.lit (.bool true)], args := [d1, d2] }
  | _ => none }
def directiveBlanksRow : OpenClaim := { program := "ytjdkmidajhbefaa", sum := "e5cdf22a516f03d3b8c9e79a6f802b6640e2fe99fc6847b242c8b7d63802f21b", func := "hstsstore/hstsstorelaw18.DirectiveBlanks", spec := "directiveBlanks", inPlace := ["internal/abi.NoEscape", "internal/bytealg.MakeNoZero"], apart := false }
def DirectiveBlanksSaid : Prop := directiveBlanksRow.holds Try.pinned (OpenSpec.ofChange directiveBlanksSpec)

/-- ITS FALSE NEIGHBOUR: 'it returns false'. Refute it at one input. -/
def directiveBlanksWrong : ChangeSpec := { name := "directiveBlanks", fn := fun _ => fun
  | [d1, d2] => { results := [.lit (.bool false)], args := [d1, d2] }
  | _ => none }
def DirectiveBlanksWrongFalsely : Prop := directiveBlanksRow.holds Try.pinned (OpenSpec.ofChange directiveBlanksWrong)

/-- 'hstsstorelaw18.DirectiveConcat': WHATEVER THE INPUT: true; the input reads as it did. -/
def directiveConcatSpec : ChangeSpec := { name := "directiveConcat", fn := fun _ => fun
  | [d1, d2] => { results := [.lit (.bool true)], args := [d1, d2] }
  | _ => none }
def directiveConcatRow : OpenClaim := { program := "ytjdkmidajhbefaa", sum := "e5cdf22a516f03d3b8c9e79a6f802b6640e2fe99fc6847b242c8b7d63802f21b", func := "hstsstore/hstsstorelaw18.DirectiveConcat", spec := "directiveConcat", inPlace := ["internal/abi.NoEscape", "internal/bytealg.MakeNoZero"], apart := false }
def DirectiveConcatSaid : Prop := directiveConcatRow.holds Try.pinned (OpenSpec.ofChange directiveConcatSpec)

/-- ITS FALSE NEIGHBOUR: 'it returns false'. Refute it at one input. -/
def directiveConcatWrong : ChangeSpec := { name := "directiveConcat", fn := fun _ => fun
  | [d1, d2] => { results := [.lit (.bool false)], args := [d1, d2] }
  | _ => none }
def DirectiveConcatWrongFalsely : Prop := directiveConcatRow.holds Try.pinned (OpenSpec.ofChange directiveConcatWrong)

/- THE SECOND FORM. 'bulk': how many values and letters a reading holds, each counted each time it is reached (what is shared counts as often as it is met; a slice's spare places count too). A statement '..UptoSaid' is the law's where the arguments, and the package variables that the reading takes, are together of bulk at most 1048576: NARROWER than '..Said'. Prove '..Said' where nothing that the law and all that it calls make is longer than what came in: it says more and counts as full. Else prove '..UptoSaid'. A law counts once. -/
mutual
def uptoBulk {H : Type} : DataW H → Nat
  | .lit (.string bytes) => bytes.length + 1
  | .lit _ => 1
  | .nil => 1
  | .ptr d => uptoBulk d + 1
  | .slice elems spare => uptoBulkAll elems + uptoBulkAll spare + 1
  | .agg parts => uptoBulkAll parts + 1
  | .iface _ d => uptoBulk d + 1
  | .map entries => uptoBulkEntries entries + 1
  | .held _ => 1
def uptoBulkAll {H : Type} : List (DataW H) → Nat
  | [] => 0
  | d :: r => uptoBulk d + uptoBulkAll r
def uptoBulkEntries {H : Type} : List (Lit × DataW H) → Nat
  | [] => 0
  | x :: r => uptoBulkEntry x + uptoBulkEntries r
def uptoBulkEntry {H : Type} : Lit × DataW H → Nat
  | (.string bytes, d) => bytes.length + uptoBulk d + 1
  | (_, d) => uptoBulk d + 1
 end
def uptoSmall : (H : Type) → List (DataW H) → Bool := fun _ ds => decide (uptoBulkAll ds ≤ 1048576)
def OpenSpec.upto (s : _root_.Go.ChangeSpec) : _root_.Go.OpenSpec := { _root_.Go.OpenSpec.ofChange s with cond := some uptoSmall }

/-- 'hstsstorelaw17.QuotedParseMatchesSpec', WHERE WHAT IT READS IS OF BULK AT MOST 1048576: true; the input reads as it did. -/
def quotedParseMatchesSpecUptoRow : OpenClaim := { program := "ytjdkmidajhbefaa", sum := "e5cdf22a516f03d3b8c9e79a6f802b6640e2fe99fc6847b242c8b7d63802f21b", func := "hstsstore/hstsstorelaw17.QuotedParseMatchesSpec", spec := "quotedParseMatchesSpec", inPlace := ["internal/abi.NoEscape"], apart := false, narrowed := true }
def QuotedParseMatchesSpecUptoSaid : Prop := quotedParseMatchesSpecUptoRow.holds Try.pinned (OpenSpec.upto quotedParseMatchesSpecSpec)

/-- 'hstsstorelaw17.QuotedQuoteMatchesSpec', WHERE WHAT IT READS IS OF BULK AT MOST 1048576: true; the input reads as it did. -/
def quotedQuoteMatchesSpecUptoRow : OpenClaim := { program := "ytjdkmidajhbefaa", sum := "e5cdf22a516f03d3b8c9e79a6f802b6640e2fe99fc6847b242c8b7d63802f21b", func := "hstsstore/hstsstorelaw17.QuotedQuoteMatchesSpec", spec := "quotedQuoteMatchesSpec", inPlace := ["internal/abi.NoEscape"], apart := false, narrowed := true }
def QuotedQuoteMatchesSpecUptoSaid : Prop := quotedQuoteMatchesSpecUptoRow.holds Try.pinned (OpenSpec.upto quotedQuoteMatchesSpecSpec)

/-- 'hstsstorelaw17.QuotedRoundTrip', WHERE WHAT IT READS IS OF BULK AT MOST 1048576: true; the input reads as it did. -/
def quotedRoundTripUptoRow : OpenClaim := { program := "ytjdkmidajhbefaa", sum := "e5cdf22a516f03d3b8c9e79a6f802b6640e2fe99fc6847b242c8b7d63802f21b", func := "hstsstore/hstsstorelaw17.QuotedRoundTrip", spec := "quotedRoundTrip", inPlace := ["internal/abi.NoEscape"], apart := false, narrowed := true }
def QuotedRoundTripUptoSaid : Prop := quotedRoundTripUptoRow.holds Try.pinned (OpenSpec.upto quotedRoundTripSpec)

/-- 'hstsstorelaw17.QuotedTokens', WHERE WHAT IT READS IS OF BULK AT MOST 1048576: true; the input reads as it did. -/
def quotedTokensUptoRow : OpenClaim := { program := "ytjdkmidajhbefaa", sum := "e5cdf22a516f03d3b8c9e79a6f802b6640e2fe99fc6847b242c8b7d63802f21b", func := "hstsstore/hstsstorelaw17.QuotedTokens", spec := "quotedTokens", inPlace := ["internal/abi.NoEscape"], apart := false, narrowed := true }
def QuotedTokensUptoSaid : Prop := quotedTokensUptoRow.holds Try.pinned (OpenSpec.upto quotedTokensSpec)

/-- 'hstsstorelaw19.StsParseMatchesSpec', WHERE WHAT IT READS IS OF BULK AT MOST 1048576: true; the input reads as it did. -/
def stsParseMatchesSpecUptoRow : OpenClaim := { program := "ytjdkmidajhbefaa", sum := "e5cdf22a516f03d3b8c9e79a6f802b6640e2fe99fc6847b242c8b7d63802f21b", func := "hstsstore/hstsstorelaw19.StsParseMatchesSpec", spec := "stsParseMatchesSpec", inPlace := ["internal/abi.NoEscape"], apart := false, narrowed := true }
def StsParseMatchesSpecUptoSaid : Prop := stsParseMatchesSpecUptoRow.holds Try.pinned (OpenSpec.upto stsParseMatchesSpecSpec)

/-- 'hstsstorelaw19.StsOrder', WHERE WHAT IT READS IS OF BULK AT MOST 1048576: true; the input reads as it did. -/
def stsOrderUptoRow : OpenClaim := { program := "ytjdkmidajhbefaa", sum := "e5cdf22a516f03d3b8c9e79a6f802b6640e2fe99fc6847b242c8b7d63802f21b", func := "hstsstore/hstsstorelaw19.StsOrder", spec := "stsOrder", inPlace := ["internal/abi.NoEscape"], apart := false, narrowed := true }
def StsOrderUptoSaid : Prop := stsOrderUptoRow.holds Try.pinned (OpenSpec.upto stsOrderSpec)

/-- 'hstsstorelaw19.StsUnknown', WHERE WHAT IT READS IS OF BULK AT MOST 1048576: true; the input reads as it did. -/
def stsUnknownUptoRow : OpenClaim := { program := "ytjdkmidajhbefaa", sum := "e5cdf22a516f03d3b8c9e79a6f802b6640e2fe99fc6847b242c8b7d63802f21b", func := "hstsstore/hstsstorelaw19.StsUnknown", spec := "stsUnknown", inPlace := ["internal/abi.NoEscape"], apart := false, narrowed := true }
def StsUnknownUptoSaid : Prop := stsUnknownUptoRow.holds Try.pinned (OpenSpec.upto stsUnknownSpec)

/-- 'hstsstorelaw19.StsSaturates', WHERE WHAT IT READS IS OF BULK AT MOST 1048576: true; the input reads as it did. -/
def stsSaturatesUptoRow : OpenClaim := { program := "ytjdkmidajhbefaa", sum := "e5cdf22a516f03d3b8c9e79a6f802b6640e2fe99fc6847b242c8b7d63802f21b", func := "hstsstore/hstsstorelaw19.StsSaturates", spec := "stsSaturates", inPlace := ["internal/abi.NoEscape"], apart := false, narrowed := true }
def StsSaturatesUptoSaid : Prop := stsSaturatesUptoRow.holds Try.pinned (OpenSpec.upto stsSaturatesSpec)

/-- 'hstsstorelaw18.DirectiveParseMatchesSpec', WHERE WHAT IT READS IS OF BULK AT MOST 1048576: true; the input reads as it did. -/
def directiveParseMatchesSpecUptoRow : OpenClaim := { program := "ytjdkmidajhbefaa", sum := "e5cdf22a516f03d3b8c9e79a6f802b6640e2fe99fc6847b242c8b7d63802f21b", func := "hstsstore/hstsstorelaw18.DirectiveParseMatchesSpec", spec := "directiveParseMatchesSpec", inPlace := ["internal/abi.NoEscape", "internal/bytealg.MakeNoZero"], apart := false, narrowed := true }
def DirectiveParseMatchesSpecUptoSaid : Prop := directiveParseMatchesSpecUptoRow.holds Try.pinned (OpenSpec.upto directiveParseMatchesSpecSpec)

/-- 'hstsstorelaw18.DirectiveFormatMatchesSpec', WHERE WHAT IT READS IS OF BULK AT MOST 1048576: true; the input reads as it did. -/
def directiveFormatMatchesSpecUptoRow : OpenClaim := { program := "ytjdkmidajhbefaa", sum := "e5cdf22a516f03d3b8c9e79a6f802b6640e2fe99fc6847b242c8b7d63802f21b", func := "hstsstore/hstsstorelaw18.DirectiveFormatMatchesSpec", spec := "directiveFormatMatchesSpec", inPlace := ["internal/abi.NoEscape", "internal/bytealg.MakeNoZero"], apart := false, narrowed := true }
def DirectiveFormatMatchesSpecUptoSaid : Prop := directiveFormatMatchesSpecUptoRow.holds Try.pinned (OpenSpec.upto directiveFormatMatchesSpecSpec)

/-- 'hstsstorelaw18.DirectiveRoundTrip', WHERE WHAT IT READS IS OF BULK AT MOST 1048576: true; the input reads as it did. -/
def directiveRoundTripUptoRow : OpenClaim := { program := "ytjdkmidajhbefaa", sum := "e5cdf22a516f03d3b8c9e79a6f802b6640e2fe99fc6847b242c8b7d63802f21b", func := "hstsstore/hstsstorelaw18.DirectiveRoundTrip", spec := "directiveRoundTrip", inPlace := ["internal/abi.NoEscape", "internal/bytealg.MakeNoZero"], apart := false, narrowed := true }
def DirectiveRoundTripUptoSaid : Prop := directiveRoundTripUptoRow.holds Try.pinned (OpenSpec.upto directiveRoundTripSpec)

/-- 'hstsstorelaw18.DirectiveBlanks', WHERE WHAT IT READS IS OF BULK AT MOST 1048576: true; the input reads as it did. -/
def directiveBlanksUptoRow : OpenClaim := { program := "ytjdkmidajhbefaa", sum := "e5cdf22a516f03d3b8c9e79a6f802b6640e2fe99fc6847b242c8b7d63802f21b", func := "hstsstore/hstsstorelaw18.DirectiveBlanks", spec := "directiveBlanks", inPlace := ["internal/abi.NoEscape", "internal/bytealg.MakeNoZero"], apart := false, narrowed := true }
def DirectiveBlanksUptoSaid : Prop := directiveBlanksUptoRow.holds Try.pinned (OpenSpec.upto directiveBlanksSpec)

/-- 'hstsstorelaw18.DirectiveConcat', WHERE WHAT IT READS IS OF BULK AT MOST 1048576: true; the input reads as it did. -/
def directiveConcatUptoRow : OpenClaim := { program := "ytjdkmidajhbefaa", sum := "e5cdf22a516f03d3b8c9e79a6f802b6640e2fe99fc6847b242c8b7d63802f21b", func := "hstsstore/hstsstorelaw18.DirectiveConcat", spec := "directiveConcat", inPlace := ["internal/abi.NoEscape", "internal/bytealg.MakeNoZero"], apart := false, narrowed := true }
def DirectiveConcatUptoSaid : Prop := directiveConcatUptoRow.holds Try.pinned (OpenSpec.upto directiveConcatSpec)

end Rows
end Go.Proofs.Ytjdkmidajhbefaa
