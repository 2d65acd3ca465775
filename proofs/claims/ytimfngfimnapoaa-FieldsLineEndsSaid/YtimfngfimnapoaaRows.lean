/-
  No cell of these rows narrows 'for every input' (looked for: loops, veiled, ifaces, maps, wideKeys, modest, calm, conditions, laid).
  DERIVED. THE GIVEN ROWS OF THIS SEAT. 5 by the template 'for every input the law returns true; each argument reads behind the call as it read before'; 0 by the template 'total and deterministic' (their statements: YtimfngfimnapoaaTotals.lean).
  GIVEN WITH THE SEED: the statements are not yours to turn. If you find one false, say at which input.
  Laid BY PROGRAM, IN A SANDBOX (cutbox-rows.mjs): the forced cells as the released guide's own fill.sh prints them over the translation 5026a5215830c274… (all of the seat's roots in one cut). By AI agents, Wed Nov 11 2026. No macro, syntax, notation, axiom, sorry.
-/
import Derived.Test.YtimfngfimnapoaaChecked
import GoSem.Claim
import GoSem.ClaimJoined
import GoSem.ClaimMapViews
import Derived.JoinedTies
import Derived.KernelRfl
namespace Go.Proofs.Ytimfngfimnapoaa
/- THE CELL 'sum', in the pinned program and in every row, IS THE sha256 OF THE DUMP (.gsa) THAT YtimfngfimnapoaaProg.lean LOADS. Nothing in Lean hashes anything: it is a label: what it is worth is what the hold of that sum in a sandbox is worth. -/
noncomputable def Try.pinned : Pinned := { name := "ytimfngfimnapoaa", sum := "5026a5215830c2743ef2a29029366cf28465220f2b90f6507c4f5dee12a25f02", checked := Try.checked }
namespace Rows
def none {H : Type} : Left H := { results := [], args := [] }

/-- 'hstsstorelaw21.FieldsParseMatchesSpec': WHATEVER THE INPUT: true; the input reads as it did. -/
def fieldsParseMatchesSpecSpec : ChangeSpec := { name := "fieldsParseMatchesSpec", fn := fun _ => fun
  | [d] => { results := [.lit (.bool true)], args := [d] }
  | _ => none }
def fieldsParseMatchesSpecRow : OpenClaim := { program := "ytimfngfimnapoaa", sum := "5026a5215830c2743ef2a29029366cf28465220f2b90f6507c4f5dee12a25f02", func := "hstsstore/hstsstorelaw21.FieldsParseMatchesSpec", spec := "fieldsParseMatchesSpec", inPlace := ["internal/bytealg.IndexByteString", "internal/bytealg.IndexString"], unfollowed := true, recurses := true, named := ["internal/bytealg.MaxLen"], apart := false }
def FieldsParseMatchesSpecSaid : Prop := fieldsParseMatchesSpecRow.holds Try.pinned (OpenSpec.ofChange fieldsParseMatchesSpecSpec)

/-- ITS FALSE NEIGHBOUR: 'it returns false'. Refute it at one input. -/
def fieldsParseMatchesSpecWrong : ChangeSpec := { name := "fieldsParseMatchesSpec", fn := fun _ => fun
  | [d] => { results := [.lit (.bool false)], args := [d] }
  | _ => none }
def FieldsParseMatchesSpecWrongFalsely : Prop := fieldsParseMatchesSpecRow.holds Try.pinned (OpenSpec.ofChange fieldsParseMatchesSpecWrong)

/-- 'hstsstorelaw21.FieldsLineEnds': WHATEVER THE INPUT: true; the input reads as it did. -/
def fieldsLineEndsSpec : ChangeSpec := { name := "fieldsLineEnds", fn := fun _ => fun
  | [d1, d2] => { results := [.lit (.bool true)], args := [d1, d2] }
  | _ => none }
def fieldsLineEndsRow : OpenClaim := { program := "ytimfngfimnapoaa", sum := "5026a5215830c2743ef2a29029366cf28465220f2b90f6507c4f5dee12a25f02", func := "hstsstore/hstsstorelaw21.FieldsLineEnds", spec := "fieldsLineEnds", inPlace := ["internal/bytealg.IndexByteString", "internal/bytealg.IndexString"], unfollowed := true, recurses := true, named := ["internal/bytealg.MaxLen"], apart := false }
def FieldsLineEndsSaid : Prop := fieldsLineEndsRow.holds Try.pinned (OpenSpec.ofChange fieldsLineEndsSpec)

/-- ITS FALSE NEIGHBOUR: 'it returns false'. Refute it at one input. -/
def fieldsLineEndsWrong : ChangeSpec := { name := "fieldsLineEnds", fn := fun _ => fun
  | [d1, d2] => { results := [.lit (.bool false)], args := [d1, d2] }
  | _ => none }
def FieldsLineEndsWrongFalsely : Prop := fieldsLineEndsRow.holds Try.pinned (OpenSpec.ofChange fieldsLineEndsWrong)

/-- 'hstsstorelaw21.FieldsLookupMatchesSpec': WHATEVER THE INPUT: true; the input reads as it did. -/
def fieldsLookupMatchesSpecSpec : ChangeSpec := { name := "fieldsLookupMatchesSpec", fn := fun _ => fun
  | [d1, d2] => { results := [.lit (.bool true)], args := [d1, d2] }
  | _ => none }
def fieldsLookupMatchesSpecRow : OpenClaim := { program := "ytimfngfimnapoaa", sum := "5026a5215830c2743ef2a29029366cf28465220f2b90f6507c4f5dee12a25f02", func := "hstsstore/hstsstorelaw21.FieldsLookupMatchesSpec", spec := "fieldsLookupMatchesSpec", inPlace := ["internal/bytealg.IndexByteString", "internal/bytealg.IndexString"], unfollowed := true, recurses := true, named := ["internal/bytealg.MaxLen"], apart := false }
def FieldsLookupMatchesSpecSaid : Prop := fieldsLookupMatchesSpecRow.holds Try.pinned (OpenSpec.ofChange fieldsLookupMatchesSpecSpec)

/-- ITS FALSE NEIGHBOUR: 'it returns false'. Refute it at one input. -/
def fieldsLookupMatchesSpecWrong : ChangeSpec := { name := "fieldsLookupMatchesSpec", fn := fun _ => fun
  | [d1, d2] => { results := [.lit (.bool false)], args := [d1, d2] }
  | _ => none }
def FieldsLookupMatchesSpecWrongFalsely : Prop := fieldsLookupMatchesSpecRow.holds Try.pinned (OpenSpec.ofChange fieldsLookupMatchesSpecWrong)

/-- 'hstsstorelaw21.FieldsFormatMatchesSpec': WHATEVER THE INPUT: true; the input reads as it did. -/
def fieldsFormatMatchesSpecSpec : ChangeSpec := { name := "fieldsFormatMatchesSpec", fn := fun _ => fun
  | [d] => { results := [.lit (.bool true)], args := [d] }
  | _ => none }
def fieldsFormatMatchesSpecRow : OpenClaim := { program := "ytimfngfimnapoaa", sum := "5026a5215830c2743ef2a29029366cf28465220f2b90f6507c4f5dee12a25f02", func := "hstsstore/hstsstorelaw21.FieldsFormatMatchesSpec", spec := "fieldsFormatMatchesSpec", inPlace := ["internal/bytealg.IndexByteString", "internal/bytealg.IndexString"], unfollowed := true, recurses := true, named := ["internal/bytealg.MaxLen"], apart := false }
def FieldsFormatMatchesSpecSaid : Prop := fieldsFormatMatchesSpecRow.holds Try.pinned (OpenSpec.ofChange fieldsFormatMatchesSpecSpec)

/-- ITS FALSE NEIGHBOUR: 'it returns false'. Refute it at one input. -/
def fieldsFormatMatchesSpecWrong : ChangeSpec := { name := "fieldsFormatMatchesSpec", fn := fun _ => fun
  | [d] => { results := [.lit (.bool false)], args := [d] }
  | _ => none }
def FieldsFormatMatchesSpecWrongFalsely : Prop := fieldsFormatMatchesSpecRow.holds Try.pinned (OpenSpec.ofChange fieldsFormatMatchesSpecWrong)

/-- 'hstsstorelaw21.FieldsRoundTrip': WHATEVER THE INPUT: true; the input reads as it did. -/
def fieldsRoundTripSpec : ChangeSpec := { name := "fieldsRoundTrip", fn := fun _ => fun
  | [d1, d2] => { results := [.lit (.bool true)], args := [d1, d2] }
  | _ => none }
def fieldsRoundTripRow : OpenClaim := { program := "ytimfngfimnapoaa", sum := "5026a5215830c2743ef2a29029366cf28465220f2b90f6507c4f5dee12a25f02", func := "hstsstore/hstsstorelaw21.FieldsRoundTrip", spec := "fieldsRoundTrip", inPlace := ["internal/bytealg.IndexByteString", "internal/bytealg.IndexString"], unfollowed := true, recurses := true, named := ["internal/bytealg.MaxLen"], apart := false }
def FieldsRoundTripSaid : Prop := fieldsRoundTripRow.holds Try.pinned (OpenSpec.ofChange fieldsRoundTripSpec)

/-- ITS FALSE NEIGHBOUR: 'it returns false'. Refute it at one input. -/
def fieldsRoundTripWrong : ChangeSpec := { name := "fieldsRoundTrip", fn := fun _ => fun
  | [d1, d2] => { results := [.lit (.bool false)], args := [d1, d2] }
  | _ => none }
def FieldsRoundTripWrongFalsely : Prop := fieldsRoundTripRow.holds Try.pinned (OpenSpec.ofChange fieldsRoundTripWrong)

/- THE SECOND FORM. 'bulk': how many values and letters a reading holds, each counted each time it is reached (what is shared counts as often as it is met; a slice's spare places count too). A statement '..UptoSaid' is the law's where the arguments, and the package variables that the reading takes, are together of bulk at most 1048576: NARROWER than '..Said'. Prove '..Said' where nothing that the law and all that it calls make is longer than what came in: it says more and counts as full. Else prove '..UptoSaid'. A law counts once. -/
mutual
def uptoBulk {H : Type} : DataW H → Nat
  | .lit (.string bytes) => bytes.length + 1
  | .lit _ => 1
  | .nil => 1
  | .ptr d => uptoBulk d + 1
  | .slice elems spare => uptoBulkAll elems + uptoBulkAll spare + 1
  | .agg parts => uptoBulkAll parts + 1
  | .iface _ d => uptoBulk d + 1
  | .map entries => uptoBulkEntries entries + 1
  | .held _ => 1
def uptoBulkAll {H : Type} : List (DataW H) → Nat
  | [] => 0
  | d :: r => uptoBulk d + uptoBulkAll r
def uptoBulkEntries {H : Type} : List (Lit × DataW H) → Nat
  | [] => 0
  | x :: r => uptoBulkEntry x + uptoBulkEntries r
def uptoBulkEntry {H : Type} : Lit × DataW H → Nat
  | (.string bytes, d) => bytes.length + uptoBulk d + 1
  | (_, d) => uptoBulk d + 1
 end
def uptoSmall : (H : Type) → List (DataW H) → Bool := fun _ ds => decide (uptoBulkAll ds ≤ 1048576)
def OpenSpec.upto (s : _root_.Go.ChangeSpec) : _root_.Go.OpenSpec := { _root_.Go.OpenSpec.ofChange s with cond := some uptoSmall }

/-- 'hstsstorelaw21.FieldsParseMatchesSpec', WHERE WHAT IT READS IS OF BULK AT MOST 1048576: true; the input reads as it did. -/
def fieldsParseMatchesSpecUptoRow : OpenClaim := { program := "ytimfngfimnapoaa", sum := "5026a5215830c2743ef2a29029366cf28465220f2b90f6507c4f5dee12a25f02", func := "hstsstore/hstsstorelaw21.FieldsParseMatchesSpec", spec := "fieldsParseMatchesSpec", inPlace := ["internal/bytealg.IndexByteString", "internal/bytealg.IndexString"], unfollowed := true, recurses := true, named := ["internal/bytealg.MaxLen"], apart := false, narrowed := true }
def FieldsParseMatchesSpecUptoSaid : Prop := fieldsParseMatchesSpecUptoRow.holds Try.pinned (OpenSpec.upto fieldsParseMatchesSpecSpec)

/-- 'hstsstorelaw21.FieldsLineEnds', WHERE WHAT IT READS IS OF BULK AT MOST 1048576: true; the input reads as it did. -/
def fieldsLineEndsUptoRow : OpenClaim := { program := "ytimfngfimnapoaa", sum := "5026a5215830c2743ef2a29029366cf28465220f2b90f6507c4f5dee12a25f02", func := "hstsstore/hstsstorelaw21.FieldsLineEnds", spec := "fieldsLineEnds", inPlace := ["internal/bytealg.IndexByteString", "internal/bytealg.IndexString"], unfollowed := true, recurses := true, named := ["internal/bytealg.MaxLen"], apart := false, narrowed := true }
def FieldsLineEndsUptoSaid : Prop := fieldsLineEndsUptoRow.holds Try.pinned (OpenSpec.upto fieldsLineEndsSpec)

/-- 'hstsstorelaw21.FieldsLookupMatchesSpec', WHERE WHAT IT READS IS OF BULK AT MOST 1048576: true; the input reads as it did. -/
def fieldsLookupMatchesSpecUptoRow : OpenClaim := { program := "ytimfngfimnapoaa", sum := "5026a5215830c2743ef2a29029366cf28465220f2b90f6507c4f5dee12a25f02", func := "hstsstore/hstsstorelaw21.FieldsLookupMatchesSpec", spec := "fieldsLookupMatchesSpec", inPlace := ["internal/bytealg.IndexByteString", "internal/bytealg.IndexString"], unfollowed := true, recurses := true, named := ["internal/bytealg.MaxLen"], apart := false, narrowed := true }
def FieldsLookupMatchesSpecUptoSaid : Prop := fieldsLookupMatchesSpecUptoRow.holds Try.pinned (OpenSpec.upto fieldsLookupMatchesSpecSpec)

/-- 'hstsstorelaw21.FieldsFormatMatchesSpec', WHERE WHAT IT READS IS OF BULK AT MOST 1048576: true; the input reads as it did. -/
def fieldsFormatMatchesSpecUptoRow : OpenClaim := { program := "ytimfngfimnapoaa", sum := "5026a5215830c2743ef2a29029366cf28465220f2b90f6507c4f5dee12a25f02", func := "hstsstore/hstsstorelaw21.FieldsFormatMatchesSpec", spec := "fieldsFormatMatchesSpec", inPlace := ["internal/bytealg.IndexByteString", "internal/bytealg.IndexString"], unfollowed := true, recurses := true, named := ["internal/bytealg.MaxLen"], apart := false, narrowed := true }
def FieldsFormatMatchesSpecUptoSaid : Prop := fieldsFormatMatchesSpecUptoRow.holds Try.pinned (OpenSpec.upto fieldsFormatMatchesSpecSpec)

/-- 'hstsstorelaw21.FieldsRoundTrip', WHERE WHAT IT READS IS OF BULK AT MOST 1048576: true; the input reads as it did. -/
def fieldsRoundTripUptoRow : OpenClaim := { program := "ytimfngfimnapoaa", sum := "5026a5215830c2743ef2a29029366cf28465220f2b90f6507c4f5dee12a25f02", func := "hstsstore/hstsstorelaw21.FieldsRoundTrip", spec := "fieldsRoundTrip", inPlace := ["internal/bytealg.IndexByteString", "internal/bytealg.IndexString"], unfollowed := true, recurses := true, named := ["internal/bytealg.MaxLen"], apart := false, narrowed := true }
def FieldsRoundTripUptoSaid : Prop := fieldsRoundTripUptoRow.holds Try.pinned (OpenSpec.upto fieldsRoundTripSpec)

end Rows
end Go.Proofs.Ytimfngfimnapoaa
