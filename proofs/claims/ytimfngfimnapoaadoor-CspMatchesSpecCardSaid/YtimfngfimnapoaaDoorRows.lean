/-
  NARROWER THAN 'FOR EVERY INPUT', by the rows' own cells (each row's printed sentence says how): CspMatchesSpec: laid · CspJoined: laid · CspNames: laid · CspMore: laid.
  DERIVED. THE GIVEN ROWS OF THIS SEAT. 4 by the template 'for every input the law returns true; each argument reads behind the call as it read before'; 0 by the template 'total and deterministic' (their statements: YtimfngfimnapoaaDoorTotals.lean).
  GIVEN WITH THE SEED: the statements are not yours to turn. If you find one false, say at which input.
  Laid BY PROGRAM, IN A SANDBOX (cutbox-rows.mjs): the forced cells as the released guide's own fill.sh prints them over the translation 06b85417e09c2537… (all of the seat's roots in one cut). By AI agents, Wed Nov 11 2026. No macro, syntax, notation, axiom, sorry.
-/
import Derived.Test.YtimfngfimnapoaaDoorChecked
import GoSem.PinnedTables
import GoSem.Claim
import GoSem.ClaimJoined
import GoSem.ClaimMapViews
import Derived.JoinedTies
import Derived.KernelRfl
namespace Go.Proofs.YtimfngfimnapoaaDoor
/- THE CELL 'sum', in the pinned program and in every row, IS THE sha256 OF THE DUMP (.gsa) THAT YtimfngfimnapoaaDoorProg.lean LOADS. Nothing in Lean hashes anything: it is a label: what it is worth is what the hold of that sum in a sandbox is worth. -/
noncomputable def Tryd.pinned : Pinned := { name := "ytimfngfimnapoaadoor", sum := "06b85417e09c2537eee33e0e5f73260358f0ea5a6be5fe115af83884defd5b17", checked := Tryd.checked }
namespace Rows
def none {H : Type} : Left H := { results := [], args := [] }

/- WHAT THE LISTED PACKAGE-LEVEL VARIABLES READ AS WHEN THE CALL BEGINS. Each datum BY PROGRAM (the guide's laid-datum.mjs) off the statement by which the dump's own 'gosem.cut.vars' lays the variable. In a bare row this is a premise. The card (YtimfngfimnapoaaDoorCards.lean) ties it to the program's text. -/
def laid_unicode_utf8_acceptRanges {H : Type} : DataW H := .agg [.agg [.lit (.int .u8 128), .lit (.int .u8 191)], .agg [.lit (.int .u8 160), .lit (.int .u8 191)], .agg [.lit (.int .u8 128), .lit (.int .u8 159)], .agg [.lit (.int .u8 144), .lit (.int .u8 191)], .agg [.lit (.int .u8 128), .lit (.int .u8 143)], .agg [.lit (.int .u8 0), .lit (.int .u8 0)], .agg [.lit (.int .u8 0), .lit (.int .u8 0)], .agg [.lit (.int .u8 0), .lit (.int .u8 0)], .agg [.lit (.int .u8 0), .lit (.int .u8 0)], .agg [.lit (.int .u8 0), .lit (.int .u8 0)], .agg [.lit (.int .u8 0), .lit (.int .u8 0)], .agg [.lit (.int .u8 0), .lit (.int .u8 0)], .agg [.lit (.int .u8 0), .lit (.int .u8 0)], .agg [.lit (.int .u8 0), .lit (.int .u8 0)], .agg [.lit (.int .u8 0), .lit (.int .u8 0)], .agg [.lit (.int .u8 0), .lit (.int .u8 0)]]
/-- One of Go's own tables, pinned by name: the form's constant. -/
def laid_unicode_utf8_first : DataW Unit := Go.Pinned.utf8First

/-- 'hstsstorelaw20.CspMatchesSpec': WHATEVER THE INPUT: true; the input reads as it did. -/
def cspMatchesSpecSpec : ChangeSpec := { name := "cspMatchesSpec", fn := fun _ => fun
  | [d1, d2] => { results := [.lit (.bool true)], args := [d1, d2] }
  | _ => none }
def cspMatchesSpecRow : OpenClaim := { program := "ytimfngfimnapoaadoor", sum := "06b85417e09c2537eee33e0e5f73260358f0ea5a6be5fe115af83884defd5b17", func := "hstsstore/hstsstorelaw20.CspMatchesSpec", spec := "cspMatchesSpec", inPlace := ["internal/bytealg.IndexByteString", "internal/bytealg.IndexString"], unfollowed := true, recurses := true, named := ["unicode/utf8.first", "unicode/utf8.acceptRanges", "internal/bytealg.MaxLen"], apart := false, laid := [("unicode/utf8.acceptRanges", laid_unicode_utf8_acceptRanges), ("unicode/utf8.first", laid_unicode_utf8_first)] }
def CspMatchesSpecSaid : Prop := cspMatchesSpecRow.holds Tryd.pinned (OpenSpec.ofChange cspMatchesSpecSpec)

/-- ITS FALSE NEIGHBOUR: 'it returns false'. Refute it at one input. -/
def cspMatchesSpecWrong : ChangeSpec := { name := "cspMatchesSpec", fn := fun _ => fun
  | [d1, d2] => { results := [.lit (.bool false)], args := [d1, d2] }
  | _ => none }
def CspMatchesSpecWrongFalsely : Prop := cspMatchesSpecRow.holds Tryd.pinned (OpenSpec.ofChange cspMatchesSpecWrong)

/-- 'hstsstorelaw20.CspJoined': WHATEVER THE INPUT: true; the input reads as it did. -/
def cspJoinedSpec : ChangeSpec := { name := "cspJoined", fn := fun _ => fun
  | [d] => { results := [.lit (.bool true)], args := [d] }
  | _ => none }
def cspJoinedRow : OpenClaim := { program := "ytimfngfimnapoaadoor", sum := "06b85417e09c2537eee33e0e5f73260358f0ea5a6be5fe115af83884defd5b17", func := "hstsstore/hstsstorelaw20.CspJoined", spec := "cspJoined", inPlace := ["internal/bytealg.IndexByteString", "internal/bytealg.IndexString"], unfollowed := true, recurses := true, named := ["unicode/utf8.first", "unicode/utf8.acceptRanges", "internal/bytealg.MaxLen"], apart := false, laid := [("unicode/utf8.acceptRanges", laid_unicode_utf8_acceptRanges), ("unicode/utf8.first", laid_unicode_utf8_first)] }
def CspJoinedSaid : Prop := cspJoinedRow.holds Tryd.pinned (OpenSpec.ofChange cspJoinedSpec)

/-- ITS FALSE NEIGHBOUR: 'it returns false'. Refute it at one input. -/
def cspJoinedWrong : ChangeSpec := { name := "cspJoined", fn := fun _ => fun
  | [d] => { results := [.lit (.bool false)], args := [d] }
  | _ => none }
def CspJoinedWrongFalsely : Prop := cspJoinedRow.holds Tryd.pinned (OpenSpec.ofChange cspJoinedWrong)

/-- 'hstsstorelaw20.CspNames': WHATEVER THE INPUT: true; the input reads as it did. -/
def cspNamesSpec : ChangeSpec := { name := "cspNames", fn := fun _ => fun
  | [d] => { results := [.lit (.bool true)], args := [d] }
  | _ => none }
def cspNamesRow : OpenClaim := { program := "ytimfngfimnapoaadoor", sum := "06b85417e09c2537eee33e0e5f73260358f0ea5a6be5fe115af83884defd5b17", func := "hstsstore/hstsstorelaw20.CspNames", spec := "cspNames", inPlace := ["internal/bytealg.IndexByteString", "internal/bytealg.IndexString"], unfollowed := true, recurses := true, named := ["unicode/utf8.first", "unicode/utf8.acceptRanges", "internal/bytealg.MaxLen"], apart := false, laid := [("unicode/utf8.acceptRanges", laid_unicode_utf8_acceptRanges), ("unicode/utf8.first", laid_unicode_utf8_first)] }
def CspNamesSaid : Prop := cspNamesRow.holds Tryd.pinned (OpenSpec.ofChange cspNamesSpec)

/-- ITS FALSE NEIGHBOUR: 'it returns false'. Refute it at one input. -/
def cspNamesWrong : ChangeSpec := { name := "cspNames", fn := fun _ => fun
  | [d] => { results := [.lit (.bool false)], args := [d] }
  | _ => none }
def CspNamesWrongFalsely : Prop := cspNamesRow.holds Tryd.pinned (OpenSpec.ofChange cspNamesWrong)

/-- 'hstsstorelaw20.CspMore': WHATEVER THE INPUT: true; the input reads as it did. -/
def cspMoreSpec : ChangeSpec := { name := "cspMore", fn := fun _ => fun
  | [d1, d2] => { results := [.lit (.bool true)], args := [d1, d2] }
  | _ => none }
def cspMoreRow : OpenClaim := { program := "ytimfngfimnapoaadoor", sum := "06b85417e09c2537eee33e0e5f73260358f0ea5a6be5fe115af83884defd5b17", func := "hstsstore/hstsstorelaw20.CspMore", spec := "cspMore", inPlace := ["internal/bytealg.IndexByteString", "internal/bytealg.IndexString"], unfollowed := true, recurses := true, named := ["unicode/utf8.first", "unicode/utf8.acceptRanges", "internal/bytealg.MaxLen"], apart := false, laid := [("unicode/utf8.acceptRanges", laid_unicode_utf8_acceptRanges), ("unicode/utf8.first", laid_unicode_utf8_first)] }
def CspMoreSaid : Prop := cspMoreRow.holds Tryd.pinned (OpenSpec.ofChange cspMoreSpec)

/-- ITS FALSE NEIGHBOUR: 'it returns false'. Refute it at one input. -/
def cspMoreWrong : ChangeSpec := { name := "cspMore", fn := fun _ => fun
  | [d1, d2] => { results := [.lit (.bool false)], args := [d1, d2] }
  | _ => none }
def CspMoreWrongFalsely : Prop := cspMoreRow.holds Tryd.pinned (OpenSpec.ofChange cspMoreWrong)

/- THE SECOND FORM. 'bulk': how many values and letters a reading holds, each counted each time it is reached (what is shared counts as often as it is met; a slice's spare places count too). A statement '..UptoSaid' is the law's where the arguments, and the package variables that the reading takes, are together of bulk at most 1048576: NARROWER than '..Said'. Prove '..Said' where nothing that the law and all that it calls make is longer than what came in: it says more and counts as full. Else prove '..UptoSaid'. A law counts once. -/
mutual
def uptoBulk {H : Type} : DataW H → Nat
  | .lit (.string bytes) => bytes.length + 1
  | .lit _ => 1
  | .nil => 1
  | .ptr d => uptoBulk d + 1
  | .slice elems spare => uptoBulkAll elems + uptoBulkAll spare + 1
  | .agg parts => uptoBulkAll parts + 1
  | .iface _ d => uptoBulk d + 1
  | .map entries => uptoBulkEntries entries + 1
  | .held _ => 1
def uptoBulkAll {H : Type} : List (DataW H) → Nat
  | [] => 0
  | d :: r => uptoBulk d + uptoBulkAll r
def uptoBulkEntries {H : Type} : List (Lit × DataW H) → Nat
  | [] => 0
  | x :: r => uptoBulkEntry x + uptoBulkEntries r
def uptoBulkEntry {H : Type} : Lit × DataW H → Nat
  | (.string bytes, d) => bytes.length + uptoBulk d + 1
  | (_, d) => uptoBulk d + 1
 end
def uptoSmall : (H : Type) → List (DataW H) → Bool := fun _ ds => decide (uptoBulkAll ds ≤ 1048576)
def OpenSpec.upto (s : _root_.Go.ChangeSpec) : _root_.Go.OpenSpec := { _root_.Go.OpenSpec.ofChange s with cond := some uptoSmall }

/-- 'hstsstorelaw20.CspMatchesSpec', WHERE WHAT IT READS IS OF BULK AT MOST 1048576: true; the input reads as it did. -/
def cspMatchesSpecUptoRow : OpenClaim := { program := "ytimfngfimnapoaadoor", sum := "06b85417e09c2537eee33e0e5f73260358f0ea5a6be5fe115af83884defd5b17", func := "hstsstore/hstsstorelaw20.CspMatchesSpec", spec := "cspMatchesSpec", inPlace := ["internal/bytealg.IndexByteString", "internal/bytealg.IndexString"], unfollowed := true, recurses := true, named := ["unicode/utf8.first", "unicode/utf8.acceptRanges", "internal/bytealg.MaxLen"], apart := false, laid := [("unicode/utf8.acceptRanges", laid_unicode_utf8_acceptRanges), ("unicode/utf8.first", laid_unicode_utf8_first)], narrowed := true }
def CspMatchesSpecUptoSaid : Prop := cspMatchesSpecUptoRow.holds Tryd.pinned (OpenSpec.upto cspMatchesSpecSpec)

/-- 'hstsstorelaw20.CspJoined', WHERE WHAT IT READS IS OF BULK AT MOST 1048576: true; the input reads as it did. -/
def cspJoinedUptoRow : OpenClaim := { program := "ytimfngfimnapoaadoor", sum := "06b85417e09c2537eee33e0e5f73260358f0ea5a6be5fe115af83884defd5b17", func := "hstsstore/hstsstorelaw20.CspJoined", spec := "cspJoined", inPlace := ["internal/bytealg.IndexByteString", "internal/bytealg.IndexString"], unfollowed := true, recurses := true, named := ["unicode/utf8.first", "unicode/utf8.acceptRanges", "internal/bytealg.MaxLen"], apart := false, laid := [("unicode/utf8.acceptRanges", laid_unicode_utf8_acceptRanges), ("unicode/utf8.first", laid_unicode_utf8_first)], narrowed := true }
def CspJoinedUptoSaid : Prop := cspJoinedUptoRow.holds Tryd.pinned (OpenSpec.upto cspJoinedSpec)

/-- 'hstsstorelaw20.CspNames', WHERE WHAT IT READS IS OF BULK AT MOST 1048576: true; the input reads as it did. -/
def cspNamesUptoRow : OpenClaim := { program := "ytimfngfimnapoaadoor", sum := "06b85417e09c2537eee33e0e5f73260358f0ea5a6be5fe115af83884defd5b17", func := "hstsstore/hstsstorelaw20.CspNames", spec := "cspNames", inPlace := ["internal/bytealg.IndexByteString", "internal/bytealg.IndexString"], unfollowed := true, recurses := true, named := ["unicode/utf8.first", "unicode/utf8.acceptRanges", "internal/bytealg.MaxLen"], apart := false, laid := [("unicode/utf8.acceptRanges", laid_unicode_utf8_acceptRanges), ("unicode/utf8.first", laid_unicode_utf8_first)], narrowed := true }
def CspNamesUptoSaid : Prop := cspNamesUptoRow.holds Tryd.pinned (OpenSpec.upto cspNamesSpec)

/-- 'hstsstorelaw20.CspMore', WHERE WHAT IT READS IS OF BULK AT MOST 1048576: true; the input reads as it did. -/
def cspMoreUptoRow : OpenClaim := { program := "ytimfngfimnapoaadoor", sum := "06b85417e09c2537eee33e0e5f73260358f0ea5a6be5fe115af83884defd5b17", func := "hstsstore/hstsstorelaw20.CspMore", spec := "cspMore", inPlace := ["internal/bytealg.IndexByteString", "internal/bytealg.IndexString"], unfollowed := true, recurses := true, named := ["unicode/utf8.first", "unicode/utf8.acceptRanges", "internal/bytealg.MaxLen"], apart := false, laid := [("unicode/utf8.acceptRanges", laid_unicode_utf8_acceptRanges), ("unicode/utf8.first", laid_unicode_utf8_first)], narrowed := true }
def CspMoreUptoSaid : Prop := cspMoreUptoRow.holds Tryd.pinned (OpenSpec.upto cspMoreSpec)

end Rows
end Go.Proofs.YtimfngfimnapoaaDoor
