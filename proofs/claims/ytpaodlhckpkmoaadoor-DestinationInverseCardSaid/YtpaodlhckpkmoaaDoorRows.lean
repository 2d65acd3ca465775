/-
  NARROWER THAN 'FOR EVERY INPUT', by the rows' own cells (each row's printed sentence says how): DestinationMatchesSpec: laid · DestinationInverse: laid.
  DERIVED. THE GIVEN ROWS OF THIS SEAT. 2 by the template 'for every input the law returns true; each argument reads behind the call as it read before'; 0 by the template 'total and deterministic' (their statements: YtpaodlhckpkmoaaDoorTotals.lean).
  GIVEN WITH THE SEED: the statements are not yours to turn. If you find one false, say at which input.
  Laid BY PROGRAM, IN A SANDBOX (cutbox-rows.mjs): the forced cells as the released guide's own fill.sh prints them over the translation e2dca1b28cf330d6… (all of the seat's roots in one cut). By AI agents, Wed Nov 11 2026. No macro, syntax, notation, axiom, sorry.
-/
import Derived.Test.YtpaodlhckpkmoaaDoorChecked
import GoSem.Claim
import GoSem.ClaimJoined
import GoSem.ClaimMapViews
import Derived.JoinedTies
import Derived.KernelRfl
namespace Go.Proofs.YtpaodlhckpkmoaaDoor
/- THE CELL 'sum', in the pinned program and in every row, IS THE sha256 OF THE DUMP (.gsa) THAT YtpaodlhckpkmoaaDoorProg.lean LOADS. Nothing in Lean hashes anything: it is a label: what it is worth is what the hold of that sum in a sandbox is worth. -/
noncomputable def Tryd.pinned : Pinned := { name := "ytpaodlhckpkmoaadoor", sum := "e2dca1b28cf330d618ede30f24454f0dcb93c5f95c31f7f06d0eadafc297687e", checked := Tryd.checked }
namespace Rows
def none {H : Type} : Left H := { results := [], args := [] }

/- WHAT THE LISTED PACKAGE-LEVEL VARIABLES READ AS WHEN THE CALL BEGINS. Each datum BY PROGRAM (the guide's laid-datum.mjs) off the statement by which the dump's own 'gosem.cut.vars' lays the variable. In a bare row this is a premise. The card (YtpaodlhckpkmoaaDoorCards.lean) ties it to the program's text. -/
def laid_hstsstore_destination_names {H : Type} : DataW H := .agg [.lit (.string []), .lit (.string []), .lit (.string [97, 117, 100, 105, 111]), .lit (.string [97, 117, 100, 105, 111, 119, 111, 114, 107, 108, 101, 116]), .lit (.string [100, 111, 99, 117, 109, 101, 110, 116]), .lit (.string [101, 109, 98, 101, 100]), .lit (.string [102, 111, 110, 116]), .lit (.string [102, 114, 97, 109, 101]), .lit (.string [105, 102, 114, 97, 109, 101]), .lit (.string [105, 109, 97, 103, 101]), .lit (.string [106, 115, 111, 110]), .lit (.string [109, 97, 110, 105, 102, 101, 115, 116]), .lit (.string [111, 98, 106, 101, 99, 116]), .lit (.string [112, 97, 105, 110, 116, 119, 111, 114, 107, 108, 101, 116]), .lit (.string [114, 101, 112, 111, 114, 116]), .lit (.string [115, 99, 114, 105, 112, 116]), .lit (.string [115, 101, 114, 118, 105, 99, 101, 119, 111, 114, 107, 101, 114]), .lit (.string [115, 104, 97, 114, 101, 100, 119, 111, 114, 107, 101, 114]), .lit (.string [115, 116, 121, 108, 101]), .lit (.string [116, 114, 97, 99, 107]), .lit (.string [118, 105, 100, 101, 111]), .lit (.string [119, 111, 114, 107, 101, 114]), .lit (.string [120, 115, 108, 116])]

/-- 'hstsstorelaw27.DestinationMatchesSpec': WHATEVER THE INPUT: true; the input reads as it did. -/
def destinationMatchesSpecSpec : ChangeSpec := { name := "destinationMatchesSpec", fn := fun _ => fun
  | [d1, d2, d3] => { results := [.lit (.bool true)], args := [d1, d2, d3] }
  | _ => none }
def destinationMatchesSpecRow : OpenClaim := { program := "ytpaodlhckpkmoaadoor", sum := "e2dca1b28cf330d618ede30f24454f0dcb93c5f95c31f7f06d0eadafc297687e", func := "hstsstore/hstsstorelaw27.DestinationMatchesSpec", spec := "destinationMatchesSpec", named := ["hstsstore/destination.names"], apart := false, laid := [("hstsstore/destination.names", laid_hstsstore_destination_names)] }
def DestinationMatchesSpecSaid : Prop := destinationMatchesSpecRow.holds Tryd.pinned (OpenSpec.ofChange destinationMatchesSpecSpec)

/-- ITS FALSE NEIGHBOUR: 'it returns false'. Refute it at one input. -/
def destinationMatchesSpecWrong : ChangeSpec := { name := "destinationMatchesSpec", fn := fun _ => fun
  | [d1, d2, d3] => { results := [.lit (.bool false)], args := [d1, d2, d3] }
  | _ => none }
def DestinationMatchesSpecWrongFalsely : Prop := destinationMatchesSpecRow.holds Tryd.pinned (OpenSpec.ofChange destinationMatchesSpecWrong)

/-- 'hstsstorelaw27.DestinationInverse': WHATEVER THE INPUT: true; the input reads as it did. -/
def destinationInverseSpec : ChangeSpec := { name := "destinationInverse", fn := fun _ => fun
  | [d1, d2] => { results := [.lit (.bool true)], args := [d1, d2] }
  | _ => none }
def destinationInverseRow : OpenClaim := { program := "ytpaodlhckpkmoaadoor", sum := "e2dca1b28cf330d618ede30f24454f0dcb93c5f95c31f7f06d0eadafc297687e", func := "hstsstore/hstsstorelaw27.DestinationInverse", spec := "destinationInverse", named := ["hstsstore/destination.names"], apart := false, laid := [("hstsstore/destination.names", laid_hstsstore_destination_names)] }
def DestinationInverseSaid : Prop := destinationInverseRow.holds Tryd.pinned (OpenSpec.ofChange destinationInverseSpec)

/-- ITS FALSE NEIGHBOUR: 'it returns false'. Refute it at one input. -/
def destinationInverseWrong : ChangeSpec := { name := "destinationInverse", fn := fun _ => fun
  | [d1, d2] => { results := [.lit (.bool false)], args := [d1, d2] }
  | _ => none }
def DestinationInverseWrongFalsely : Prop := destinationInverseRow.holds Tryd.pinned (OpenSpec.ofChange destinationInverseWrong)

/- THE SECOND FORM. 'bulk': how many values and letters a reading holds, each counted each time it is reached (what is shared counts as often as it is met; a slice's spare places count too). A statement '..UptoSaid' is the law's where the arguments, and the package variables that the reading takes, are together of bulk at most 1048576: NARROWER than '..Said'. Prove '..Said' where nothing that the law and all that it calls make is longer than what came in: it says more and counts as full. Else prove '..UptoSaid'. A law counts once. -/
mutual
def uptoBulk {H : Type} : DataW H → Nat
  | .lit (.string bytes) => bytes.length + 1
  | .lit _ => 1
  | .nil => 1
  | .ptr d => uptoBulk d + 1
  | .slice elems spare => uptoBulkAll elems + uptoBulkAll spare + 1
  | .agg parts => uptoBulkAll parts + 1
  | .iface _ d => uptoBulk d + 1
  | .map entries => uptoBulkEntries entries + 1
  | .held _ => 1
def uptoBulkAll {H : Type} : List (DataW H) → Nat
  | [] => 0
  | d :: r => uptoBulk d + uptoBulkAll r
def uptoBulkEntries {H : Type} : List (Lit × DataW H) → Nat
  | [] => 0
  | x :: r => uptoBulkEntry x + uptoBulkEntries r
def uptoBulkEntry {H : Type} : Lit × DataW H → Nat
  | (.string bytes, d) => bytes.length + uptoBulk d + 1
  | (_, d) => uptoBulk d + 1
 end
def uptoSmall : (H : Type) → List (DataW H) → Bool := fun _ ds => decide (uptoBulkAll ds ≤ 1048576)
def OpenSpec.upto (s : _root_.Go.ChangeSpec) : _root_.Go.OpenSpec := { _root_.Go.OpenSpec.ofChange s with cond := some uptoSmall }

/-- 'hstsstorelaw27.DestinationMatchesSpec', WHERE WHAT IT READS IS OF BULK AT MOST 1048576: true; the input reads as it did. -/
def destinationMatchesSpecUptoRow : OpenClaim := { program := "ytpaodlhckpkmoaadoor", sum := "e2dca1b28cf330d618ede30f24454f0dcb93c5f95c31f7f06d0eadafc297687e", func := "hstsstore/hstsstorelaw27.DestinationMatchesSpec", spec := "destinationMatchesSpec", named := ["hstsstore/destination.names"], apart := false, laid := [("hstsstore/destination.names", laid_hstsstore_destination_names)], narrowed := true }
def DestinationMatchesSpecUptoSaid : Prop := destinationMatchesSpecUptoRow.holds Tryd.pinned (OpenSpec.upto destinationMatchesSpecSpec)

/-- 'hstsstorelaw27.DestinationInverse', WHERE WHAT IT READS IS OF BULK AT MOST 1048576: true; the input reads as it did. -/
def destinationInverseUptoRow : OpenClaim := { program := "ytpaodlhckpkmoaadoor", sum := "e2dca1b28cf330d618ede30f24454f0dcb93c5f95c31f7f06d0eadafc297687e", func := "hstsstore/hstsstorelaw27.DestinationInverse", spec := "destinationInverse", named := ["hstsstore/destination.names"], apart := false, laid := [("hstsstore/destination.names", laid_hstsstore_destination_names)], narrowed := true }
def DestinationInverseUptoSaid : Prop := destinationInverseUptoRow.holds Tryd.pinned (OpenSpec.upto destinationInverseSpec)

end Rows
end Go.Proofs.YtpaodlhckpkmoaaDoor
