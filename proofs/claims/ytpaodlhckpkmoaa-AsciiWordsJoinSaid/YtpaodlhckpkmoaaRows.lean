/-
  No cell of these rows narrows 'for every input' (looked for: loops, veiled, ifaces, maps, wideKeys, modest, calm, conditions, laid).
  DERIVED. THE GIVEN ROWS OF THIS SEAT. 4 by the template 'for every input the law returns true; each argument reads behind the call as it read before'; 0 by the template 'total and deterministic' (their statements: YtpaodlhckpkmoaaTotals.lean).
  GIVEN WITH THE SEED: the statements are not yours to turn. If you find one false, say at which input.
  Laid BY PROGRAM, IN A SANDBOX (cutbox-rows.mjs): the forced cells as the released guide's own fill.sh prints them over the translation 31fbd7e901f107d1… (all of the seat's roots in one cut). By AI agents, Wed Nov 11 2026. No macro, syntax, notation, axiom, sorry.
-/
import Derived.Test.YtpaodlhckpkmoaaChecked
import GoSem.Claim
import GoSem.ClaimJoined
import GoSem.ClaimMapViews
import Derived.JoinedTies
import Derived.KernelRfl
namespace Go.Proofs.Ytpaodlhckpkmoaa
/- THE CELL 'sum', in the pinned program and in every row, IS THE sha256 OF THE DUMP (.gsa) THAT YtpaodlhckpkmoaaProg.lean LOADS. Nothing in Lean hashes anything: it is a label: what it is worth is what the hold of that sum in a sandbox is worth. -/
noncomputable def Try.pinned : Pinned := { name := "ytpaodlhckpkmoaa", sum := "31fbd7e901f107d1d888676190810956cdc5da6f000d14f23e4306c2545ae57d", checked := Try.checked }
namespace Rows
def none {H : Type} : Left H := { results := [], args := [] }

/-- 'hstsstorelaw01.AsciiBytesMatchSpec': WHATEVER THE INPUT: true; the input reads as it did. -/
def asciiBytesMatchSpecSpec : ChangeSpec := { name := "asciiBytesMatchSpec", fn := fun _ => fun
  | [d] => { results := [.lit (.bool true)], args := [d] }
  | _ => none }
def asciiBytesMatchSpecRow : OpenClaim := { program := "ytpaodlhckpkmoaa", sum := "31fbd7e901f107d1d888676190810956cdc5da6f000d14f23e4306c2545ae57d", func := "hstsstore/hstsstorelaw01.AsciiBytesMatchSpec", spec := "asciiBytesMatchSpec", apart := false }
def AsciiBytesMatchSpecSaid : Prop := asciiBytesMatchSpecRow.holds Try.pinned (OpenSpec.ofChange asciiBytesMatchSpecSpec)

/-- ITS FALSE NEIGHBOUR: 'it returns false'. Refute it at one input. -/
def asciiBytesMatchSpecWrong : ChangeSpec := { name := "asciiBytesMatchSpec", fn := fun _ => fun
  | [d] => { results := [.lit (.bool false)], args := [d] }
  | _ => none }
def AsciiBytesMatchSpecWrongFalsely : Prop := asciiBytesMatchSpecRow.holds Try.pinned (OpenSpec.ofChange asciiBytesMatchSpecWrong)

/-- 'hstsstorelaw01.AsciiWordsJoin': WHATEVER THE INPUT: true; the input reads as it did. -/
def asciiWordsJoinSpec : ChangeSpec := { name := "asciiWordsJoin", fn := fun _ => fun
  | [d] => { results := [.lit (.bool true)], args := [d] }
  | _ => none }
def asciiWordsJoinRow : OpenClaim := { program := "ytpaodlhckpkmoaa", sum := "31fbd7e901f107d1d888676190810956cdc5da6f000d14f23e4306c2545ae57d", func := "hstsstore/hstsstorelaw01.AsciiWordsJoin", spec := "asciiWordsJoin", apart := false }
def AsciiWordsJoinSaid : Prop := asciiWordsJoinRow.holds Try.pinned (OpenSpec.ofChange asciiWordsJoinSpec)

/-- ITS FALSE NEIGHBOUR: 'it returns false'. Refute it at one input. -/
def asciiWordsJoinWrong : ChangeSpec := { name := "asciiWordsJoin", fn := fun _ => fun
  | [d] => { results := [.lit (.bool false)], args := [d] }
  | _ => none }
def AsciiWordsJoinWrongFalsely : Prop := asciiWordsJoinRow.holds Try.pinned (OpenSpec.ofChange asciiWordsJoinWrong)

/-- 'hstsstorelaw01.AsciiTextMatchesSpec': WHATEVER THE INPUT: true; the input reads as it did. -/
def asciiTextMatchesSpecSpec : ChangeSpec := { name := "asciiTextMatchesSpec", fn := fun _ => fun
  | [d1, d2] => { results := [.lit (.bool true)], args := [d1, d2] }
  | _ => none }
def asciiTextMatchesSpecRow : OpenClaim := { program := "ytpaodlhckpkmoaa", sum := "31fbd7e901f107d1d888676190810956cdc5da6f000d14f23e4306c2545ae57d", func := "hstsstore/hstsstorelaw01.AsciiTextMatchesSpec", spec := "asciiTextMatchesSpec", apart := false }
def AsciiTextMatchesSpecSaid : Prop := asciiTextMatchesSpecRow.holds Try.pinned (OpenSpec.ofChange asciiTextMatchesSpecSpec)

/-- ITS FALSE NEIGHBOUR: 'it returns false'. Refute it at one input. -/
def asciiTextMatchesSpecWrong : ChangeSpec := { name := "asciiTextMatchesSpec", fn := fun _ => fun
  | [d1, d2] => { results := [.lit (.bool false)], args := [d1, d2] }
  | _ => none }
def AsciiTextMatchesSpecWrongFalsely : Prop := asciiTextMatchesSpecRow.holds Try.pinned (OpenSpec.ofChange asciiTextMatchesSpecWrong)

/-- 'hstsstorelaw01.AsciiLowerLaws': WHATEVER THE INPUT: true; the input reads as it did. -/
def asciiLowerLawsSpec : ChangeSpec := { name := "asciiLowerLaws", fn := fun _ => fun
  | [d1, d2] => { results := [.lit (.bool true)], args := [d1, d2] }
  | _ => none }
def asciiLowerLawsRow : OpenClaim := { program := "ytpaodlhckpkmoaa", sum := "31fbd7e901f107d1d888676190810956cdc5da6f000d14f23e4306c2545ae57d", func := "hstsstore/hstsstorelaw01.AsciiLowerLaws", spec := "asciiLowerLaws", apart := false }
def AsciiLowerLawsSaid : Prop := asciiLowerLawsRow.holds Try.pinned (OpenSpec.ofChange asciiLowerLawsSpec)

/-- ITS FALSE NEIGHBOUR: 'it returns false'. Refute it at one input. -/
def asciiLowerLawsWrong : ChangeSpec := { name := "asciiLowerLaws", fn := fun _ => fun
  | [d1, d2] => { results := [.lit (.bool false)], args := [d1, d2] }
  | _ => none }
def AsciiLowerLawsWrongFalsely : Prop := asciiLowerLawsRow.holds Try.pinned (OpenSpec.ofChange asciiLowerLawsWrong)

/- THE SECOND FORM. 'bulk': how many values and letters a reading holds, each counted each time it is reached (what is shared counts as often as it is met; a slice's spare places count too). A statement '..UptoSaid' is the law's where the arguments, and the package variables that the reading takes, are together of bulk at most 1048576: NARROWER than '..Said'. Prove '..Said' where nothing that the law and all that it calls make is longer than what came in: it says more and counts as full. Else prove '..UptoSaid'. A law counts once. -/
mutual
def uptoBulk {H : Type} : DataW H → Nat
  | .lit (.string bytes) => bytes.length + 1
  | .lit _ => 1
  | .nil => 1
  | .ptr d => uptoBulk d + 1
  | .slice elems spare => uptoBulkAll elems + uptoBulkAll spare + 1
  | .agg parts => uptoBulkAll parts + 1
  | .iface _ d => uptoBulk d + 1
  | .map entries => uptoBulkEntries entries + 1
  | .held _ => 1
def uptoBulkAll {H : Type} : List (DataW H) → Nat
  | [] => 0
  | d :: r => uptoBulk d + uptoBulkAll r
def uptoBulkEntries {H : Type} : List (Lit × DataW H) → Nat
  | [] => 0
  | x :: r => uptoBulkEntry x + uptoBulkEntries r
def uptoBulkEntry {H : Type} : Lit × DataW H → Nat
  | (.string bytes, d) => bytes.length + uptoBulk d + 1
  | (_, d) => uptoBulk d + 1
 end
def uptoSmall : (H : Type) → List (DataW H) → Bool := fun _ ds => decide (uptoBulkAll ds ≤ 1048576)
def OpenSpec.upto (s : _root_.Go.ChangeSpec) : _root_.Go.OpenSpec := { _root_.Go.OpenSpec.ofChange s with cond := some uptoSmall }

/-- 'hstsstorelaw01.AsciiBytesMatchSpec', WHERE WHAT IT READS IS OF BULK AT MOST 1048576: true; the input reads as it did. -/
def asciiBytesMatchSpecUptoRow : OpenClaim := { program := "ytpaodlhckpkmoaa", sum := "31fbd7e901f107d1d888676190810956cdc5da6f000d14f23e4306c2545ae57d", func := "hstsstore/hstsstorelaw01.AsciiBytesMatchSpec", spec := "asciiBytesMatchSpec", apart := false, narrowed := true }
def AsciiBytesMatchSpecUptoSaid : Prop := asciiBytesMatchSpecUptoRow.holds Try.pinned (OpenSpec.upto asciiBytesMatchSpecSpec)

/-- 'hstsstorelaw01.AsciiWordsJoin', WHERE WHAT IT READS IS OF BULK AT MOST 1048576: true; the input reads as it did. -/
def asciiWordsJoinUptoRow : OpenClaim := { program := "ytpaodlhckpkmoaa", sum := "31fbd7e901f107d1d888676190810956cdc5da6f000d14f23e4306c2545ae57d", func := "hstsstore/hstsstorelaw01.AsciiWordsJoin", spec := "asciiWordsJoin", apart := false, narrowed := true }
def AsciiWordsJoinUptoSaid : Prop := asciiWordsJoinUptoRow.holds Try.pinned (OpenSpec.upto asciiWordsJoinSpec)

/-- 'hstsstorelaw01.AsciiTextMatchesSpec', WHERE WHAT IT READS IS OF BULK AT MOST 1048576: true; the input reads as it did. -/
def asciiTextMatchesSpecUptoRow : OpenClaim := { program := "ytpaodlhckpkmoaa", sum := "31fbd7e901f107d1d888676190810956cdc5da6f000d14f23e4306c2545ae57d", func := "hstsstore/hstsstorelaw01.AsciiTextMatchesSpec", spec := "asciiTextMatchesSpec", apart := false, narrowed := true }
def AsciiTextMatchesSpecUptoSaid : Prop := asciiTextMatchesSpecUptoRow.holds Try.pinned (OpenSpec.upto asciiTextMatchesSpecSpec)

/-- 'hstsstorelaw01.AsciiLowerLaws', WHERE WHAT IT READS IS OF BULK AT MOST 1048576: true; the input reads as it did. -/
def asciiLowerLawsUptoRow : OpenClaim := { program := "ytpaodlhckpkmoaa", sum := "31fbd7e901f107d1d888676190810956cdc5da6f000d14f23e4306c2545ae57d", func := "hstsstore/hstsstorelaw01.AsciiLowerLaws", spec := "asciiLowerLaws", apart := false, narrowed := true }
def AsciiLowerLawsUptoSaid : Prop := asciiLowerLawsUptoRow.holds Try.pinned (OpenSpec.upto asciiLowerLawsSpec)

end Rows
end Go.Proofs.Ytpaodlhckpkmoaa
