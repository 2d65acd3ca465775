/- The walks of Words and Digits (program and reference), and of the helpers Short and Texts. Conditions: the strings' lengths are bounded. -/
import Derived.Test.YtjdkmidajhbefaaDoorAsciiText
namespace Go.Proofs.YtjdkmidajhbefaaDoor
open Go.RowKit Hs
set_option linter.unusedSimpArgs false
set_option linter.unusedVariables false






end Go.Proofs.YtjdkmidajhbefaaDoor
