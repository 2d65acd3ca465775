/- A name compared with a known one. Conditions: none. -/
import Derived.Test.YtimfngfimnapoaaDoorCspK
namespace Go.Proofs.YtimfngfimnapoaaDoor
open Go.RowKit Hs
theorem eq_flag (n : Bs) (u : ByteArray) : ((mk n).toList == u.data.toList) = decide (n = un u) := by
  rw [toList_mk', Bool.eq_iff_iff, beq_iff_eq, decide_eq_true_eq]
  exact Iff.rfl
end Go.Proofs.YtimfngfimnapoaaDoor
