/- What the listed variables of the laws of layer 4 give the walks: the library's table of powers of ten. Conditions: none. -/
import Derived.Test.YtmneleackpgfbaaDoorLaw04A
import Derived.Test.YtmneleackpgfbaaDoorLaidKit
import Derived.Test.YtmneleackpgfbaaDoorRows
import Derived.Stop.LaidErr
namespace Go.Proofs.YtmneleackpgfbaaDoor
open Go.RowKit Hs
set_option linter.unusedVariables false

theorem tTab3 : (Tryd.prog.globals[0]?).map (·.type) = some 71 := by kernel_rfl
theorem cellsTab3 : Tryd.prog.cellsOf 71 = 20 := by kernel_rfl
theorem cellsU64 : Tryd.prog.cellsOf 61 = 1 := by kernel_rfl
theorem tab_of_laid {W : World} (h : laidMetH Tryd.prog Rows.secondsMatchSpecRow.laid W) : Tab W := by
  rw [MakeChecks.laidMetH_plain _ _ _ (by kernel_rfl)] at h
  have h0 : laidMet Tryd.prog [("internal/strconv.uint64pow10", Lib.tabData .u64 Lib.pow10Tab)] W := laidMet.tail (laidMet.tail h)
  have h1 := Lib.tabIs_of_head gTab tTab3 Tryd.underlying71 Tryd.underlying61 cellsU64 cellsTab3 h0
  refine ⟨h1, ?_⟩
  exact World.block_lt_of_cell? W _ (h1.cell gTab 0 (by decide))
end Go.Proofs.YtmneleackpgfbaaDoor
