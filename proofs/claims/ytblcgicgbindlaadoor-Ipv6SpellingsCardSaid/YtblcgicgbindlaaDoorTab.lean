/- What the library's table of powers of ten gives the walks. Conditions: none. -/
import Derived.Test.YtblcgicgbindlaaDoorRows
import Derived.Test.YtblcgicgbindlaaDoorKit
import Derived.Test.YtblcgicgbindlaaDoorLaidKit
import Derived.Lib.LaidTab
import Derived.Lib.ItoaNum
import Derived.Stop.LaidErr
namespace Go.Proofs.YtblcgicgbindlaaDoor
open Go.RowKit Hs
set_option linter.unusedVariables false

/-- The library's table of powers of ten stands, in memory that exists. -/
def Tab (w : World) : Prop := Lib.TabIs Tryd.prog w "internal/strconv.uint64pow10" .u64 Lib.pow10Tab ∧ 1 < w.heap.size
theorem gTab : Tryd.prog.globalNamed "internal/strconv.uint64pow10" = some 1 := by kernel_rfl
theorem Tab.below {w w' : World} (h : Tab w) (hb : Below w.heap.size w w') : Tab w' := by
  refine ⟨?_, by have := hb.size; have := h.2; omega⟩
  have h1 := h.1
  unfold Lib.TabIs at *
  rw [← h1]
  unfold World.var?
  rw [gTab]
  simp only [Option.bind_some]
  rw [hb.block _ h.2]
theorem tTab3 : (Tryd.prog.globals[1]?).map (·.type) = some 99 := by kernel_rfl
theorem cellsTab3 : Tryd.prog.cellsOf 99 = 20 := by kernel_rfl
theorem cellsU64 : Tryd.prog.cellsOf 33 = 1 := by kernel_rfl
end Go.Proofs.YtblcgicgbindlaaDoor
