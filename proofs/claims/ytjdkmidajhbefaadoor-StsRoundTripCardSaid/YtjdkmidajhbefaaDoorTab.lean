/- What the library's table of powers of ten gives the walks. Conditions: none. -/
import Derived.Test.YtjdkmidajhbefaaDoorRows
import Derived.Test.YtjdkmidajhbefaaDoorKit
import Derived.Test.YtjdkmidajhbefaaDoorLaidKit
import Derived.Lib.LaidTab
import Derived.Lib.ItoaNum
import Derived.Stop.LaidErr
namespace Go.Proofs.YtjdkmidajhbefaaDoor
open Go.RowKit Hs
set_option linter.unusedVariables false

/-- The library's table of powers of ten stands, in memory that exists. -/
def Tab (w : World) : Prop := Lib.TabIs Tryd.prog w "internal/strconv.uint64pow10" .u64 Lib.pow10Tab ∧ 0 < w.heap.size
theorem gTab : Tryd.prog.globalNamed "internal/strconv.uint64pow10" = some 0 := by kernel_rfl
theorem Tab.below {w w' : World} (h : Tab w) (hb : Below w.heap.size w w') : Tab w' := by
  refine ⟨?_, by have := hb.size; have := h.2; omega⟩
  have h1 := h.1
  unfold Lib.TabIs at *
  rw [← h1]
  unfold World.var?
  rw [gTab]
  simp only [Option.bind_some]
  rw [hb.block _ h.2]
theorem tTab3 : (Tryd.prog.globals[0]?).map (·.type) = some 70 := by kernel_rfl
theorem cellsTab3 : Tryd.prog.cellsOf 70 = 20 := by kernel_rfl
theorem cellsU64 : Tryd.prog.cellsOf 56 = 1 := by kernel_rfl
end Go.Proofs.YtjdkmidajhbefaaDoor
