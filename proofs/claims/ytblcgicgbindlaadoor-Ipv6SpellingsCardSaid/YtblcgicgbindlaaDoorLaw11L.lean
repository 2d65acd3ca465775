/- What the rows of layer 11 give the walks: beside the rest, the library's table of trailing zeros. Conditions: none. -/
import Derived.Test.YtblcgicgbindlaaDoorIpv6U
import Derived.Test.YtblcgicgbindlaaDoorLaw10L
namespace Go.Proofs.YtblcgicgbindlaaDoor
open Go.RowKit Hs
set_option linter.unusedVariables false

theorem gTz : Tryd.prog.globalNamed "math/bits.deBruijn64tab" = some 5 := by kernel_rfl
theorem tTz : (Tryd.prog.globals[5]?).map (·.type) = some 114 := by kernel_rfl
theorem base6_of {W : World} (h : laidMetH Tryd.prog Rows.ipv4MatchesSpecRow.laid W) (hsh : W.ShapedOpen Tryd.prog) : Base6 W := by
  refine ⟨base_of h hsh, ?_⟩
  rw [MakeChecks.laidMetH_plain _ _ _ (by kernel_rfl)] at h
  have h0 := laidMet.tail h
  have h1 : Lib.TabIs Tryd.prog W "math/bits.deBruijn64tab" .u8 [0, 1, 56, 2, 57, 49, 28, 3, 61, 58, 42, 50, 38, 29, 17, 4, 62, 47, 59, 36, 45, 43, 51, 22, 53, 39, 33, 30, 24, 18, 12, 5, 63, 55, 48, 27, 60, 41, 37, 16, 46, 35, 44, 21, 52, 32, 23, 11, 54, 26, 40, 15, 34, 20, 31, 10, 25, 14, 19, 9, 13, 8, 7, 6] := Lib.tabIs_of_head gTz tTz Tryd.underlying114 Tryd.underlying5 (by kernel_rfl) (by kernel_rfl) h0
  exact h1.cell gTz 15 (by decide)
end Go.Proofs.YtblcgicgbindlaaDoor
