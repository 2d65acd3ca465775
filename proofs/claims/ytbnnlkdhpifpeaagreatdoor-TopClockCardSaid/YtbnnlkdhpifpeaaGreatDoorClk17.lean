/- What the proof of TopClock uses, part Clk17. -/
import Derived.Test.YtbnnlkdhpifpeaaGreatDoorClk01
import Derived.LaidMore
import Derived.SevenTiedAt
set_option linter.unusedSimpArgs false
set_option linter.unusedVariables false
namespace Go.Proofs.YtbnnlkdhpifpeaaGreatDoor.topClock
open Go.ChangeShapes Go.WideShapes Go.ChangeAt Go.RowKit
set_option maxRecDepth 100000
set_option maxHeartbeats 100000000
theorem UW:joinedFacts Tryz.prog 3 Tryz.f3 Rows.topClockSpec Rows.topClockRow=true:=by
 unfold joinedFacts
 repeat' (refine (Bool.and_eq_true _ _).mpr ⟨?_,?_⟩)
 all_goals (as_aux_lemma=>kernel_rfl)
end Go.Proofs.YtbnnlkdhpifpeaaGreatDoor.topClock
