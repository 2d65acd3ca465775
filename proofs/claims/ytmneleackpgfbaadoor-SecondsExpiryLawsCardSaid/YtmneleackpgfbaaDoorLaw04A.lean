/- The walk of SecondsMatchSpec: returns true; memory that existed is unchanged. Conditions: the library's table of powers of ten holds what it should. -/
import Derived.Test.YtmneleackpgfbaaDoorSeconds
import Derived.Test.YtmneleackpgfbaaDoorFromInt
import Derived.Test.YtmneleackpgfbaaDoorAsciiWords
import Derived.Test.YtmneleackpgfbaaDoorLaidKit
namespace Go.Proofs.YtmneleackpgfbaaDoor
open Go.RowKit Hs
set_option linter.unusedSimpArgs false
set_option linter.unusedVariables false

/-- The library's table of powers of ten stands, in memory that exists. -/
def Tab (w : World) : Prop := Lib.TabIs Tryd.prog w "internal/strconv.uint64pow10" .u64 Lib.pow10Tab ∧ 0 < w.heap.size
theorem gTab : Tryd.prog.globalNamed "internal/strconv.uint64pow10" = some 0 := by kernel_rfl
theorem Tab.below {w w' : World} (h : Tab w) (hb : Below w.heap.size w w') : Tab w' := by
  refine ⟨?_, by have := hb.size; have := h.2; omega⟩
  have h1 := h.1
  unfold Lib.TabIs at *
  rw [← h1]
  unfold World.var?
  rw [gTab]
  simp only [Option.bind_some]
  rw [hb.block _ h.2]

theorem dec5 : mk (Lib.decDigits (lim 5 2147483647).toNat) = ⟨#[53]⟩ := by
  have : (lim 5 2147483647).toNat = 5 := by decide
  rw [this, Lib.decDigits, dif_pos (by omega)]; rfl

theorem law04_awake (w : World) (hN : Tab w) : Calls Tryd.prog 11 #[] w fun e w' => e = .returned (.bool true) ∧ Below w.heap.size w w' := by
  have e1 : secR (un ⟨#[48, 51, 49, 53, 51, 54, 48, 48, 48]⟩) = (31536000, true) := by decide +kernel
  have e2 : secR (un ⟨#[57, 57, 57, 57, 57, 57, 57, 57, 57, 57, 57]⟩) = (2147483647, true) := by decide +kernel
  have e3 := dec5
  have e4 : expiryV 3 4 = 7 := by decide
  have E1 := Lib.hid e1; have E2 := Lib.hid e2; have E3 := Lib.hid e3; have E4 := Lib.hid e4
  have HN := Lib.hid hN
  clear e1 e2 e3 e4 hN
  go_enter Tryd.func11, Tryd.ntmps11
  go_wp2_with fail
  refine (s_parse _ _ (by decide)).mono ?_; rintro e w1 ⟨rfl, rfl⟩
  rw [E1.out]
  go_wp2_with fail
  refine (s_parse _ _ (by decide)).mono ?_; rintro e w1 ⟨rfl, rfl⟩
  rw [E2.out]
  go_wp2_with fail
  refine (s_format 5 _ HN.out.1).mono ?_; rintro e w1 ⟨rfl, hb1⟩
  rw [E3.out]
  go_wp2_with fail
  refine (s_expiry 3 4 _).mono ?_; rintro e w2 ⟨rfl, rfl⟩
  rw [E4.out]
  go_wp2_with fail
  refine (s_expired 7 7 _).mono ?_; rintro e w2 ⟨rfl, rfl⟩
  go_wp2_with fail
  go_ret
  exact ⟨rfl, hb1⟩
end Go.Proofs.YtmneleackpgfbaaDoor
