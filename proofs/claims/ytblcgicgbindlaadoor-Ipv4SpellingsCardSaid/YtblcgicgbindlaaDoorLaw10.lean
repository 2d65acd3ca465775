/- The walk of awake of layer 10. Conditions: the library's tables stand. -/
import Derived.Test.YtblcgicgbindlaaDoorIpv4X
import Derived.Test.YtblcgicgbindlaaDoorIpv4Y
import Derived.Test.YtblcgicgbindlaaDoorIpv4Z
namespace Go.Proofs.YtblcgicgbindlaaDoor
open Go.RowKit Hs
set_option linter.unusedSimpArgs false
set_option linter.unusedVariables false

theorem ex10a : numsV [49, 50, 55, 46, 49] = (2130706433, true) := by kernel_rfl
theorem ex10b : parseV [49, 46, 50, 46, 51, 46, 52] = (16909060, true) := by kernel_rfl
theorem ex10c : fmtV 16909060 = [49, 46, 50, 46, 51, 46, 52] := by kernel_rfl
theorem ex10d : numericV [97, 46, 48, 57] = true := by kernel_rfl
set_option maxHeartbeats 2000000 in
theorem law10_awake (w : World) (hB : Base w) : Calls Tryd.prog 11 #[] w fun e w' => e = .returned (.bool true) ∧ Below w.heap.size w w' := by
  have HB := Lib.hid hB
  have c1 := i4_numbers ⟨#[49, 50, 55, 46, 49]⟩ w hB (by decide)
  have c2 := fun W h => i4_parse ⟨#[49, 46, 50, 46, 51, 46, 52]⟩ W h (by decide)
  have c3 := fun W h => i4_format 16909060 W h (by omega)
  have c4 := fun W h => i4_numeric ⟨#[97, 46, 48, 57]⟩ W h (by decide)
  have e1 : un ⟨#[49, 50, 55, 46, 49]⟩ = [49, 50, 55, 46, 49] := rfl
  have e2 : un ⟨#[49, 46, 50, 46, 51, 46, 52]⟩ = [49, 46, 50, 46, 51, 46, 52] := rfl
  have e4 : un ⟨#[97, 46, 48, 57]⟩ = [97, 46, 48, 57] := rfl
  simp only [e1, ex10a] at c1
  simp only [e2, ex10b] at c2
  simp only [ex10c] at c3
  simp only [e4, ex10d] at c4
  have C1 := Lib.hid c1; have C2 := Lib.hid c2; have C3 := Lib.hid c3; have C4 := Lib.hid c4
  clear c1 c2 c3 c4 e1 e2 e4 hB
  go_enter Tryd.func11, Tryd.ntmps11
  go_wp2_with fail
  refine C1.out.mono ?_; rintro e w1 ⟨rfl, hb1⟩
  have B1 := HB.out.below hb1
  go_wp2_with fail
  refine (C2.out _ B1).mono ?_; rintro e w2 ⟨rfl, hb2⟩
  have B2 := B1.below hb2
  have hb3 := hb1.trans (hb2.mono hb1.size)
  go_wp2_with fail
  refine (C3.out _ B2).mono ?_; rintro e w3 ⟨rfl, hb4⟩
  have B3 := B2.below hb4
  have hb5 := hb3.trans (hb4.mono hb3.size)
  have hq : (mk [49, 46, 50, 46, 51, 46, 52]).toList = [49, 46, 50, 46, 51, 46, 52] := toList_mk' _
  clear hb1 hb2 hb3 hb4 B1 B2
  go_wp2_with fail
  refine (C4.out _ B3).mono ?_; rintro e w4 ⟨rfl, hb6⟩
  go_wp2_with fail
  go_ret
  exact ⟨rfl, hb5.trans (hb6.mono hb5.size)⟩
end Go.Proofs.YtblcgicgbindlaaDoor
