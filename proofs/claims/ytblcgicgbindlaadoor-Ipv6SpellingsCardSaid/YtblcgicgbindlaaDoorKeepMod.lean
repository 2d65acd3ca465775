/- The walk of keep.Mod: the remainder that is not negative. Conditions: the divisor is positive. -/
import Derived.Test.YtblcgicgbindlaaDoorRows
import Derived.Test.YtblcgicgbindlaaDoorKit
namespace Go.Proofs.YtblcgicgbindlaaDoor
open Go.RowKit Hs
set_option linter.unusedSimpArgs false
set_option linter.unusedVariables false

theorem tmod_emod (n m : Int) (h : 0 < m) : (n.tmod m < 0 → n.tmod m + m = n % m) ∧ (0 ≤ n.tmod m → n.tmod m = n % m) ∧ -m < n.tmod m ∧ n.tmod m < m := by
  have h1 := Int.emod_add_mul_ediv n m
  have h2 := Int.tmod_add_mul_tdiv n m
  have h3 := Int.emod_nonneg n (show m ≠ 0 by omega)
  have h4 := Int.emod_lt_of_pos n h
  have h5 : -m < n.tmod m := by
    rcases Int.lt_or_le n 0 with hn | hn
    · have := Int.lt_tmod_of_pos n h; omega
    · have := Int.tmod_nonneg m hn; omega
  have h6 : n.tmod m < m := Int.tmod_lt_of_pos n h
  refine ⟨fun hneg => ?_, fun hpos => ?_, h5, h6⟩
  · have e : (n.tmod m + m - n % m) = m * (n / m - n.tdiv m + 1) := by
      rw [Int.mul_add, Int.mul_sub]; omega
    have hz : n / m - n.tdiv m + 1 = 0 := by
      rcases Int.lt_trichotomy (n / m - n.tdiv m + 1) 0 with h | h | h
      · have : m * (n / m - n.tdiv m + 1) ≤ m * (-1) := Int.mul_le_mul_of_nonneg_left (by omega) (by omega)
        omega
      · exact h
      · have : m * 1 ≤ m * (n / m - n.tdiv m + 1) := Int.mul_le_mul_of_nonneg_left (by omega) (by omega)
        omega
    rw [hz] at e; omega
  · have e : (n.tmod m - n % m) = m * (n / m - n.tdiv m) := by
      rw [Int.mul_sub]; omega
    have hz : n / m - n.tdiv m = 0 := by
      rcases Int.lt_trichotomy (n / m - n.tdiv m) 0 with h | h | h
      · have : m * (n / m - n.tdiv m) ≤ m * (-1) := Int.mul_le_mul_of_nonneg_left (by omega) (by omega)
        omega
      · exact h
      · have : m * 1 ≤ m * (n / m - n.tdiv m) := Int.mul_le_mul_of_nonneg_left (by omega) (by omega)
        omega
    rw [hz] at e; omega

theorem keep_mod (n m : Int) (w : World) (hn : (Lit.int .i64 n).wf = true) (hm : 0 < m) (hm2 : m ≤ 1000000000000) : Calls Tryd.prog 20 #[.int .i64 n, .int .i64 m] w fun e w' => e = .returned (.int .i64 (n % m)) ∧ w = w' := by
  obtain ⟨h1, h2, h3, h4⟩ := tmod_emod n m hm
  have H1 := Lib.hid h1
  have H2 := Lib.hid h2
  have hm0 : (m == 0) = false := by simp; omega
  clear h1 h2 hn
  go_enter Tryd.func20, Tryd.ntmps20
  go_wp2
  · go_ret
    exact ⟨ret_int (H1.out (by assumption)), rfl⟩
  · go_ret
    exact ⟨ret_int (H2.out (by assumption)), rfl⟩
end Go.Proofs.YtblcgicgbindlaaDoor
