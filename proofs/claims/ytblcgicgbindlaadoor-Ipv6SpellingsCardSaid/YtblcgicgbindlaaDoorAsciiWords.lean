/- The walks of Words and Digits (program and reference), and of the helpers Short and Texts. Conditions: the strings' lengths are bounded. -/
import Derived.Test.YtblcgicgbindlaaDoorAsciiText
namespace Go.Proofs.YtblcgicgbindlaaDoor
open Go.RowKit Hs
set_option linter.unusedSimpArgs false
set_option linter.unusedVariables false




set_option maxHeartbeats 1500000 in
theorem ref01_digits (s : ByteArray) (w : World) (hs : s.size ≤ 100000000) : Calls Tryd.prog 39 #[.string s] w fun e w' => e = .returned (.bool (digits (un s))) ∧ w = w' := by
  go_enter Tryd.func39, Tryd.ntmps39
  go_wp2
  go_loop [3] (fun i => ∃ k : Nat, i = .int .i64 k ∧ k ≤ s.size ∧ Hid ((un s).all isDigit = ((un s).drop k).all isDigit)) (fun i => s.size - (intOf i).toNat)
  case atStart => exact ⟨0, rfl, by omega, rfl⟩
  case round =>
    obtain ⟨k, rfl, hk, ha⟩ := hrel
    by_cases hlt : k < s.size
    · cases hb : isDigit (s[k]'hlt)
      · have hno : Hid (false = digits (un s)) := by
          have e1 := ha.out
          unfold digits
          rw [e1, all_drop_eq (un s) isDigit k (by rw [length_un]; omega) false hb]; simp [Hid]
        have hb2 := hb; simp only [isDigit, decide_eq_false_iff_not] at hb2
        go_wp2
        all_goals
          first
          | (go_ret
             exact ⟨ret_bool hno.out, rfl⟩)
          | (exfalso; omega)
      · have hyes : Hid ((un s).all isDigit = ((un s).drop (k + 1)).all isDigit) := by
          have e1 := ha.out
          rw [e1, all_drop_eq (un s) isDigit k (by rw [length_un]; omega) true hb]; simp [Hid]
        have hb2 := hb; simp only [isDigit, decide_eq_true_eq] at hb2
        go_wp2
        all_goals
          first
          | (exfalso; omega)
          | (go_round
             case rel => exact ⟨k + 1, by go_num, by omega, hyes⟩
             case measure => simp [intOf]; omega)
    · obtain rfl : k = s.size := by omega
      have hfin : Hid ((un s).all isDigit = true) := by
        have e1 := ha.out
        rw [List.drop_eq_nil_of_le (by rw [length_un]; omega)] at e1
        exact e1
      clear ha
      go_wp2
      go_ret
      exact ⟨ret_bool (by unfold digits; rw [hfin.out, toList_un]; simp), rfl⟩


end Go.Proofs.YtblcgicgbindlaaDoor
