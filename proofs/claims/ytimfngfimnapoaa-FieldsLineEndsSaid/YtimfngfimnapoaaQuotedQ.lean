/- The walks of the layer quoted (program and reference): they return the plain functions' answers. Conditions: strings are of bounded length. -/
import Derived.Test.YtimfngfimnapoaaQuoted
namespace Go.Proofs.Ytimfngfimnapoaa
open Go.RowKit Hs
set_option linter.unusedSimpArgs false
set_option linter.unusedVariables false


theorem r_value (s : ByteArray) (w : World) (hs : s.size ≤ 100000000) : Calls Try.prog 30 #[.string s] w fun e w' => e = .returned (.bool ((un s).all isTxt)) ∧ w = w' := by
  go_enter Try.func30, Try.ntmps30
  go_wp2
  go_loop [3] (fun i => ∃ k : Nat, i = .int .i64 k ∧ k ≤ s.size ∧ Hid ((un s).all isTxt = ((un s).drop k).all isTxt)) (fun i => s.size - (intOf i).toNat)
  case atStart => exact ⟨0, rfl, by omega, rfl⟩
  case round =>
    obtain ⟨k, rfl, hk, ha⟩ := hrel
    by_cases hlt : k < s.size
    · cases hb : isTxt (s[k]'hlt)
      · have hno : Hid (false = (un s).all isTxt) := by
          rw [ha.out, all_drop_eq (un s) isTxt k (by rw [length_un]; omega) false hb]; rfl
        go_wp2_with (go_at_call 44; refine (r_text _ _ rfl _).mono ?_; rintro e w' ⟨rfl, rfl⟩)
        go_ret
        exact ⟨ret_bool hno.out, rfl⟩
      · have hyes : Hid ((un s).all isTxt = ((un s).drop (k + 1)).all isTxt) := by
          have e := ha.out
          rw [all_drop_eq (un s) isTxt k (by rw [length_un]; omega) true hb] at e
          exact e
        go_wp2_with (go_at_call 44; refine (r_text _ _ rfl _).mono ?_; rintro e w' ⟨rfl, rfl⟩)
        go_round
        case rel => exact ⟨k + 1, by go_num, by omega, hyes⟩
        case measure => simp [intOf]; omega
    · obtain rfl : k = s.size := by omega
      have hfin : Hid (true = (un s).all isTxt) := by
        rw [ha.out, List.drop_eq_nil_of_le (by rw [length_un]; exact Nat.le_refl _)]; rfl
      clear ha
      go_wp2
      go_ret
      exact ⟨ret_bool hfin.out, rfl⟩

end Go.Proofs.Ytimfngfimnapoaa
