/- The walks of token and value of the layer fields (program): they return the plain functions' answers. Conditions: strings are of bounded length. -/
import Derived.Test.YtimfngfimnapoaaAsciiBytes
import Derived.Test.YtimfngfimnapoaaPlainFields
namespace Go.Proofs.Ytimfngfimnapoaa
open Go.RowKit Hs
set_option linter.unusedSimpArgs false
set_option linter.unusedVariables false

theorem f_token (s : ByteArray) (w : World) (hs : s.size ≤ 100000000) : Calls Try.prog 24 #[.string s] w fun e w' => e = .returned (.bool (tokenS (un s))) ∧ w = w' := by
  obtain ⟨emp, hemp⟩ : ∃ b, b = (un s).isEmpty := ⟨_, rfl⟩
  have h1 : s.toList.isEmpty = emp := by rw [toList_un, hemp]
  have HE := Lib.hid hemp
  clear hemp
  go_enter Try.func24, Try.ntmps24
  go_wp2
  go_loop [6] (fun i => ∃ k : Nat, i = .int .i64 k ∧ k ≤ s.size ∧ Hid ((un s).all isTok = ((un s).drop k).all isTok)) (fun i => s.size - (intOf i).toNat)
  case atStart => exact ⟨0, rfl, by omega, rfl⟩
  case round =>
    obtain ⟨k, rfl, hk, ha⟩ := hrel
    by_cases hlt : k < s.size
    · cases hb : isTok (s[k]'hlt)
      · have hno : Hid (false = tokenS (un s)) := by
          show false = _
          unfold tokenS
          rw [ha.out, all_drop_eq (un s) isTok k (by rw [length_un]; omega) false hb]; simp
        go_wp2_with (go_at_call 41; refine (ascii_isToken _ _ rfl _).mono ?_; rintro e w' ⟨rfl, rfl⟩)
        go_ret
        exact ⟨ret_bool hno.out, rfl⟩
      · have hyes : Hid ((un s).all isTok = ((un s).drop (k + 1)).all isTok) := by
          have e := ha.out
          rw [all_drop_eq (un s) isTok k (by rw [length_un]; omega) true hb] at e
          exact e
        go_wp2_with (go_at_call 41; refine (ascii_isToken _ _ rfl _).mono ?_; rintro e w' ⟨rfl, rfl⟩)
        go_round
        case rel => exact ⟨k + 1, by go_num, by omega, hyes⟩
        case measure => simp [intOf]; omega
    · obtain rfl : k = s.size := by omega
      have hfin : Hid ((!emp) = tokenS (un s)) := by
        show _ = _
        unfold tokenS
        rw [ha.out, List.drop_eq_nil_of_le (by rw [length_un]; exact Nat.le_refl _), HE.out]; simp
      clear ha
      go_wp2
      go_ret
      exact ⟨ret_bool (by rw [← hfin.out]; try rfl), rfl⟩

theorem f_value (s : ByteArray) (w : World) (hs : s.size ≤ 100000000) : Calls Try.prog 25 #[.string s] w fun e w' => e = .returned (.bool ((un s).all isTxt)) ∧ w = w' := by
  go_enter Try.func25, Try.ntmps25
  go_wp2
  go_loop [7] (fun i => ∃ k : Nat, i = .int .i64 k ∧ k ≤ s.size ∧ Hid ((un s).all isTxt = ((un s).drop k).all isTxt)) (fun i => s.size - (intOf i).toNat)
  case atStart => exact ⟨0, rfl, by omega, rfl⟩
  case round =>
    obtain ⟨k, rfl, hk, ha⟩ := hrel
    by_cases hlt : k < s.size
    · cases hb : isTxt (s[k]'hlt)
      · have hno : Hid (false = (un s).all isTxt) := by
          rw [ha.out, all_drop_eq (un s) isTxt k (by rw [length_un]; omega) false hb]; rfl
        have hb' := of_decide_eq_false hb
        clear hb ha
        go_wp2
        all_goals (try (exfalso; omega))
        all_goals
          go_ret
          exact ⟨ret_bool hno.out, rfl⟩
      · have hyes : Hid ((un s).all isTxt = ((un s).drop (k + 1)).all isTxt) := by
          have e := ha.out
          rw [all_drop_eq (un s) isTxt k (by rw [length_un]; omega) true hb] at e
          exact e
        have hb' := of_decide_eq_true hb
        clear hb ha
        go_wp2
        all_goals (try (exfalso; omega))
        all_goals
          go_round
          case rel => exact ⟨k + 1, by go_num, by omega, hyes⟩
          case measure => simp [intOf]; omega
    · obtain rfl : k = s.size := by omega
      have hfin : Hid (true = (un s).all isTxt) := by
        rw [ha.out, List.drop_eq_nil_of_le (by rw [length_un]; exact Nat.le_refl _)]; rfl
      clear ha
      go_wp2
      go_ret
      exact ⟨ret_bool hfin.out, rfl⟩
end Go.Proofs.Ytimfngfimnapoaa
