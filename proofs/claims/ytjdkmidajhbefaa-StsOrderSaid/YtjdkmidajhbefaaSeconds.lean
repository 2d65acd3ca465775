/- The walks of the layer seconds (program and reference): they return the plain functions' answers. Conditions: strings are of bounded length; Format reads the library's table of powers. -/
import Derived.Test.YtjdkmidajhbefaaAsciiWords
import Derived.Test.YtjdkmidajhbefaaPlainSeconds
import Derived.Test.YtjdkmidajhbefaaShelf
import Derived.Lib.AppendIntMem
import Derived.Lib.LaidTab
namespace Go.Proofs.Ytjdkmidajhbefaa
open Go.RowKit Hs
set_option linter.unusedSimpArgs false
set_option linter.unusedVariables false

theorem digit_no (b : UInt8) (h : isDigit b = false) : (b.toNat : Int) < 48 ∨ 57 < (b.toNat : Int) := by have := of_decide_eq_false h; omega
theorem digit_yes (b : UInt8) (h : isDigit b = true) : (48 : Int) ≤ (b.toNat : Int) ∧ (b.toNat : Int) ≤ 57 := by have := of_decide_eq_true h; omega

set_option maxHeartbeats 1000000 in
theorem s_parse (s : ByteArray) (w : World) (hs : s.size ≤ 100000000) : Calls Try.prog 46 #[.string s] w fun e w' => e = .returned (.tuple #[.int .i64 (secR (un s)).1, .bool (secR (un s)).2]) ∧ w = w' := by
  go_enter Try.func46, Try.ntmps46
  go_wp2
  go_loop [4, 8] (fun nv iv => ∃ k : Nat, iv = .int .i64 k ∧ k ≤ s.size ∧ nv = .int .i64 (satV ((un s).take k) 0) ∧ satV ((un s).take k) 0 ≤ 2147483647 ∧ Hid ((un s).all isDigit = ((un s).drop k).all isDigit)) (fun _ iv => s.size - (intOf iv).toNat)
  case atStart => exact ⟨0, rfl, by omega, rfl, by simp [satV], rfl⟩
  case round =>
    obtain ⟨k, rfl, hk, rfl, hle, ha⟩ := hrel
    by_cases hlt : k < s.size
    · have hlu : k < (un s).length := by rw [length_un]; exact hlt
      cases hb : isDigit (s[k]'hlt)
      · have hno : Hid (secR (un s) = (0, false)) := by
          have e : (un s).all isDigit = false := by rw [ha.out, all_drop_eq (un s) isDigit k hlu false hb]; rfl
          exact if_neg (by simp [e])
        have hd := digit_no _ hb
        clear hb ha
        go_wp2
        all_goals (try (exfalso; omega))
        all_goals
          go_ret2
          exact ⟨by rw [hno.out]; rfl, rfl⟩
      · have hyes : Hid ((un s).all isDigit = ((un s).drop (k + 1)).all isDigit) := by
          have e := ha.out
          rw [all_drop_eq (un s) isDigit k hlu true hb] at e
          exact e
        clear ha
        obtain ⟨hd1, hd2⟩ := digit_yes _ hb
        have hst := Lib.hid (satV_take (un s) k hlu)
        clear hb
        obtain ⟨v, hv⟩ : ∃ v, v = satV ((un s).take k) 0 := ⟨_, rfl⟩
        rw [← hv] at hle hst ⊢
        clear hv
        go_wp2
        all_goals (try (exfalso; omega))
        go_round
        case rel =>
          have e : satV ((un s).take (k + 1)) 0 = min (10 * v + ((s[k]'hlt).toNat - 48)) 2147483647 := hst.out
          refine ⟨k + 1, by go_num, by omega, ?_, by rw [e]; omega, hyes⟩
          rw [e]
          congr 1
          omega
        case measure => simp [intOf]; omega
    · obtain rfl : k = s.size := by omega
      have htk : (un s).take s.size = un s := List.take_of_length_le (by rw [length_un]; exact Nat.le_refl _)
      have hfin : Hid (secR (un s) = (satV (un s) 0, !(un s).isEmpty)) := by
        have e : (un s).all isDigit = true := by rw [ha.out, List.drop_eq_nil_of_le (by rw [length_un]; exact Nat.le_refl _)]; rfl
        exact if_pos e
      rw [htk]
      clear ha hle htk
      go_wp2
      go_ret2
      refine ⟨?_, rfl⟩
      rw [hfin.out]
      simp [toList_un]

set_option maxHeartbeats 1000000 in
theorem r4_parse (s : ByteArray) (w : World) (hs : s.size ≤ 100000000) : Calls Try.prog 47 #[.string s] w fun e w' => e = .returned (.tuple #[.int .i64 (secR (un s)).1, .bool (secR (un s)).2]) ∧ w = w' := by
  have hsec := secR_digits (un s)
  cases hdg : digits (un s)
  · rw [hdg] at hsec
    have HS : Hid (secR (un s) = (0, false)) := hsec
    have HD := Lib.hid hdg
    clear hsec hdg
    go_enter Try.func47, Try.ntmps47
    go_wp2_with fail
    refine (ref01_digits s _ hs).mono ?_; rintro e w' ⟨rfl, rfl⟩
    rw [HD.out]
    go_wp2_with fail
    go_ret2
    exact ⟨by rw [HS.out]; rfl, rfl⟩
  · rw [hdg] at hsec
    have HS : Hid (secR (un s) = (satV (un s) 0, true)) := hsec
    have hall : (un s).all isDigit = true := by unfold digits at hdg; simp only [Bool.and_eq_true] at hdg; exact hdg.2
    have HA := Lib.hid (List.all_eq_true.1 hall)
    have HD := Lib.hid hdg
    clear hsec hdg hall
    go_enter Try.func47, Try.ntmps47
    go_wp2_with fail
    refine (ref01_digits s _ hs).mono ?_; rintro e w' ⟨rfl, rfl⟩
    rw [HD.out]
    go_wp2_with fail
    go_loop [4, 5] (fun nv iv => ∃ k : Nat, iv = .int .i64 k ∧ k ≤ s.size ∧ nv = .int .i64 (satV ((un s).take k) 0) ∧ satV ((un s).take k) 0 ≤ 2147483647) (fun _ iv => s.size - (intOf iv).toNat)
    case atStart => exact ⟨0, rfl, by omega, rfl, by simp [satV]⟩
    case round =>
      obtain ⟨k, rfl, hk, rfl, hle⟩ := hrel
      by_cases hlt : k < s.size
      · have hlu : k < (un s).length := by rw [length_un]; exact hlt
        have hb : isDigit (s[k]'hlt) = true := HA.out _ (List.getElem_mem hlu)
        obtain ⟨hd1, hd2⟩ := digit_yes _ hb
        have hst := Lib.hid (satV_take (un s) k hlu)
        clear hb
        obtain ⟨v, hv⟩ : ∃ v, v = satV ((un s).take k) 0 := ⟨_, rfl⟩
        rw [← hv] at hle hst ⊢
        clear hv
        go_wp2
        all_goals (try (exfalso; omega))
        go_round
        case rel =>
          have e : satV ((un s).take (k + 1)) 0 = min (10 * v + ((s[k]'hlt).toNat - 48)) 2147483647 := hst.out
          refine ⟨k + 1, by go_num, by omega, ?_, by rw [e]; omega⟩
          rw [e]
          congr 1
          omega
        case measure => simp [intOf]; omega
      · obtain rfl : k = s.size := by omega
        have htk : (un s).take s.size = un s := List.take_of_length_le (by rw [length_un]; exact Nat.le_refl _)
        rw [htk]
        clear hle htk
        go_wp2
        go_ret2
        exact ⟨by rw [HS.out]; rfl, rfl⟩

end Go.Proofs.Ytjdkmidajhbefaa
