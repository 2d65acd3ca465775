/- The walks of the layer seconds (program and reference): they return the plain functions' answers. Conditions: strings are of bounded length; Format reads the library's table of powers. -/
import Derived.Test.YtjdkmidajhbefaaDoorAsciiWords
import Derived.Test.YtjdkmidajhbefaaDoorPlainSeconds
import Derived.Test.YtjdkmidajhbefaaDoorShelf
import Derived.Lib.AppendIntMem
import Derived.Lib.LaidTab
namespace Go.Proofs.YtjdkmidajhbefaaDoor
open Go.RowKit Hs
set_option linter.unusedSimpArgs false
set_option linter.unusedVariables false

theorem digit_no (b : UInt8) (h : isDigit b = false) : (b.toNat : Int) < 48 ∨ 57 < (b.toNat : Int) := by have := of_decide_eq_false h; omega
theorem digit_yes (b : UInt8) (h : isDigit b = true) : (48 : Int) ≤ (b.toNat : Int) ∧ (b.toNat : Int) ≤ 57 := by have := of_decide_eq_true h; omega

set_option maxHeartbeats 1000000 in
theorem s_parse (s : ByteArray) (w : World) (hs : s.size ≤ 100000000) : Calls Tryd.prog 11 #[.string s] w fun e w' => e = .returned (.tuple #[.int .i64 (secR (un s)).1, .bool (secR (un s)).2]) ∧ w = w' := by
  go_enter Tryd.func11, Tryd.ntmps11
  go_wp2
  go_loop [4, 8] (fun nv iv => ∃ k : Nat, iv = .int .i64 k ∧ k ≤ s.size ∧ nv = .int .i64 (satV ((un s).take k) 0) ∧ satV ((un s).take k) 0 ≤ 2147483647 ∧ Hid ((un s).all isDigit = ((un s).drop k).all isDigit)) (fun _ iv => s.size - (intOf iv).toNat)
  case atStart => exact ⟨0, rfl, by omega, rfl, by simp [satV], rfl⟩
  case round =>
    obtain ⟨k, rfl, hk, rfl, hle, ha⟩ := hrel
    by_cases hlt : k < s.size
    · have hlu : k < (un s).length := by rw [length_un]; exact hlt
      cases hb : isDigit (s[k]'hlt)
      · have hno : Hid (secR (un s) = (0, false)) := by
          have e : (un s).all isDigit = false := by rw [ha.out, all_drop_eq (un s) isDigit k hlu false hb]; rfl
          exact if_neg (by simp [e])
        have hd := digit_no _ hb
        clear hb ha
        go_wp2
        all_goals (try (exfalso; omega))
        all_goals
          go_ret2
          exact ⟨by rw [hno.out]; rfl, rfl⟩
      · have hyes : Hid ((un s).all isDigit = ((un s).drop (k + 1)).all isDigit) := by
          have e := ha.out
          rw [all_drop_eq (un s) isDigit k hlu true hb] at e
          exact e
        clear ha
        obtain ⟨hd1, hd2⟩ := digit_yes _ hb
        have hst := Lib.hid (satV_take (un s) k hlu)
        clear hb
        obtain ⟨v, hv⟩ : ∃ v, v = satV ((un s).take k) 0 := ⟨_, rfl⟩
        rw [← hv] at hle hst ⊢
        clear hv
        go_wp2
        all_goals (try (exfalso; omega))
        go_round
        case rel =>
          have e : satV ((un s).take (k + 1)) 0 = min (10 * v + ((s[k]'hlt).toNat - 48)) 2147483647 := hst.out
          refine ⟨k + 1, by go_num, by omega, ?_, by rw [e]; omega, hyes⟩
          rw [e]
          congr 1
          omega
        case measure => simp [intOf]; omega
    · obtain rfl : k = s.size := by omega
      have htk : (un s).take s.size = un s := List.take_of_length_le (by rw [length_un]; exact Nat.le_refl _)
      have hfin : Hid (secR (un s) = (satV (un s) 0, !(un s).isEmpty)) := by
        have e : (un s).all isDigit = true := by rw [ha.out, List.drop_eq_nil_of_le (by rw [length_un]; exact Nat.le_refl _)]; rfl
        exact if_pos e
      rw [htk]
      clear ha hle htk
      go_wp2
      go_ret2
      refine ⟨?_, rfl⟩
      rw [hfin.out]
      simp [toList_un]


theorem s_limited (n m : Int) (w : World) (h0 : 0 ≤ m) : Calls Tryd.prog 13 #[.int .i64 n, .int .i64 m] w fun e w' => e = .returned (.int .i64 (lim n m)) ∧ w = w' := by
  go_enter Tryd.func13, Tryd.ntmps13
  go_wp2
  go_ret
  exact ⟨ret_int (by unfold lim; omega), rfl⟩
theorem lim_bound (n m : Int) (h : 0 ≤ m) : 0 ≤ lim n m ∧ lim n m ≤ m := by unfold lim; omega

/-- The library's table of powers of ten holds what it should. -/
def Pow10 (w : World) : Prop := Lib.TabIs Tryd.prog w "internal/strconv.uint64pow10" .u64 Lib.pow10Tab ∧ 7 ≤ w.heap.size
theorem s_format (n : Int) (w : World) (htab : Lib.TabIs Tryd.prog w "internal/strconv.uint64pow10" .u64 Lib.pow10Tab) : Calls Tryd.prog 8 #[.int .i64 n] w fun e w' => e = .returned (.string (mk (Lib.decDigits (lim n 2147483647).toNat))) ∧ Below w.heap.size w w' := by
  obtain ⟨b1, b2⟩ := lim_bound n 2147483647 (by omega)
  have hi : Hid (Lib.itoa (lim n 2147483647) = Lib.decDigits (lim n 2147483647).toNat) := by
    show (if lim n 2147483647 < 0 then _ else _) = _
    rw [if_neg (by omega)]
  have HT := Lib.hid htab
  clear htab
  go_enter Tryd.func8, Tryd.ntmps8
  go_wp2_with fail
  refine (s_limited n 2147483647 _ (by omega)).mono ?_; rintro e w' ⟨rfl, rfl⟩
  go_wp2_with fail
  refine (Tryd.strconv_Itoa (lim n 2147483647) (by omega) (by omega) _ HT.out).mono ?_; rintro e w1 ⟨rfl, k, os, rfl⟩
  rw [hi.out]
  go_wp2_with fail
  go_ret
  exact ⟨rfl, Lib.below_grow _ _ (Nat.le_refl _) _ _⟩

end Go.Proofs.YtjdkmidajhbefaaDoor
