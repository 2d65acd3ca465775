/- The walks of the layer quoted (program and reference): they return the plain functions' answers. Conditions: strings are of bounded length. -/
import Derived.Test.YtimfngfimnapoaaAsciiText
import Derived.Test.YtimfngfimnapoaaPlainQuoted
namespace Go.Proofs.Ytimfngfimnapoaa
open Go.RowKit Hs
set_option linter.unusedSimpArgs false
set_option linter.unusedVariables false


theorem r_text (b : UInt8) (n : Int) (h : n = (b.toNat : Int)) (w : World) : Calls Try.prog 44 #[.int .u8 n] w fun e w' => e = .returned (.bool (isTxt b)) ∧ w = w' := by
  subst h
  go_enter Try.func44, Try.ntmps44
  go_wp2
  all_goals
    go_ret
    refine ⟨ret_bool ?_, rfl⟩
    first | (refine btrue ?_; omega) | (refine bfalse ?_; omega) | (refine bdec ?_; omega) | (refine beqdec ?_; omega) | (refine bnedec ?_; omega)




set_option maxHeartbeats 800000 in
theorem r_token (s : ByteArray) (i : Nat) (w : World) (hs : s.size ≤ 100000000) : Calls Try.prog 29 #[.string s, .int .i64 i] w fun e w' => e = .returned (.int .i64 (tokEnd (un s) i)) ∧ w = w' := by
  by_cases hov : s.size < i
  · have ht : Hid (tokEnd (un s) i = i) := tokEnd_out _ _ (by rw [length_un]; omega)
    go_enter Try.func29, Try.ntmps29
    go_wp2
    all_goals (try (exfalso; omega))
    go_ret
    exact ⟨ret_int (by rw [ht.out]), rfl⟩
  go_enter Try.func29, Try.ntmps29
  go_wp2
  all_goals (try (exfalso; omega))
  go_loop [1] (fun v => ∃ k : Nat, v = .int .i64 k ∧ Hid (tokEnd (un s) i = tokEnd (un s) k)) (fun v => s.size - (intOf v).toNat)
  case atStart => exact ⟨i, rfl, rfl⟩
  case round =>
    obtain ⟨k, rfl, hk⟩ := hrel
    by_cases hlt : k < s.size
    · cases hb : isTok (s[k]'hlt)
      · have ht : Hid (tokEnd (un s) i = k) := by
          have e := hk.out
          rw [tokEnd_no (un s) k (by rw [length_un]; exact hlt) hb] at e
          exact e
        go_wp2_with (go_at_call 43; refine (ref01_isToken _ _ rfl _).mono ?_; rintro e w' ⟨rfl, rfl⟩)
        go_ret
        exact ⟨ret_int (by rw [ht.out]), rfl⟩
      · have ht : Hid (tokEnd (un s) i = tokEnd (un s) (k + 1)) := by
          have e := hk.out
          rw [tokEnd_yes (un s) k (by rw [length_un]; exact hlt) hb] at e
          exact e
        go_wp2_with (go_at_call 43; refine (ref01_isToken _ _ rfl _).mono ?_; rintro e w' ⟨rfl, rfl⟩)
        go_round
        case rel => exact ⟨k + 1, by go_num, ht⟩
        case measure => simp [intOf]; omega
    · have ht : Hid (tokEnd (un s) i = k) := by
        have e := hk.out
        rw [tokEnd_out (un s) k (by rw [length_un]; omega)] at e
        exact e
      go_wp2
      go_ret
      exact ⟨ret_int (by rw [ht.out]), rfl⟩
theorem r_token_neg (s : ByteArray) (i : Int) (w : World) (hi : i < 0) : Calls Try.prog 29 #[.string s, .int .i64 i] w fun e w' => e = .returned (.int .i64 i) ∧ w = w' := by
  go_enter Try.func29, Try.ntmps29
  go_wp2
  all_goals (try (exfalso; omega))
  go_ret
  exact ⟨rfl, rfl⟩

theorem r_token_any (s : ByteArray) (i : Int) (w : World) (hs : s.size ≤ 100000000) : Calls Try.prog 29 #[.string s, .int .i64 i] w fun e w' => e = .returned (.int .i64 (tokAt (un s) i)) ∧ w = w' := by
  by_cases h : i < 0
  · have e : tokAt (un s) i = i := if_pos h
    rw [e]
    exact r_token_neg s i w h
  · obtain ⟨n, rfl⟩ := Int.eq_ofNat_of_zero_le (show 0 ≤ i by omega)
    have e : tokAt (un s) n = (tokEnd (un s) n : Int) := by unfold tokAt; rw [if_neg h, Int.toNat_natCast]
    rw [e]
    exact r_token s n w hs

theorem r_isTokenS (s : ByteArray) (w : World) (hs : s.size ≤ 100000000) : Calls Try.prog 36 #[.string s] w fun e w' => e = .returned (.bool (tokenS (un s))) ∧ w = w' := by
  cases he : (un s).isEmpty
  · have h1 : s.toList.isEmpty = false := by rw [toList_un]; exact he
    have HE := Lib.hid he
    clear he
    go_enter Try.func36, Try.ntmps36
    go_wp2_with fail
    refine (r_token s 0 _ hs).mono ?_; rintro e w' ⟨rfl, rfl⟩
    go_wp2_with fail
    go_ret
    refine ⟨ret_bool ?_, rfl⟩
    rw [tokenS_end, HE.out, Bool.not_false, Bool.true_and, length_un, Bool.eq_iff_iff]
    simp
    omega
  · have h1 : s.toList.isEmpty = true := by rw [toList_un]; exact he
    have HE := Lib.hid he
    clear he
    go_enter Try.func36, Try.ntmps36
    go_wp2_with fail
    go_ret
    refine ⟨ret_bool ?_, rfl⟩
    rw [tokenS_end, HE.out]; rfl

/-- The value of a result of Parse. -/
abbrev qval (r : QRes) : Value := .tuple #[.string (mk r.v), .int .i64 r.n, .int .i64 r.e]

/-- The value of a result of Quote. -/
abbrev quval (r : Bs × Int) : Value := .tuple #[.string (mk r.1), .int .i64 r.2]

end Go.Proofs.Ytimfngfimnapoaa
