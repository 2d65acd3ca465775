/- The walks of the layer quoted (program and reference): they return the plain functions' answers. Conditions: strings are of bounded length. -/
import Derived.Test.YtjdkmidajhbefaaDoorAsciiText
import Derived.Test.YtjdkmidajhbefaaDoorPlainQuoted
import Derived.Test.YtjdkmidajhbefaaDoorBuilder
namespace Go.Proofs.YtjdkmidajhbefaaDoor
open Go.RowKit Hs
set_option linter.unusedSimpArgs false
set_option linter.unusedVariables false

theorem q_text (b : UInt8) (n : Int) (h : n = (b.toNat : Int)) (w : World) : Calls Tryd.prog 31 #[.int .u8 n] w fun e w' => e = .returned (.bool (isTxt b)) ∧ w = w' := by
  subst h
  go_enter Tryd.func31, Tryd.ntmps31
  go_wp2
  all_goals
    go_ret
    refine ⟨ret_bool ?_, rfl⟩
    first | (refine btrue ?_; omega) | (refine bfalse ?_; omega) | (refine bdec ?_; omega) | (refine beqdec ?_; omega) | (refine bnedec ?_; omega)


set_option maxHeartbeats 800000 in
theorem q_token (s : ByteArray) (i : Nat) (w : World) (hs : s.size ≤ 100000000) : Calls Tryd.prog 24 #[.string s, .int .i64 i] w fun e w' => e = .returned (.int .i64 (tokEnd (un s) i)) ∧ w = w' := by
  go_enter Tryd.func24, Tryd.ntmps24
  go_wp2
  skip
  go_loop [1] (fun v => ∃ k : Nat, v = .int .i64 k ∧ Hid (tokEnd (un s) i = tokEnd (un s) k)) (fun v => s.size - (intOf v).toNat)
  case atStart => exact ⟨i, rfl, rfl⟩
  case round =>
    obtain ⟨k, rfl, hk⟩ := hrel
    by_cases hlt : k < s.size
    · cases hb : isTok (s[k]'hlt)
      · have ht : Hid (tokEnd (un s) i = k) := by
          have e := hk.out
          rw [tokEnd_no (un s) k (by rw [length_un]; exact hlt) hb] at e
          exact e
        go_wp2_with (go_at_call 30; refine (ascii_isToken _ _ rfl _).mono ?_; rintro e w' ⟨rfl, rfl⟩)
        go_ret
        exact ⟨ret_int (by rw [ht.out]), rfl⟩
      · have ht : Hid (tokEnd (un s) i = tokEnd (un s) (k + 1)) := by
          have e := hk.out
          rw [tokEnd_yes (un s) k (by rw [length_un]; exact hlt) hb] at e
          exact e
        go_wp2_with (go_at_call 30; refine (ascii_isToken _ _ rfl _).mono ?_; rintro e w' ⟨rfl, rfl⟩)
        go_round
        case rel => exact ⟨k + 1, by go_num, ht⟩
        case measure => simp [intOf]; omega
    · have ht : Hid (tokEnd (un s) i = k) := by
        have e := hk.out
        rw [tokEnd_out (un s) k (by rw [length_un]; omega)] at e
        exact e
      go_wp2
      go_ret
      exact ⟨ret_int (by rw [ht.out]), rfl⟩
theorem q_token_neg (s : ByteArray) (i : Int) (w : World) (hi : i < 0) : Calls Tryd.prog 24 #[.string s, .int .i64 i] w fun e w' => e = .returned (.int .i64 i) ∧ w = w' := by
  go_enter Tryd.func24, Tryd.ntmps24
  go_wp2
  all_goals (try (exfalso; omega))
  go_ret
  exact ⟨rfl, rfl⟩

theorem q_token_any (s : ByteArray) (i : Int) (w : World) (hs : s.size ≤ 100000000) : Calls Tryd.prog 24 #[.string s, .int .i64 i] w fun e w' => e = .returned (.int .i64 (tokAt (un s) i)) ∧ w = w' := by
  by_cases h : i < 0
  · have e : tokAt (un s) i = i := if_pos h
    rw [e]
    exact q_token_neg s i w h
  · obtain ⟨n, rfl⟩ := Int.eq_ofNat_of_zero_le (show 0 ≤ i by omega)
    have e : tokAt (un s) n = (tokEnd (un s) n : Int) := by unfold tokAt; rw [if_neg h, Int.toNat_natCast]
    rw [e]
    exact q_token s n w hs





/-- The value of a result of Parse. -/
abbrev qval (r : QRes) : Value := .tuple #[.string (mk r.v), .int .i64 r.n, .int .i64 r.e]
theorem bytes_eq (l : Bs) : Lib.byteCells l = bcells l := rfl

theorem byteCells_snoc (acc : Bs) (b : UInt8) : Lib.byteCells acc ++ [.int .u8 (b.toNat : Int)] = Lib.byteCells (acc ++ [b]) := by simp [Lib.byteCells]

/-- The value of a result of Quote. -/
abbrev quval (r : Bs × Int) : Value := .tuple #[.string (mk r.1), .int .i64 r.2]

end Go.Proofs.YtjdkmidajhbefaaDoor
