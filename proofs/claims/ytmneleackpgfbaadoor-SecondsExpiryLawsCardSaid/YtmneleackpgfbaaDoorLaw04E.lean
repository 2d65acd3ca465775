/- The walk of SecondsExpiryLaws: returns true; memory that existed is unchanged. Conditions: the library's table of powers of ten holds what it should. -/
import Derived.Test.YtmneleackpgfbaaDoorSeconds
import Derived.Test.YtmneleackpgfbaaDoorLaw04A
namespace Go.Proofs.YtmneleackpgfbaaDoor
open Go.RowKit Hs
set_option linter.unusedSimpArgs false
set_option linter.unusedVariables false

theorem expiry_eq (now age : Int) : expiryV now age = min (min (max now 0) 1099511627776 + min (max age 0) 2147483647) 1099511627776 := rfl
set_option maxHeartbeats 1600000 in
theorem expiryLaws_walk (now age later : Int) (w : World) (hN : Tab w) : Calls Tryd.prog 6 #[.int .i64 now, .int .i64 age, .int .i64 later] w fun e w' => e = .returned (.bool true) ∧ Below w.heap.size w w' := by
  have HN := Lib.hid hN
  clear hN
  have c1 := s_expiry now age
  have c2 := s_expiry now 0
  have c3 := s_expiry now (-1)
  have c4 := s_expiry later age
  have c5 := s_expiry now later
  have E1 := expiry_eq now age
  have E2 := expiry_eq now 0
  have E3 := expiry_eq now (-1)
  have E4 := expiry_eq later age
  have E5 := expiry_eq now later
  generalize expiryV now age = e1 at *
  generalize expiryV now 0 = e2 at *
  generalize expiryV now (-1) = e3 at *
  generalize expiryV later age = e4 at *
  generalize expiryV now later = e5 at *
  have hA : max 0 (min now 1099511627776) ≤ e1 := by omega
  have hB : e1 ≤ 1099511627776 := by omega
  have t2 : e2 = max 0 (min now 1099511627776) := by omega
  have t3 : e3 = max 0 (min now 1099511627776) := by omega
  rw [t2] at c2
  rw [t3] at c3
  have C1 := Lib.hid c1; have C2 := Lib.hid c2; have C3 := Lib.hid c3; have C4 := Lib.hid c4; have C5 := Lib.hid c5
  clear c1 c2 c3 c4 c5
  by_cases h1 : later < now
  · by_cases h2 : later < age
    · skip
      clear E1 E2 E3 E4 E5 t2 t3
      go_enter Tryd.func6, Tryd.ntmps6
      go_wp2_with fail
      all_goals (try (exfalso; omega))
      refine (C1.out _).mono ?_; rintro e w1 ⟨rfl, rfl⟩
      go_wp2_with fail
      all_goals (try (exfalso; omega))
      refine (s_expired e1 later _).mono ?_; rintro e w1 ⟨rfl, rfl⟩
      go_wp2_with fail
      all_goals (try (exfalso; omega))
      refine (C2.out _).mono ?_; rintro e w1 ⟨rfl, rfl⟩
      go_wp2_with fail
      all_goals (try (exfalso; omega))
      refine (C3.out _).mono ?_; rintro e w1 ⟨rfl, rfl⟩
      go_wp2_with fail
      all_goals (try (exfalso; omega))
      refine (law04_awake _ HN.out).mono ?_; rintro e w1 ⟨rfl, hb1⟩
      go_wp2_with fail
      go_ret
      exact ⟨rfl, hb1⟩
    · skip
      have h5 : e1 ≤ e5 := by omega
      clear E1 E2 E3 E4 E5 t2 t3
      go_enter Tryd.func6, Tryd.ntmps6
      go_wp2_with fail
      all_goals (try (exfalso; omega))
      refine (C1.out _).mono ?_; rintro e w1 ⟨rfl, rfl⟩
      go_wp2_with fail
      all_goals (try (exfalso; omega))
      refine (s_expired e1 later _).mono ?_; rintro e w1 ⟨rfl, rfl⟩
      go_wp2_with fail
      all_goals (try (exfalso; omega))
      refine (C2.out _).mono ?_; rintro e w1 ⟨rfl, rfl⟩
      go_wp2_with fail
      all_goals (try (exfalso; omega))
      refine (C3.out _).mono ?_; rintro e w1 ⟨rfl, rfl⟩
      go_wp2_with fail
      all_goals (try (exfalso; omega))
      refine (C5.out _).mono ?_; rintro e w1 ⟨rfl, rfl⟩
      go_wp2_with fail
      all_goals (try (exfalso; omega))
      refine (law04_awake _ HN.out).mono ?_; rintro e w1 ⟨rfl, hb1⟩
      go_wp2_with fail
      go_ret
      exact ⟨rfl, hb1⟩
  · by_cases h2 : later < age
    · skip
      have h4 : e1 ≤ e4 := by omega
      clear E1 E2 E3 E4 E5 t2 t3
      go_enter Tryd.func6, Tryd.ntmps6
      go_wp2_with fail
      all_goals (try (exfalso; omega))
      refine (C1.out _).mono ?_; rintro e w1 ⟨rfl, rfl⟩
      go_wp2_with fail
      all_goals (try (exfalso; omega))
      refine (s_expired e1 later _).mono ?_; rintro e w1 ⟨rfl, rfl⟩
      go_wp2_with fail
      all_goals (try (exfalso; omega))
      refine (C2.out _).mono ?_; rintro e w1 ⟨rfl, rfl⟩
      go_wp2_with fail
      all_goals (try (exfalso; omega))
      refine (C3.out _).mono ?_; rintro e w1 ⟨rfl, rfl⟩
      go_wp2_with fail
      all_goals (try (exfalso; omega))
      refine (C4.out _).mono ?_; rintro e w1 ⟨rfl, rfl⟩
      go_wp2_with fail
      all_goals (try (exfalso; omega))
      refine (law04_awake _ HN.out).mono ?_; rintro e w1 ⟨rfl, hb1⟩
      go_wp2_with fail
      go_ret
      exact ⟨rfl, hb1⟩
    · skip
      have h4 : e1 ≤ e4 := by omega
      have h5 : e1 ≤ e5 := by omega
      clear E1 E2 E3 E4 E5 t2 t3
      go_enter Tryd.func6, Tryd.ntmps6
      go_wp2_with fail
      all_goals (try (exfalso; omega))
      refine (C1.out _).mono ?_; rintro e w1 ⟨rfl, rfl⟩
      go_wp2_with fail
      all_goals (try (exfalso; omega))
      refine (s_expired e1 later _).mono ?_; rintro e w1 ⟨rfl, rfl⟩
      go_wp2_with fail
      all_goals (try (exfalso; omega))
      refine (C2.out _).mono ?_; rintro e w1 ⟨rfl, rfl⟩
      go_wp2_with fail
      all_goals (try (exfalso; omega))
      refine (C3.out _).mono ?_; rintro e w1 ⟨rfl, rfl⟩
      go_wp2_with fail
      all_goals (try (exfalso; omega))
      refine (C4.out _).mono ?_; rintro e w1 ⟨rfl, rfl⟩
      go_wp2_with fail
      all_goals (try (exfalso; omega))
      refine (C5.out _).mono ?_; rintro e w1 ⟨rfl, rfl⟩
      go_wp2_with fail
      all_goals (try (exfalso; omega))
      refine (law04_awake _ HN.out).mono ?_; rintro e w1 ⟨rfl, hb1⟩
      go_wp2_with fail
      go_ret
      exact ⟨rfl, hb1⟩
end Go.Proofs.YtmneleackpgfbaaDoor
