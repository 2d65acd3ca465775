/- The walk of SecondsMatchSpec: returns true; memory that existed is unchanged. Conditions: the library's table of powers of ten holds what it should. -/
import Derived.Test.YtmneleackpgfbaaDoorSeconds
import Derived.Test.YtmneleackpgfbaaDoorLaw04A
import Derived.Test.YtmneleackpgfbaaDoorFromInt
import Derived.Test.YtmneleackpgfbaaDoorAsciiWords
import Derived.Test.YtmneleackpgfbaaDoorLaidKit
namespace Go.Proofs.YtmneleackpgfbaaDoor
open Go.RowKit Hs
set_option linter.unusedSimpArgs false
set_option linter.unusedVariables false

theorem r4_format (n : Int) (w : World) : Calls Tryd.prog 15 #[.int .i64 n] w fun e w' => e = .returned (.string (mk (Lib.decDigits (lim n 2147483647).toNat))) ∧ Below w.heap.size w w' := by
  obtain ⟨b1, b2⟩ := lim_bound n 2147483647 (by omega)
  go_enter Tryd.func15, Tryd.ntmps15
  go_wp2_with fail
  refine (r4_limit n 2147483647 _ (by omega)).mono ?_; rintro e w' ⟨rfl, rfl⟩
  go_wp2_with fail
  refine (fromInt_any ((lim n 2147483647).toNat + 1) (lim n 2147483647) _ b1 (by omega) (by omega)).mono ?_; rintro e w1 ⟨rfl, hb1⟩
  go_wp2_with fail
  go_ret
  exact ⟨rfl, hb1⟩

set_option maxHeartbeats 1600000 in
theorem seconds_walk (s : ByteArray) (n m : Int) (w : World) (hN : Tab w) (hs : s.size ≤ maxLen) : Calls Tryd.prog 3 #[.string s, .int .i64 n, .int .i64 m] w fun e w' => e = .returned (.bool true) ∧ Below w.heap.size w w' := by
  unfold maxLen at hs
  have HN := Lib.hid hN
  clear hN
  by_cases hl : s.size ≤ 3000
  · have c1 := s_parse s w (by omega)
    have c2 := r4_parse s w (by omega)
    have hle := secR_le (un s)
    generalize secR (un s) = r at c1 c2 hle
    obtain ⟨a, ok⟩ := r
    have C1 := Lib.hid c1; have C2 := Lib.hid c2
    have hle' : a ≤ 2147483647 := hle
    have d1 := fun w => s_format n w
    have d2 := fun w => r4_format n w
    have d3 := s_expiry n m
    have d4 := r4_expiry n m
    generalize mk (Lib.decDigits (lim n 2147483647).toNat) = fs at d1 d2
    generalize expiryV n m = ex at d3 d4
    have D1 := Lib.hid d1; have D2 := Lib.hid d2; have D3 := Lib.hid d3; have D4 := Lib.hid d4
    clear c1 c2 hle d1 d2 d3 d4 hs
    cases ok
    all_goals
      go_enter Tryd.func3, Tryd.ntmps3
      go_wp2_with fail
      refine C1.out.mono ?_; rintro e w1 ⟨rfl, rfl⟩
      go_wp2_with fail
      refine C2.out.mono ?_; rintro e w1 ⟨rfl, rfl⟩
      go_wp2_with fail
      refine (D1.out _ HN.out.1).mono ?_; rintro e w1 ⟨rfl, hb1⟩
      go_wp2_with fail
      refine (D2.out _).mono ?_; rintro e w2 ⟨rfl, hb2⟩
      go_wp2_with fail
      refine (D3.out _).mono ?_; rintro e w3 ⟨rfl, rfl⟩
      go_wp2_with fail
      refine (D4.out _).mono ?_; rintro e w3 ⟨rfl, rfl⟩
      go_wp2_with fail
      refine (s_expired n m _).mono ?_; rintro e w3 ⟨rfl, rfl⟩
      go_wp2_with fail
      refine (law04_awake _ ((HN.out.below hb1).below hb2)).mono ?_; rintro e w3 ⟨rfl, hb3⟩
      go_wp2_with fail
      go_ret
      refine ⟨rfl, ?_⟩
      have b2 := hb1.trans (hb2.mono hb1.size)
      exact b2.trans (hb3.mono b2.size)
  · go_enter Tryd.func3, Tryd.ntmps3
    go_wp2_with fail
    refine (law04_awake _ HN.out).mono ?_; rintro e w1 ⟨rfl, hb1⟩
    go_wp2_with fail
    go_ret
    exact ⟨rfl, hb1⟩
end Go.Proofs.YtmneleackpgfbaaDoor
