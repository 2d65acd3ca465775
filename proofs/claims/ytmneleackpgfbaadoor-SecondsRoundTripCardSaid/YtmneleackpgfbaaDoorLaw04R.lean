/- The walk of SecondsRoundTrip: returns true; memory that existed is unchanged. Conditions: the library's table of powers of ten holds what it should. -/
import Derived.Test.YtmneleackpgfbaaDoorSeconds
import Derived.Test.YtmneleackpgfbaaDoorLaw04A
import Derived.Test.YtmneleackpgfbaaDoorFromInt
import Derived.Test.YtmneleackpgfbaaDoorAsciiWords
import Derived.Test.YtmneleackpgfbaaDoorLaidKit
namespace Go.Proofs.YtmneleackpgfbaaDoor
open Go.RowKit Hs
set_option linter.unusedSimpArgs false
set_option linter.unusedVariables false

set_option maxHeartbeats 1600000 in
theorem roundTrip04_walk (n : Int) (s : ByteArray) (w : World) (hN : Tab w) (hs : s.size ≤ maxLen) : Calls Tryd.prog 4 #[.int .i64 n, .string s] w fun e w' => e = .returned (.bool true) ∧ Below w.heap.size w w' := by
  unfold maxLen at hs
  have HN := Lib.hid hN
  clear hN
  by_cases hl : s.size ≤ 3000
  · have d1 := fun w => s_format n w
    obtain ⟨b1, b2⟩ := lim_bound n 2147483647 (by omega)
    obtain ⟨u, hu⟩ : ∃ u, u = (lim n 2147483647).toNat := ⟨_, rfl⟩
    have hu1 : (u : Int) = min (max n 0) 2147483647 := by rw [hu]; unfold lim at *; omega
    have hu2 : u ≤ 2147483647 := by omega
    rw [← hu] at d1
    clear hu b1 b2
    have hz := decDigits_len u (by omega)
    have hsec := secR_zeros_dec u
    rw [Nat.min_eq_left hu2] at hsec
    have c1 : ∀ w, Calls Tryd.prog 12 #[.string (({ data := #[48, 48, 48] } : ByteArray) ++ mk (Lib.decDigits u))] w fun e w' => e = .returned (.tuple #[.int .i64 u, .bool true]) ∧ w = w' := by
      intro w
      have := s_parse (({ data := #[48, 48, 48] } : ByteArray) ++ mk (Lib.decDigits u)) w (by rw [ByteArray.size_append, size_mk]; show 3 + _ ≤ _; omega)
      rw [un_append, un_mk, show un ({ data := #[48, 48, 48] } : ByteArray) = [48, 48, 48] from rfl, hsec] at this
      exact this
    have hz2 : (mk (Lib.decDigits u)).size ≤ 10 := by rw [size_mk]; exact hz
    have D1 := Lib.hid d1
    have C1 := Lib.hid c1
    have HU := Lib.hid hu1
    clear d1 c1 hsec
    have c2 := s_parse s
    have hle := secR_le (un s)
    have hno : (secR (un s)).2 = false → (secR (un s)).1 = 0 := by
      unfold secR; split
      · intro h; have h2 : un s = [] := by simpa using h
        rw [h2]; rfl
      · intro _; rfl
    generalize secR (un s) = r at c2 hle hno
    obtain ⟨k, is⟩ := r
    have C2 := Lib.hid fun w => c2 w (by omega)
    have hk : k ≤ 2147483647 := hle
    clear c2 hle hs
    cases is
    · obtain rfl : k = 0 := hno rfl
      go_enter Tryd.func4, Tryd.ntmps4
      go_wp2_with fail
      refine (D1.out _ HN.out.1).mono ?_; rintro e w1 ⟨rfl, hb1⟩
      go_wp2_with fail
      refine (C1.out _).mono ?_; rintro e w2 ⟨rfl, rfl⟩
      go_wp2_with fail
      all_goals (try (exfalso; have := HU.out; omega))
      refine (C2.out _).mono ?_; rintro e w2 ⟨rfl, rfl⟩
      go_wp2_with fail
      refine (law04_awake _ (HN.out.below hb1)).mono ?_; rintro e w3 ⟨rfl, hb3⟩
      go_wp2_with fail
      go_ret
      refine ⟨rfl, ?_⟩
      exact hb1.trans (hb3.mono hb1.size)
    · have d3 := fun w => s_format k w
      have e : (lim (k : Int) 2147483647).toNat = k := by unfold lim; omega
      rw [e] at d3
      have c3 : ∀ w, Calls Tryd.prog 12 #[.string (mk (Lib.decDigits k))] w fun e w' => e = .returned (.tuple #[.int .i64 k, .bool true]) ∧ w = w' := by
        intro w
        have := s_parse (mk (Lib.decDigits k)) w (by rw [size_mk]; have := decDigits_len k (by omega); omega)
        rw [un_mk, secR_dec, Nat.min_eq_left hk] at this
        exact this
      have D3 := Lib.hid d3
      have C3 := Lib.hid c3
      clear d3 c3 hno e
      go_enter Tryd.func4, Tryd.ntmps4
      go_wp2_with fail
      refine (D1.out _ HN.out.1).mono ?_; rintro e w1 ⟨rfl, hb1⟩
      go_wp2_with fail
      refine (C1.out _).mono ?_; rintro e w2 ⟨rfl, rfl⟩
      go_wp2_with fail
      all_goals (try (exfalso; have := HU.out; omega))
      refine (C2.out _).mono ?_; rintro e w2 ⟨rfl, rfl⟩
      go_wp2_with fail
      refine (D3.out _ (HN.out.below hb1).1).mono ?_; rintro e w3 ⟨rfl, hb3⟩
      go_wp2_with fail
      refine (C3.out _).mono ?_; rintro e w4 ⟨rfl, rfl⟩
      go_wp2_with fail
      all_goals (try (exfalso; omega))
      refine (law04_awake _ ((HN.out.below hb1).below hb3)).mono ?_; rintro e w4 ⟨rfl, hb4⟩
      go_wp2_with fail
      go_ret
      refine ⟨rfl, ?_⟩
      have b2 := hb1.trans (hb3.mono hb1.size)
      exact b2.trans (hb4.mono b2.size)
  · go_enter Tryd.func4, Tryd.ntmps4
    go_wp2_with fail
    refine (law04_awake _ HN.out).mono ?_; rintro e w1 ⟨rfl, hb1⟩
    go_wp2_with fail
    go_ret
    exact ⟨rfl, hb1⟩
end Go.Proofs.YtmneleackpgfbaaDoor
