/- The walk of Format of the reference of layer 10. Conditions: none. -/
import Derived.Test.YtblcgicgbindlaaDoorIpv4S
import Derived.Test.YtblcgicgbindlaaDoorFromInt
import Derived.Test.YtblcgicgbindlaaDoorPlainSeconds
namespace Go.Proofs.YtblcgicgbindlaaDoor
open Go.RowKit Hs
set_option linter.unusedSimpArgs false
set_option linter.unusedVariables false

theorem fromInt_nat' (n : Nat) (w : World) (hn : n ≤ 9999999999) : Calls Tryd.prog 22 #[.int .i64 (n : Int)] w fun e w' => e = .returned (.string (mk (Lib.decDigits n))) ∧ Below w.heap.size w w' := by
  have := fromInt_any (n + 1) (n : Int) w (by omega) (by omega) (by omega)
  rw [Int.toNat_natCast] at this
  exact this
set_option maxHeartbeats 2000000 in
theorem r10_format (v : Nat) (w : World) (hv : v < 4294967296) : Calls Tryd.prog 19 #[.int .u32 (v : Int)] w fun e w' => e = .returned (.string (mk (fmtV v))) ∧ Below w.heap.size w w' := by
  obtain ⟨a, ha⟩ : ∃ a, a = v / 16777216 % 256 := ⟨_, rfl⟩
  obtain ⟨b, hb⟩ : ∃ b, b = v / 65536 % 256 := ⟨_, rfl⟩
  obtain ⟨c, hc⟩ : ∃ c, c = v / 256 % 256 := ⟨_, rfl⟩
  obtain ⟨d, hd⟩ : ∃ d, d = v % 256 := ⟨_, rfl⟩
  have E1 : (v : Int) / 16777216 = (a : Int) := by omega
  have E2 : (v : Int) / 65536 % 256 = (b : Int) := by omega
  have E3 : (v : Int) / 256 % 256 = (c : Int) := by omega
  have E4 : (v : Int) % 256 = (d : Int) := by omega
  have ha5 : a ≤ 255 := by omega
  have hb5 : b ≤ 255 := by omega
  have hc5 : c ≤ 255 := by omega
  have hd5 : d ≤ 255 := by omega
  have HF := Lib.hid (show fmtV v = Lib.decDigits a ++ 46 :: (Lib.decDigits b ++ 46 :: (Lib.decDigits c ++ 46 :: Lib.decDigits d)) by rw [ha, hb, hc, hd]; rfl)
  have FA := Lib.hid (fun W => fromInt_nat' a W (by omega))
  have FB := Lib.hid (fun W => fromInt_nat' b W (by omega))
  have FC := Lib.hid (fun W => fromInt_nat' c W (by omega))
  have FD := Lib.hid (fun W => fromInt_nat' d W (by omega))
  have la := decDigits_len a (by omega)
  have lb := decDigits_len b (by omega)
  have lc := decDigits_len c (by omega)
  have ld := decDigits_len d (by omega)
  clear ha hb hc hd
  go_enter Tryd.func19, Tryd.ntmps19
  go_wp2_with fail
  refine (FA.out _).mono ?_; rintro e w1 ⟨rfl, h1⟩
  go_wp2_with fail
  all_goals (try (exfalso; omega))
  refine (FB.out _).mono ?_; rintro e w2 ⟨rfl, hy⟩
  have h2 := h1.trans (hy.mono h1.size)
  go_wp2_with fail
  all_goals (try (exfalso; omega))
  refine (FC.out _).mono ?_; rintro e w3 ⟨rfl, hy⟩
  have h3 := h2.trans (hy.mono h2.size)
  go_wp2_with fail
  all_goals (try (exfalso; omega))
  refine (FD.out _).mono ?_; rintro e w4 ⟨rfl, hy⟩
  have h4 := h3.trans (hy.mono h3.size)
  go_wp2_with fail
  all_goals (try (exfalso; omega))
  go_ret
  exact ⟨ret_str (by simp only [un_append, un_mk]; rw [HF.out]; simp [un]), h4⟩
end Go.Proofs.YtblcgicgbindlaaDoor
