/- The walks of Format of the layer sts (program and reference). Conditions: the program's reads the library's table of powers of ten. -/
import Derived.Test.YtjdkmidajhbefaaDoorStsP
import Derived.Test.YtjdkmidajhbefaaDoorTab
import Derived.Test.YtjdkmidajhbefaaDoorFromInt
import Derived.Test.YtjdkmidajhbefaaDoorPlainStsT
namespace Go.Proofs.YtjdkmidajhbefaaDoor
open Go.RowKit Hs
set_option linter.unusedSimpArgs false
set_option linter.unusedVariables false

theorem fmtP_no (n : Int) (b : Bool) (h : n < 0 ∨ 2147483647 < n) : fmtP n b = ([], 2) := if_pos h
theorem fmtP_yes (k : Nat) (b : Bool) (h : k ≤ 2147483647) : fmtP (k : Int) b = (fmtText k b, 0) := by
  unfold fmtP
  rw [if_neg (by omega), Int.toNat_natCast]
theorem lim_self (k : Nat) (h : k ≤ 2147483647) : (lim (k : Int) 2147483647).toNat = k := by unfold lim; omega
theorem mk_fmtF (k : Nat) : mk (fmtText k false) = ByteArray.mk #[109, 97, 120, 45, 97, 103, 101, 61] ++ mk (Lib.decDigits k) := by
  refine un_inj ?_
  simp [un_append, un_mk, fmtText, ageN] <;> simp [un]
theorem mk_fmtT (k : Nat) : mk (fmtText k true) = ByteArray.mk #[109, 97, 120, 45, 97, 103, 101, 61] ++ mk (Lib.decDigits k) ++ ByteArray.mk #[59, 32, 105, 110, 99, 108, 117, 100, 101, 83, 117, 98, 68, 111, 109, 97, 105, 110, 115] := by
  refine un_inj ?_
  simp [un_append, un_mk, fmtText, ageN, incN] <;> simp [un]

set_option maxHeartbeats 1600000 in
theorem sts_format (n : Int) (b : Bool) (w : World) (hN : Tab w) : Calls Tryd.prog 4 #[.agg #[.int .i64 n, .bool b]] w fun e w' => e = .returned (.tuple #[.string (mk (fmtP n b).1), .int .i64 (fmtP n b).2]) ∧ Below w.heap.size w w' := by
  have d0 := Blk2.new w 23 (.int .i64 n) (.bool b)
  have b0 := (Below.refl w.heap.size w).alloc (Nat.le_refl _) (.cells #[.int .i64 n, .bool b] 23)
  have hT := Lib.hid (hN.below b0)
  clear hN
  by_cases hr : n < 0 ∨ 2147483647 < n
  · rw [fmtP_no n b hr]
    have hcase : n < 0 ∨ (¬ n < 0 ∧ 2147483647 < n) := by omega
    clear hr
    rcases hcase with h | ⟨h, h'⟩
    all_goals
      go_enter Tryd.func4, Tryd.ntmps4
      go_wp2
      go_ret2
      exact ⟨rfl, b0⟩
  · obtain ⟨k, rfl⟩ := Int.eq_ofNat_of_zero_le (show 0 ≤ n by omega)
    have hk : k ≤ 2147483647 := by omega
    rw [fmtP_yes k b hk]
    have hl := decDigits_len k (by omega)
    have hsz : (mk (Lib.decDigits k)).size ≤ 10 := by rw [size_mk]; exact hl
    have F : Hid (∀ W : World, Tab W → Calls Tryd.prog 8 #[.int .i64 k] W fun e w' => e = .returned (.string (mk (Lib.decDigits k))) ∧ Below W.heap.size W w') := Lib.hid fun W h => by
      have := s_format (k : Int) W h.1
      rwa [lim_self k hk] at this
    have h1 : ¬ (k : Int) < 0 := by omega
    have h2 : ¬ 2147483647 < (k : Int) := by omega
    clear hr
    have hfm := mk_fmtF k
    have hft := mk_fmtT k
    have HF := Lib.hid hfm
    have HT2 := Lib.hid hft
    clear hfm hft
    cases b
    all_goals
      first | rw [HF.out] | rw [HT2.out]
      go_enter Tryd.func4, Tryd.ntmps4
      go_wp2_with fail
      refine (F.out _ hT.out).mono ?_; rintro e w1 ⟨rfl, hb1⟩
      have d1 := d0.below hb1
      have c0 := d1.c0; have c1 := d1.c1
      have hg := d1.lt
      go_wp2_with fail
      go_ret2
      refine ⟨by first | rfl | simp, b0.trans (hb1.mono b0.size)⟩

set_option maxHeartbeats 1600000 in
theorem r19_format (n : Int) (b : Bool) (w : World) : Calls Tryd.prog 5 #[.agg #[.int .i64 n, .bool b]] w fun e w' => e = .returned (.tuple #[.string (mk (fmtP n b).1), .int .i64 (fmtP n b).2]) ∧ Below w.heap.size w w' := by
  have d0 := Blk2.new w 23 (.int .i64 n) (.bool b)
  have b0 := (Below.refl w.heap.size w).alloc (Nat.le_refl _) (.cells #[.int .i64 n, .bool b] 23)
  by_cases hr : n < 0 ∨ 2147483647 < n
  · rw [fmtP_no n b hr]
    have hcase : n < 0 ∨ (¬ n < 0 ∧ 2147483647 < n) := by omega
    clear hr
    rcases hcase with h | ⟨h, h'⟩
    all_goals
      go_enter Tryd.func5, Tryd.ntmps5
      go_wp2
      go_ret2
      exact ⟨rfl, b0⟩
  · obtain ⟨k, rfl⟩ := Int.eq_ofNat_of_zero_le (show 0 ≤ n by omega)
    have hk : k ≤ 2147483647 := by omega
    rw [fmtP_yes k b hk]
    have hl := decDigits_len k (by omega)
    have hsz : (mk (Lib.decDigits k)).size ≤ 10 := by rw [size_mk]; exact hl
    have F : Hid (∀ W : World, Calls Tryd.prog 9 #[.int .i64 k] W fun e w' => e = .returned (.string (mk (Lib.decDigits k))) ∧ Below W.heap.size W w') := Lib.hid fun W => by
      have := fromInt_any (k + 1) (k : Int) W (by omega) (by omega) (by omega)
      rwa [Int.toNat_natCast] at this
    have h1 : ¬ (k : Int) < 0 := by omega
    have h2 : ¬ 2147483647 < (k : Int) := by omega
    clear hr
    have hfm := mk_fmtF k
    have hft := mk_fmtT k
    have HF := Lib.hid hfm
    have HT2 := Lib.hid hft
    clear hfm hft
    cases b
    all_goals
      first | rw [HF.out] | rw [HT2.out]
      go_enter Tryd.func5, Tryd.ntmps5
      go_wp2_with fail
      refine (F.out _).mono ?_; rintro e w1 ⟨rfl, hb1⟩
      have d1 := d0.below hb1
      have c0 := d1.c0; have c1 := d1.c1
      have hg := d1.lt
      go_wp2_with fail
      go_ret2
      refine ⟨by first | rfl | simp, b0.trans (hb1.mono b0.size)⟩
end Go.Proofs.YtjdkmidajhbefaaDoor
