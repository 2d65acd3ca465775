/- The walk of the law Ipv4TooLarge (layer 10): it returns true; memory that existed is unchanged. Conditions: the library's tables stand. -/
import Derived.Test.YtblcgicgbindlaaDoorLaw10
import Derived.Test.YtblcgicgbindlaaDoorPlainIpv4B
import Derived.Test.YtblcgicgbindlaaDoorFromInt
import Derived.Test.YtblcgicgbindlaaDoorKeepMod
namespace Go.Proofs.YtblcgicgbindlaaDoor
open Go.RowKit Hs
set_option linter.unusedSimpArgs false
set_option linter.unusedVariables false

/-- The numbers of a text, whether they are good alone. -/
theorem numbers_at (S : ByteArray) (l : Bs) (b : Bool) (hS : un S = l) (hl : l.length ≤ 1000) (h : (numsV l).2 = b) (w : World) (hB : Base w) : Calls Tryd.prog 14 #[.string S] w fun e w' => ∃ z, e = .returned (.tuple #[.int .u32 z, .bool b]) ∧ Below w.heap.size w w' := by
  refine (i4_numbers S w hB (by rw [← length_un, hS]; omega)).mono ?_
  rintro e w' ⟨rfl, hb⟩
  rw [hS, h]
  exact ⟨_, rfl, hb⟩
theorem fromInt_nat (n : Nat) (w : World) (hn : n ≤ 9999999999) : Calls Tryd.prog 22 #[.int .i64 (n : Int)] w fun e w' => e = .returned (.string (mk (Lib.decDigits n))) ∧ Below w.heap.size w w' := by
  have := fromInt_any (n + 1) (n : Int) w (by omega) (by omega) (by omega)
  rw [Int.toNat_natCast] at this
  exact this

set_option maxRecDepth 20000 in
set_option maxHeartbeats 4000000 in
theorem tooLarge_0 (parts more zeros : Int) (w : World) (hB : Base w) (hp : (Lit.int .i64 parts).wf = true) (hmo : (Lit.int .i64 more).wf = true) (hz : (Lit.int .i64 zeros).wf = true) (hm : parts % 4 = 0) : Calls Tryd.prog 6 #[.int .i64 parts, .int .i64 more, .int .i64 zeros] w fun e w' => e = .returned (.bool true) ∧ Below w.heap.size w w' := by
  have AW := Lib.hid (fun W h => law10_awake W h)
  have HB := Lib.hid hB
  have m1 := fun W => keep_mod parts 4 W hp (by omega) (by omega)
  rw [hm] at m1
  have m2 := fun W => keep_mod more 1073741824 W hmo (by omega) (by omega)
  have m3 := fun W => keep_mod zeros 40 W hz (by omega) (by omega)
  obtain ⟨r, hr⟩ : ∃ r : Nat, more % 1073741824 = (r : Int) := ⟨(more % 1073741824).toNat, by omega⟩
  obtain ⟨j, hj⟩ : ∃ j : Nat, zeros % 40 = (j : Int) := ⟨(zeros % 40).toNat, by omega⟩
  have hr2 : r < 1073741824 := by omega
  have hj2 : j < 40 := by omega
  rw [hr] at m2
  rw [hj] at m3
  have M1 := Lib.hid m1; have M2 := Lib.hid m2; have M3 := Lib.hid m3
  obtain ⟨x, hx⟩ : ∃ x, x = 4294967296 + r := ⟨_, rfl⟩
  have hx9 : x ≤ 9999999999 := by omega
  have F1 := Lib.hid (fun W => fromInt_nat x W hx9)
  have F2 := Lib.hid (fun W => fromInt_nat 4294967295 W (by omega))
  have hxl := decDigits_len x hx9
  have hCl := decDigits_len 4294967295 (by omega)
  have N1 := Lib.hid (fun W h => numbers_at (mk (ones 0) ++ mk (Lib.decDigits 4294967295)) (ones 0 ++ Lib.decDigits 4294967295) true (by rw [un_append, un_mk, un_mk]) (by rw [List.length_append, ones_len]; omega) (nums_least 0 32 (by omega) rfl) W h)
  have N2 := Lib.hid (fun W h => numbers_at (mk (ones 0) ++ mk (Lib.decDigits x)) (ones 0 ++ (Lib.decDigits x ++ List.replicate 0 48)) false (by rw [un_append, un_mk, un_mk]; simp) (by simp [ones_len]; omega) (by rw [nums_big 0 x 0 32 (by omega) rfl (by simp; omega)]) W h)
  have N3 := Lib.hid (fun S W (hS : un S = Lib.decDigits x ++ List.replicate j 48) h => numbers_at (mk (ones 0) ++ S) (ones 0 ++ (Lib.decDigits x ++ List.replicate j 48)) false (by rw [un_append, un_mk, hS]) (by simp [ones_len]; omega) (by rw [nums_big 0 x j 32 (by omega) rfl (by simp; omega)]) W h)
  have N4 := Lib.hid (fun W h => numbers_at (⟨#[50, 53, 54, 46]⟩ ++ mk (ones 0) ++ ⟨#[49]⟩) ([50, 53, 54, 46] ++ (ones 0 ++ [49])) false (by rw [un_append, un_append, un_mk, List.append_assoc]; rfl) (by simp [ones_len]) (by rw [nums_256 0 (by omega)]) W h)
  have HX := Lib.hid hx
  have e1 : (4294967296 : Int) + (r : Int) = (x : Int) := by omega
  clear hB m1 m2 m3 hr hj hm hx
  go_enter Tryd.func6, Tryd.ntmps6
  go_wp2_with fail
  refine (M1.out _).mono ?_; rintro e w1 ⟨rfl, rfl⟩
  go_wp2
  go_loop [8, 9] (fun sv iv => ∃ k : Nat, iv = .int .i64 k ∧ k ≤ 0 ∧ sv = .string (mk (ones k))) (fun _ iv => 0 - (intOf iv).toNat)
  case atStart => exact ⟨0, rfl, by omega, rfl⟩
  case round =>
    obtain ⟨k, rfl, hk, rfl⟩ := hrel
    by_cases hlt : k < 0
    · exfalso; omega
    · obtain rfl : k = 0 := by omega
      have hol := ones_len 0
      go_wp2_with fail
      refine (M2.out _).mono ?_; rintro e w1 ⟨rfl, rfl⟩
      go_wp2_with fail
      refine (F1.out _).mono ?_; rintro e w2 ⟨rfl, hb2⟩
      have B2 := HB.out.below hb2
      go_wp2_with fail
      refine (F2.out _).mono ?_; rintro e w3 ⟨rfl, hy⟩
      have B3 := B2.below hy
      have hb3 := hb2.trans (hy.mono hb2.size)
      clear hy hb2 B2
      go_wp2_with fail
      all_goals (try (exfalso; omega))
      refine (N1.out _ B3).mono ?_; rintro e w4 ⟨z4, rfl, hy⟩
      have B4 := B3.below hy
      have hb4 := hb3.trans (hy.mono hb3.size)
      clear hy hb3 B3
      go_wp2_with fail
      all_goals (try (exfalso; omega))
      refine (N2.out _ B4).mono ?_; rintro e w5 ⟨z5, rfl, hy⟩
      have B5 := B4.below hy
      have hb5 := hb4.trans (hy.mono hb4.size)
      clear hy hb4 B4
      go_wp2_with fail
      refine (M3.out _).mono ?_; rintro e w6 ⟨rfl, rfl⟩
      go_wp2
      go_loop [11, 16] (fun sv iv => ∃ (t : Nat) (S : ByteArray), iv = .int .i64 t ∧ t ≤ j ∧ sv = .string S ∧ Hid (un S = Lib.decDigits x ++ List.replicate (j - t) 48)) (fun _ iv => (intOf iv).toNat)
      case atStart => exact ⟨j, _, rfl, by omega, rfl, Lib.hid (by rw [un_mk, Nat.sub_self]; simp)⟩
      case round =>
        obtain ⟨t, S, rfl, ht, rfl, hS⟩ := hrel
        have hSl : S.size ≤ 100 := by rw [← length_un, hS.out]; simp; omega
        by_cases h0 : 0 < t
        · have g1 : decide ((0 : Int) < (t : Int)) = true := decide_eq_true (by omega)
          have hS2 : Hid (un (S ++ (⟨#[48]⟩ : ByteArray)) = Lib.decDigits x ++ List.replicate (j - (t - 1)) 48) := Lib.hid (by
            rw [un_append, hS.out, show j - (t - 1) = (j - t) + 1 by omega, List.replicate_succ', List.append_assoc]; rfl)
          go_wp2
          all_goals (try (exfalso; omega))
          go_round
          case rel => exact ⟨t - 1, S ++ (⟨#[48]⟩ : ByteArray), by rw [show ((t - 1 : Nat) : Int) = (t : Int) - 1 by omega], by omega, rfl, hS2⟩
          case measure => simp [intOf]; omega
        · obtain rfl : t = 0 := by omega
          have hS3 : un S = Lib.decDigits x ++ List.replicate j 48 := by rw [hS.out, Nat.sub_zero]
          have HS3 := Lib.hid hS3
          clear hS hS3
          go_wp2_with fail
          all_goals (try (exfalso; omega))
          refine (N3.out S _ HS3.out B5).mono ?_; rintro e w7 ⟨z7, rfl, hy⟩
          have B7 := B5.below hy
          have hb7 := hb5.trans (hy.mono hb5.size)
          clear hy hb5 B5
          go_wp2_with fail
          all_goals (try (exfalso; omega))
          refine (N4.out _ B7).mono ?_; rintro e w8 ⟨z8, rfl, hy⟩
          have B8 := B7.below hy
          have hb8 := hb7.trans (hy.mono hb7.size)
          clear hy hb7 B7
          go_wp2_with fail
          refine (AW.out _ B8).mono ?_; rintro e w9 ⟨rfl, hy⟩
          go_wp2_with fail
          go_ret
          exact ⟨rfl, hb8.trans (hy.mono hb8.size)⟩

set_option maxRecDepth 20000 in
set_option maxHeartbeats 4000000 in
theorem tooLarge_1 (parts more zeros : Int) (w : World) (hB : Base w) (hp : (Lit.int .i64 parts).wf = true) (hmo : (Lit.int .i64 more).wf = true) (hz : (Lit.int .i64 zeros).wf = true) (hm : parts % 4 = 1) : Calls Tryd.prog 6 #[.int .i64 parts, .int .i64 more, .int .i64 zeros] w fun e w' => e = .returned (.bool true) ∧ Below w.heap.size w w' := by
  have AW := Lib.hid (fun W h => law10_awake W h)
  have HB := Lib.hid hB
  have m1 := fun W => keep_mod parts 4 W hp (by omega) (by omega)
  rw [hm] at m1
  have m2 := fun W => keep_mod more 1073741824 W hmo (by omega) (by omega)
  have m3 := fun W => keep_mod zeros 40 W hz (by omega) (by omega)
  obtain ⟨r, hr⟩ : ∃ r : Nat, more % 1073741824 = (r : Int) := ⟨(more % 1073741824).toNat, by omega⟩
  obtain ⟨j, hj⟩ : ∃ j : Nat, zeros % 40 = (j : Int) := ⟨(zeros % 40).toNat, by omega⟩
  have hr2 : r < 1073741824 := by omega
  have hj2 : j < 40 := by omega
  rw [hr] at m2
  rw [hj] at m3
  have M1 := Lib.hid m1; have M2 := Lib.hid m2; have M3 := Lib.hid m3
  obtain ⟨x, hx⟩ : ∃ x, x = 16777216 + r := ⟨_, rfl⟩
  have hx9 : x ≤ 9999999999 := by omega
  have F1 := Lib.hid (fun W => fromInt_nat x W hx9)
  have F2 := Lib.hid (fun W => fromInt_nat 16777215 W (by omega))
  have hxl := decDigits_len x hx9
  have hCl := decDigits_len 16777215 (by omega)
  have N1 := Lib.hid (fun W h => numbers_at (mk (ones 1) ++ mk (Lib.decDigits 16777215)) (ones 1 ++ Lib.decDigits 16777215) true (by rw [un_append, un_mk, un_mk]) (by rw [List.length_append, ones_len]; omega) (nums_least 1 24 (by omega) rfl) W h)
  have N2 := Lib.hid (fun W h => numbers_at (mk (ones 1) ++ mk (Lib.decDigits x)) (ones 1 ++ (Lib.decDigits x ++ List.replicate 0 48)) false (by rw [un_append, un_mk, un_mk]; simp) (by simp [ones_len]; omega) (by rw [nums_big 1 x 0 24 (by omega) rfl (by simp; omega)]) W h)
  have N3 := Lib.hid (fun S W (hS : un S = Lib.decDigits x ++ List.replicate j 48) h => numbers_at (mk (ones 1) ++ S) (ones 1 ++ (Lib.decDigits x ++ List.replicate j 48)) false (by rw [un_append, un_mk, hS]) (by simp [ones_len]; omega) (by rw [nums_big 1 x j 24 (by omega) rfl (by simp; omega)]) W h)
  have N4 := Lib.hid (fun W h => numbers_at (⟨#[50, 53, 54, 46]⟩ ++ mk (ones 1) ++ ⟨#[49]⟩) ([50, 53, 54, 46] ++ (ones 1 ++ [49])) false (by rw [un_append, un_append, un_mk, List.append_assoc]; rfl) (by simp [ones_len]) (by rw [nums_256 1 (by omega)]) W h)
  have HX := Lib.hid hx
  have e1 : (16777216 : Int) + (r : Int) = (x : Int) := by omega
  clear hB m1 m2 m3 hr hj hm hx
  go_enter Tryd.func6, Tryd.ntmps6
  go_wp2_with fail
  refine (M1.out _).mono ?_; rintro e w1 ⟨rfl, rfl⟩
  go_wp2
  go_loop [8, 9] (fun sv iv => ∃ k : Nat, iv = .int .i64 k ∧ k ≤ 1 ∧ sv = .string (mk (ones k))) (fun _ iv => 1 - (intOf iv).toNat)
  case atStart => exact ⟨0, rfl, by omega, rfl⟩
  case round =>
    obtain ⟨k, rfl, hk, rfl⟩ := hrel
    by_cases hlt : k < 1
    · have g1 : decide ((k : Int) < 1) = true := decide_eq_true (by omega)
      have hol := ones_len k
      have hst : Hid (mk (ones k) ++ (⟨#[49, 46]⟩ : ByteArray) = mk (ones (k + 1))) := Lib.hid (un_inj (by rw [un_append, un_mk, un_mk]; rfl))
      go_wp2
      all_goals (try (exfalso; omega))
      go_round
      case rel => exact ⟨k + 1, by go_num, by omega, by rw [hst.out]⟩
      case measure => simp [intOf]; omega
    · obtain rfl : k = 1 := by omega
      have hol := ones_len 1
      go_wp2_with fail
      refine (M2.out _).mono ?_; rintro e w1 ⟨rfl, rfl⟩
      go_wp2_with fail
      refine (F1.out _).mono ?_; rintro e w2 ⟨rfl, hb2⟩
      have B2 := HB.out.below hb2
      go_wp2_with fail
      refine (F2.out _).mono ?_; rintro e w3 ⟨rfl, hy⟩
      have B3 := B2.below hy
      have hb3 := hb2.trans (hy.mono hb2.size)
      clear hy hb2 B2
      go_wp2_with fail
      all_goals (try (exfalso; omega))
      refine (N1.out _ B3).mono ?_; rintro e w4 ⟨z4, rfl, hy⟩
      have B4 := B3.below hy
      have hb4 := hb3.trans (hy.mono hb3.size)
      clear hy hb3 B3
      go_wp2_with fail
      all_goals (try (exfalso; omega))
      refine (N2.out _ B4).mono ?_; rintro e w5 ⟨z5, rfl, hy⟩
      have B5 := B4.below hy
      have hb5 := hb4.trans (hy.mono hb4.size)
      clear hy hb4 B4
      go_wp2_with fail
      refine (M3.out _).mono ?_; rintro e w6 ⟨rfl, rfl⟩
      go_wp2
      go_loop [11, 16] (fun sv iv => ∃ (t : Nat) (S : ByteArray), iv = .int .i64 t ∧ t ≤ j ∧ sv = .string S ∧ Hid (un S = Lib.decDigits x ++ List.replicate (j - t) 48)) (fun _ iv => (intOf iv).toNat)
      case atStart => exact ⟨j, _, rfl, by omega, rfl, Lib.hid (by rw [un_mk, Nat.sub_self]; simp)⟩
      case round =>
        obtain ⟨t, S, rfl, ht, rfl, hS⟩ := hrel
        have hSl : S.size ≤ 100 := by rw [← length_un, hS.out]; simp; omega
        by_cases h0 : 0 < t
        · have g1 : decide ((0 : Int) < (t : Int)) = true := decide_eq_true (by omega)
          have hS2 : Hid (un (S ++ (⟨#[48]⟩ : ByteArray)) = Lib.decDigits x ++ List.replicate (j - (t - 1)) 48) := Lib.hid (by
            rw [un_append, hS.out, show j - (t - 1) = (j - t) + 1 by omega, List.replicate_succ', List.append_assoc]; rfl)
          go_wp2
          all_goals (try (exfalso; omega))
          go_round
          case rel => exact ⟨t - 1, S ++ (⟨#[48]⟩ : ByteArray), by rw [show ((t - 1 : Nat) : Int) = (t : Int) - 1 by omega], by omega, rfl, hS2⟩
          case measure => simp [intOf]; omega
        · obtain rfl : t = 0 := by omega
          have hS3 : un S = Lib.decDigits x ++ List.replicate j 48 := by rw [hS.out, Nat.sub_zero]
          have HS3 := Lib.hid hS3
          clear hS hS3
          go_wp2_with fail
          all_goals (try (exfalso; omega))
          refine (N3.out S _ HS3.out B5).mono ?_; rintro e w7 ⟨z7, rfl, hy⟩
          have B7 := B5.below hy
          have hb7 := hb5.trans (hy.mono hb5.size)
          clear hy hb5 B5
          go_wp2_with fail
          all_goals (try (exfalso; omega))
          refine (N4.out _ B7).mono ?_; rintro e w8 ⟨z8, rfl, hy⟩
          have B8 := B7.below hy
          have hb8 := hb7.trans (hy.mono hb7.size)
          clear hy hb7 B7
          go_wp2_with fail
          refine (AW.out _ B8).mono ?_; rintro e w9 ⟨rfl, hy⟩
          go_wp2_with fail
          go_ret
          exact ⟨rfl, hb8.trans (hy.mono hb8.size)⟩

set_option maxRecDepth 20000 in
set_option maxHeartbeats 4000000 in
theorem tooLarge_2 (parts more zeros : Int) (w : World) (hB : Base w) (hp : (Lit.int .i64 parts).wf = true) (hmo : (Lit.int .i64 more).wf = true) (hz : (Lit.int .i64 zeros).wf = true) (hm : parts % 4 = 2) : Calls Tryd.prog 6 #[.int .i64 parts, .int .i64 more, .int .i64 zeros] w fun e w' => e = .returned (.bool true) ∧ Below w.heap.size w w' := by
  have AW := Lib.hid (fun W h => law10_awake W h)
  have HB := Lib.hid hB
  have m1 := fun W => keep_mod parts 4 W hp (by omega) (by omega)
  rw [hm] at m1
  have m2 := fun W => keep_mod more 1073741824 W hmo (by omega) (by omega)
  have m3 := fun W => keep_mod zeros 40 W hz (by omega) (by omega)
  obtain ⟨r, hr⟩ : ∃ r : Nat, more % 1073741824 = (r : Int) := ⟨(more % 1073741824).toNat, by omega⟩
  obtain ⟨j, hj⟩ : ∃ j : Nat, zeros % 40 = (j : Int) := ⟨(zeros % 40).toNat, by omega⟩
  have hr2 : r < 1073741824 := by omega
  have hj2 : j < 40 := by omega
  rw [hr] at m2
  rw [hj] at m3
  have M1 := Lib.hid m1; have M2 := Lib.hid m2; have M3 := Lib.hid m3
  obtain ⟨x, hx⟩ : ∃ x, x = 65536 + r := ⟨_, rfl⟩
  have hx9 : x ≤ 9999999999 := by omega
  have F1 := Lib.hid (fun W => fromInt_nat x W hx9)
  have F2 := Lib.hid (fun W => fromInt_nat 65535 W (by omega))
  have hxl := decDigits_len x hx9
  have hCl := decDigits_len 65535 (by omega)
  have N1 := Lib.hid (fun W h => numbers_at (mk (ones 2) ++ mk (Lib.decDigits 65535)) (ones 2 ++ Lib.decDigits 65535) true (by rw [un_append, un_mk, un_mk]) (by rw [List.length_append, ones_len]; omega) (nums_least 2 16 (by omega) rfl) W h)
  have N2 := Lib.hid (fun W h => numbers_at (mk (ones 2) ++ mk (Lib.decDigits x)) (ones 2 ++ (Lib.decDigits x ++ List.replicate 0 48)) false (by rw [un_append, un_mk, un_mk]; simp) (by simp [ones_len]; omega) (by rw [nums_big 2 x 0 16 (by omega) rfl (by simp; omega)]) W h)
  have N3 := Lib.hid (fun S W (hS : un S = Lib.decDigits x ++ List.replicate j 48) h => numbers_at (mk (ones 2) ++ S) (ones 2 ++ (Lib.decDigits x ++ List.replicate j 48)) false (by rw [un_append, un_mk, hS]) (by simp [ones_len]; omega) (by rw [nums_big 2 x j 16 (by omega) rfl (by simp; omega)]) W h)
  have N4 := Lib.hid (fun W h => numbers_at (⟨#[50, 53, 54, 46]⟩ ++ mk (ones 2) ++ ⟨#[49]⟩) ([50, 53, 54, 46] ++ (ones 2 ++ [49])) false (by rw [un_append, un_append, un_mk, List.append_assoc]; rfl) (by simp [ones_len]) (by rw [nums_256 2 (by omega)]) W h)
  have HX := Lib.hid hx
  have e1 : (65536 : Int) + (r : Int) = (x : Int) := by omega
  clear hB m1 m2 m3 hr hj hm hx
  go_enter Tryd.func6, Tryd.ntmps6
  go_wp2_with fail
  refine (M1.out _).mono ?_; rintro e w1 ⟨rfl, rfl⟩
  go_wp2
  go_loop [8, 9] (fun sv iv => ∃ k : Nat, iv = .int .i64 k ∧ k ≤ 2 ∧ sv = .string (mk (ones k))) (fun _ iv => 2 - (intOf iv).toNat)
  case atStart => exact ⟨0, rfl, by omega, rfl⟩
  case round =>
    obtain ⟨k, rfl, hk, rfl⟩ := hrel
    by_cases hlt : k < 2
    · have g1 : decide ((k : Int) < 2) = true := decide_eq_true (by omega)
      have hol := ones_len k
      have hst : Hid (mk (ones k) ++ (⟨#[49, 46]⟩ : ByteArray) = mk (ones (k + 1))) := Lib.hid (un_inj (by rw [un_append, un_mk, un_mk]; rfl))
      go_wp2
      all_goals (try (exfalso; omega))
      go_round
      case rel => exact ⟨k + 1, by go_num, by omega, by rw [hst.out]⟩
      case measure => simp [intOf]; omega
    · obtain rfl : k = 2 := by omega
      have hol := ones_len 2
      go_wp2_with fail
      refine (M2.out _).mono ?_; rintro e w1 ⟨rfl, rfl⟩
      go_wp2_with fail
      refine (F1.out _).mono ?_; rintro e w2 ⟨rfl, hb2⟩
      have B2 := HB.out.below hb2
      go_wp2_with fail
      refine (F2.out _).mono ?_; rintro e w3 ⟨rfl, hy⟩
      have B3 := B2.below hy
      have hb3 := hb2.trans (hy.mono hb2.size)
      clear hy hb2 B2
      go_wp2_with fail
      all_goals (try (exfalso; omega))
      refine (N1.out _ B3).mono ?_; rintro e w4 ⟨z4, rfl, hy⟩
      have B4 := B3.below hy
      have hb4 := hb3.trans (hy.mono hb3.size)
      clear hy hb3 B3
      go_wp2_with fail
      all_goals (try (exfalso; omega))
      refine (N2.out _ B4).mono ?_; rintro e w5 ⟨z5, rfl, hy⟩
      have B5 := B4.below hy
      have hb5 := hb4.trans (hy.mono hb4.size)
      clear hy hb4 B4
      go_wp2_with fail
      refine (M3.out _).mono ?_; rintro e w6 ⟨rfl, rfl⟩
      go_wp2
      go_loop [11, 16] (fun sv iv => ∃ (t : Nat) (S : ByteArray), iv = .int .i64 t ∧ t ≤ j ∧ sv = .string S ∧ Hid (un S = Lib.decDigits x ++ List.replicate (j - t) 48)) (fun _ iv => (intOf iv).toNat)
      case atStart => exact ⟨j, _, rfl, by omega, rfl, Lib.hid (by rw [un_mk, Nat.sub_self]; simp)⟩
      case round =>
        obtain ⟨t, S, rfl, ht, rfl, hS⟩ := hrel
        have hSl : S.size ≤ 100 := by rw [← length_un, hS.out]; simp; omega
        by_cases h0 : 0 < t
        · have g1 : decide ((0 : Int) < (t : Int)) = true := decide_eq_true (by omega)
          have hS2 : Hid (un (S ++ (⟨#[48]⟩ : ByteArray)) = Lib.decDigits x ++ List.replicate (j - (t - 1)) 48) := Lib.hid (by
            rw [un_append, hS.out, show j - (t - 1) = (j - t) + 1 by omega, List.replicate_succ', List.append_assoc]; rfl)
          go_wp2
          all_goals (try (exfalso; omega))
          go_round
          case rel => exact ⟨t - 1, S ++ (⟨#[48]⟩ : ByteArray), by rw [show ((t - 1 : Nat) : Int) = (t : Int) - 1 by omega], by omega, rfl, hS2⟩
          case measure => simp [intOf]; omega
        · obtain rfl : t = 0 := by omega
          have hS3 : un S = Lib.decDigits x ++ List.replicate j 48 := by rw [hS.out, Nat.sub_zero]
          have HS3 := Lib.hid hS3
          clear hS hS3
          go_wp2_with fail
          all_goals (try (exfalso; omega))
          refine (N3.out S _ HS3.out B5).mono ?_; rintro e w7 ⟨z7, rfl, hy⟩
          have B7 := B5.below hy
          have hb7 := hb5.trans (hy.mono hb5.size)
          clear hy hb5 B5
          go_wp2_with fail
          all_goals (try (exfalso; omega))
          refine (N4.out _ B7).mono ?_; rintro e w8 ⟨z8, rfl, hy⟩
          have B8 := B7.below hy
          have hb8 := hb7.trans (hy.mono hb7.size)
          clear hy hb7 B7
          go_wp2_with fail
          refine (AW.out _ B8).mono ?_; rintro e w9 ⟨rfl, hy⟩
          go_wp2_with fail
          go_ret
          exact ⟨rfl, hb8.trans (hy.mono hb8.size)⟩

set_option maxRecDepth 20000 in
set_option maxHeartbeats 4000000 in
theorem tooLarge_3 (parts more zeros : Int) (w : World) (hB : Base w) (hp : (Lit.int .i64 parts).wf = true) (hmo : (Lit.int .i64 more).wf = true) (hz : (Lit.int .i64 zeros).wf = true) (hm : parts % 4 = 3) : Calls Tryd.prog 6 #[.int .i64 parts, .int .i64 more, .int .i64 zeros] w fun e w' => e = .returned (.bool true) ∧ Below w.heap.size w w' := by
  have AW := Lib.hid (fun W h => law10_awake W h)
  have HB := Lib.hid hB
  have m1 := fun W => keep_mod parts 4 W hp (by omega) (by omega)
  rw [hm] at m1
  have m2 := fun W => keep_mod more 1073741824 W hmo (by omega) (by omega)
  have m3 := fun W => keep_mod zeros 40 W hz (by omega) (by omega)
  obtain ⟨r, hr⟩ : ∃ r : Nat, more % 1073741824 = (r : Int) := ⟨(more % 1073741824).toNat, by omega⟩
  obtain ⟨j, hj⟩ : ∃ j : Nat, zeros % 40 = (j : Int) := ⟨(zeros % 40).toNat, by omega⟩
  have hr2 : r < 1073741824 := by omega
  have hj2 : j < 40 := by omega
  rw [hr] at m2
  rw [hj] at m3
  have M1 := Lib.hid m1; have M2 := Lib.hid m2; have M3 := Lib.hid m3
  obtain ⟨x, hx⟩ : ∃ x, x = 256 + r := ⟨_, rfl⟩
  have hx9 : x ≤ 9999999999 := by omega
  have F1 := Lib.hid (fun W => fromInt_nat x W hx9)
  have F2 := Lib.hid (fun W => fromInt_nat 255 W (by omega))
  have hxl := decDigits_len x hx9
  have hCl := decDigits_len 255 (by omega)
  have N1 := Lib.hid (fun W h => numbers_at (mk (ones 3) ++ mk (Lib.decDigits 255)) (ones 3 ++ Lib.decDigits 255) true (by rw [un_append, un_mk, un_mk]) (by rw [List.length_append, ones_len]; omega) (nums_least 3 8 (by omega) rfl) W h)
  have N2 := Lib.hid (fun W h => numbers_at (mk (ones 3) ++ mk (Lib.decDigits x)) (ones 3 ++ (Lib.decDigits x ++ List.replicate 0 48)) false (by rw [un_append, un_mk, un_mk]; simp) (by simp [ones_len]; omega) (by rw [nums_big 3 x 0 8 (by omega) rfl (by simp; omega)]) W h)
  have N3 := Lib.hid (fun S W (hS : un S = Lib.decDigits x ++ List.replicate j 48) h => numbers_at (mk (ones 3) ++ S) (ones 3 ++ (Lib.decDigits x ++ List.replicate j 48)) false (by rw [un_append, un_mk, hS]) (by simp [ones_len]; omega) (by rw [nums_big 3 x j 8 (by omega) rfl (by simp; omega)]) W h)
  have N4 := Lib.hid (fun W h => numbers_at (⟨#[50, 53, 54, 46]⟩ ++ mk (ones 3) ++ ⟨#[49]⟩) ([50, 53, 54, 46] ++ (ones 3 ++ [49])) false (by rw [un_append, un_append, un_mk, List.append_assoc]; rfl) (by simp [ones_len]) (by rw [nums_256 3 (by omega)]) W h)
  have HX := Lib.hid hx
  have e1 : (256 : Int) + (r : Int) = (x : Int) := by omega
  clear hB m1 m2 m3 hr hj hm hx
  go_enter Tryd.func6, Tryd.ntmps6
  go_wp2_with fail
  refine (M1.out _).mono ?_; rintro e w1 ⟨rfl, rfl⟩
  go_wp2
  go_loop [8, 9] (fun sv iv => ∃ k : Nat, iv = .int .i64 k ∧ k ≤ 3 ∧ sv = .string (mk (ones k))) (fun _ iv => 3 - (intOf iv).toNat)
  case atStart => exact ⟨0, rfl, by omega, rfl⟩
  case round =>
    obtain ⟨k, rfl, hk, rfl⟩ := hrel
    by_cases hlt : k < 3
    · have g1 : decide ((k : Int) < 3) = true := decide_eq_true (by omega)
      have hol := ones_len k
      have hst : Hid (mk (ones k) ++ (⟨#[49, 46]⟩ : ByteArray) = mk (ones (k + 1))) := Lib.hid (un_inj (by rw [un_append, un_mk, un_mk]; rfl))
      go_wp2
      all_goals (try (exfalso; omega))
      go_round
      case rel => exact ⟨k + 1, by go_num, by omega, by rw [hst.out]⟩
      case measure => simp [intOf]; omega
    · obtain rfl : k = 3 := by omega
      have hol := ones_len 3
      go_wp2_with fail
      refine (M2.out _).mono ?_; rintro e w1 ⟨rfl, rfl⟩
      go_wp2_with fail
      refine (F1.out _).mono ?_; rintro e w2 ⟨rfl, hb2⟩
      have B2 := HB.out.below hb2
      go_wp2_with fail
      refine (F2.out _).mono ?_; rintro e w3 ⟨rfl, hy⟩
      have B3 := B2.below hy
      have hb3 := hb2.trans (hy.mono hb2.size)
      clear hy hb2 B2
      go_wp2_with fail
      all_goals (try (exfalso; omega))
      refine (N1.out _ B3).mono ?_; rintro e w4 ⟨z4, rfl, hy⟩
      have B4 := B3.below hy
      have hb4 := hb3.trans (hy.mono hb3.size)
      clear hy hb3 B3
      go_wp2_with fail
      all_goals (try (exfalso; omega))
      refine (N2.out _ B4).mono ?_; rintro e w5 ⟨z5, rfl, hy⟩
      have B5 := B4.below hy
      have hb5 := hb4.trans (hy.mono hb4.size)
      clear hy hb4 B4
      go_wp2_with fail
      refine (M3.out _).mono ?_; rintro e w6 ⟨rfl, rfl⟩
      go_wp2
      go_loop [11, 16] (fun sv iv => ∃ (t : Nat) (S : ByteArray), iv = .int .i64 t ∧ t ≤ j ∧ sv = .string S ∧ Hid (un S = Lib.decDigits x ++ List.replicate (j - t) 48)) (fun _ iv => (intOf iv).toNat)
      case atStart => exact ⟨j, _, rfl, by omega, rfl, Lib.hid (by rw [un_mk, Nat.sub_self]; simp)⟩
      case round =>
        obtain ⟨t, S, rfl, ht, rfl, hS⟩ := hrel
        have hSl : S.size ≤ 100 := by rw [← length_un, hS.out]; simp; omega
        by_cases h0 : 0 < t
        · have g1 : decide ((0 : Int) < (t : Int)) = true := decide_eq_true (by omega)
          have hS2 : Hid (un (S ++ (⟨#[48]⟩ : ByteArray)) = Lib.decDigits x ++ List.replicate (j - (t - 1)) 48) := Lib.hid (by
            rw [un_append, hS.out, show j - (t - 1) = (j - t) + 1 by omega, List.replicate_succ', List.append_assoc]; rfl)
          go_wp2
          all_goals (try (exfalso; omega))
          go_round
          case rel => exact ⟨t - 1, S ++ (⟨#[48]⟩ : ByteArray), by rw [show ((t - 1 : Nat) : Int) = (t : Int) - 1 by omega], by omega, rfl, hS2⟩
          case measure => simp [intOf]; omega
        · obtain rfl : t = 0 := by omega
          have hS3 : un S = Lib.decDigits x ++ List.replicate j 48 := by rw [hS.out, Nat.sub_zero]
          have HS3 := Lib.hid hS3
          clear hS hS3
          go_wp2_with fail
          all_goals (try (exfalso; omega))
          refine (N3.out S _ HS3.out B5).mono ?_; rintro e w7 ⟨z7, rfl, hy⟩
          have B7 := B5.below hy
          have hb7 := hb5.trans (hy.mono hb5.size)
          clear hy hb5 B5
          go_wp2_with fail
          all_goals (try (exfalso; omega))
          refine (N4.out _ B7).mono ?_; rintro e w8 ⟨z8, rfl, hy⟩
          have B8 := B7.below hy
          have hb8 := hb7.trans (hy.mono hb7.size)
          clear hy hb7 B7
          go_wp2_with fail
          refine (AW.out _ B8).mono ?_; rintro e w9 ⟨rfl, hy⟩
          go_wp2_with fail
          go_ret
          exact ⟨rfl, hb8.trans (hy.mono hb8.size)⟩

theorem tooLarge_walk10 (parts more zeros : Int) (w : World) (hB : Base w) (hp : (Lit.int .i64 parts).wf = true) (hmo : (Lit.int .i64 more).wf = true) (hz : (Lit.int .i64 zeros).wf = true) : Calls Tryd.prog 6 #[.int .i64 parts, .int .i64 more, .int .i64 zeros] w fun e w' => e = .returned (.bool true) ∧ Below w.heap.size w w' := by
  rcases (by omega : parts % 4 = 0 ∨ parts % 4 = 1 ∨ parts % 4 = 2 ∨ parts % 4 = 3) with h | h | h | h
  · exact tooLarge_0 parts more zeros w hB hp hmo hz h
  · exact tooLarge_1 parts more zeros w hB hp hmo hz h
  · exact tooLarge_2 parts more zeros w hB hp hmo hz h
  · exact tooLarge_3 parts more zeros w hB hp hmo hz h
end Go.Proofs.YtblcgicgbindlaaDoor
