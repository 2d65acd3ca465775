/- The walk of number of the reference of layer 10 (printed by tpl_ipv4u.py). Conditions: strings are of bounded length.
   The walk of number of the reference of layer 10, its cases joined. Conditions: strings are of bounded length.
   What a loop that divides a string at a byte has done so far. No program in sight. Conditions: none. -/
import Derived.Test.YtjbciamhhfcdoaaGreatDoorSub49
import Derived.BigQuiet
import Derived.Test.YtjbciamhhfcdoaaGreatDoorSub05
namespace Go.Proofs.YtjbciamhhfcdoaaGreatDoor
open Go.RowKit Hs
set_option linter.unusedSimpArgs false
set_option linter.unusedVariables false

theorem ne_empty (s : ByteArray) (h : 0 < s.size) : s.toList.isEmpty = false := by
  rw [toList_un]
  cases he : (un s).isEmpty
  · rfl
  · have h3 : s.size = 0 := by rw [← length_un, List.isEmpty_iff.1 he]; rfl
    omega
theorem un_two (s : ByteArray) (h : 2 ≤ s.size) : un s = s[0]'(by omega) :: s[1]'(by omega) :: (un s).drop 2 := by
  have h0 : 0 < (un s).length := by rw [length_un]; omega
  have h1 : 1 < (un s).length := by rw [length_un]; omega
  have e0 := List.drop_eq_getElem_cons h0
  have e1 := List.drop_eq_getElem_cons h1
  rw [List.drop_zero] at e0
  rw [e1] at e0
  exact e0
theorem numP_hexC (l : Bs) (b : UInt8) (r : Bs) (h : l = 48 :: b :: r) (hb : b = 120 ∨ b = 88) : numP l = numB 16 (l.drop 2) := by
  subst h
  unfold numP
  rw [if_neg (by simp), if_pos (by simp [hexP, hb])]
theorem numP_oct (l : Bs) (b : UInt8) (r : Bs) (h : l = 48 :: b :: r) (h1 : b ≠ 120) (h2 : b ≠ 88) : numP l = numB 8 (l.drop 1) := by
  subst h
  unfold numP
  rw [if_neg (by simp), if_neg (by simp [hexP, h1, h2]), if_pos (by simp)]
theorem numP_ten (l : Bs) (a : UInt8) (r : Bs) (h : l = a :: r) (ha : a = 48 → r = []) : numP l = numB 10 l := by
  subst h
  unfold numP
  rw [if_neg (by simp), if_neg (by cases r with | nil => simp [hexP] | cons b r => simp [hexP]; intro e; exact absurd (ha e) (by simp)), if_neg (by rintro ⟨h1, h2⟩; simp at h2; rw [ha h2] at h1; simp at h1)]

set_option maxHeartbeats 2000000 in
theorem r10_number_one (s : ByteArray) (w : World) (hs : s.size ≤ 100000000) (hn : s.size = 1) : Calls Tryz.prog 64 #[.string s] w fun e w' => e = .returned (.tuple #[.int .i64 (numP (un s)).1, .bool (numP (un s)).2]) ∧ Below w.heap.size w w' := by
  have hep : numP (un s) = numB 10 (un s) := by
    have hl : (un s).length = 1 := by rw [length_un]; exact hn
    match h : un s, hl with
    | [a], _ => exact numP_ten _ a [] rfl (fun _ => rfl)
  have g2 : (s.size : Int) < 2 := by omega
  have h1 := ne_empty s (by omega)
  obtain ⟨U, hU⟩ : ∃ U, U = un s := ⟨_, rfl⟩
  have EP : Hid (numP (un s) = numB 10 U) := Lib.hid (by rw [hU]; exact hep)
  have HU : Hid (U = un s) := Lib.hid (by rw [hU])
  clear hep hU
  go_enter Tryz.func64, Tryz.ntmps64
  go_wp2
  go_loop [5, 6] (fun nv iv => ∃ k : Nat, iv = .int .i64 k ∧ k ≤ s.size ∧ nv = .int .i64 (satB 10 (U.take k) 0) ∧ satB 10 (U.take k) 0 ≤ 1099511627776 ∧ Hid (allB 10 U = allB 10 (U.drop k))) (fun _ iv => s.size - (intOf iv).toNat)
  case atStart => exact ⟨0, rfl, by omega, rfl, by simp [satB], rfl⟩
  case round =>
    obtain ⟨k, rfl, hk, rfl, hle, ha⟩ := hrel
    by_cases hlt : k < s.size
    · have hlu : k < (U).length := by rw [HU.out, length_un]; exact hlt
      have hst := Lib.hid (satB_take 10 U k hlu)
      have hge : (U)[k]'hlu = s[k]'hlt := by simp only [HU.out]; rfl
      rw [hge] at hst
      have hnx : Hid (digV (s[k]'hlt) < 10 → allB 10 U = allB 10 (U.drop (k + 1))) := by
        intro h
        have e := ha.out
        rw [allB, allB, all_drop_eq U _ k hlu true (decide_eq_true (by rw [hge]; exact h))] at e
        exact e
      have hno : Hid (¬ digV (s[k]'hlt) < 10 → numB 10 U = (0, false)) := by
        intro h
        have e : allB 10 U = false := by rw [ha.out]; unfold allB; rw [all_drop_eq U _ k hlu false (decide_eq_false (by rw [hge]; exact h))]; rfl
        exact if_neg (by simp [e])
      have HD := Lib.hid (fun W => r10_digit (s[k]'hlt) _ rfl W)
      clear ha hge
      obtain ⟨v, hv⟩ : ∃ v, v = satB 10 (U.take k) 0 := ⟨_, rfl⟩
      rw [← hv] at hle hst ⊢
      clear hv
      obtain ⟨q, hq⟩ : ∃ q, q = digV (s[k]'hlt) := ⟨_, rfl⟩
      rw [← hq] at hnx hno hst HD
      clear hq
      by_cases hqb : q < 10
      · have HN := Lib.hid (hnx.out hqb)
        have g1 : decide ((10 : Int) ≤ (q : Int)) = false := decide_eq_false (by omega)
        clear hnx hno
        go_wp2_with fail
        refine (HD.out _).mono ?_; rintro e w2 ⟨rfl, rfl⟩
        go_wp2
        all_goals (try (exfalso; omega))
        go_round
        case rel =>
          refine ⟨k + 1, by go_num, by omega, ?_, by rw [hst.out]; omega, HN⟩
          rw [hst.out]
          congr 1
          omega
        case measure => simp [intOf]; omega
      · have HN := Lib.hid (hno.out hqb)
        have g1 : decide ((10 : Int) ≤ (q : Int)) = true := decide_eq_true (by omega)
        clear hnx hno
        go_wp2_with fail
        refine (HD.out _).mono ?_; rintro e w2 ⟨rfl, rfl⟩
        go_wp2
        all_goals (try (exfalso; omega))
        go_ret2
        rw [EP.out, HN.out]
        exact ⟨rfl, by first | exact Below.refl _ _ | exact below_drewN (Below.refl _ _) _⟩
    · obtain rfl : k = s.size := by omega
      have hall : Hid (numB 10 U = (satB 10 U 0, true)) := Lib.hid (by
        have hlen : s.size = (U).length := by rw [HU.out, length_un]
        have e := ha.out
        rw [hlen, List.drop_length] at e
        unfold numB
        rw [e]; rfl)
      have htk : (U).take s.size = U := List.take_of_length_le (by rw [HU.out, length_un]; exact Nat.le_refl _)
      rw [htk] at hle ⊢
      clear ha htk
      go_wp2
      go_ret2
      rw [EP.out, hall.out]
      exact ⟨rfl, by first | exact Below.refl _ _ | exact below_drewN (Below.refl _ _) _⟩

set_option maxHeartbeats 2000000 in
theorem r10_number_ten (s : ByteArray) (w : World) (hs : s.size ≤ 100000000) (hs2 : 2 ≤ s.size) (h0 : s[0]'(by omega) ≠ 48) : Calls Tryz.prog 64 #[.string s] w fun e w' => e = .returned (.tuple #[.int .i64 (numP (un s)).1, .bool (numP (un s)).2]) ∧ Below w.heap.size w w' := by
  have hep := numP_ten _ _ _ (un_two s hs2) (fun e => absurd e h0)
  have g2 : (2 : Int) ≤ (s.size : Int) := by omega
  have g3 : (((s[0]'(by omega)).toNat : Int) == 48) = false := by rw [beq_eq_false_iff_ne]; intro e; exact h0 (UInt8.toNat_inj.1 (by have : (48 : UInt8).toNat = 48 := rfl; omega))
  have h1 := ne_empty s (by omega)
  obtain ⟨U, hU⟩ : ∃ U, U = un s := ⟨_, rfl⟩
  have EP : Hid (numP (un s) = numB 10 U) := Lib.hid (by rw [hU]; exact hep)
  have HU : Hid (U = un s) := Lib.hid (by rw [hU])
  clear hep hU
  go_enter Tryz.func64, Tryz.ntmps64
  go_wp2
  go_loop [5, 6] (fun nv iv => ∃ k : Nat, iv = .int .i64 k ∧ k ≤ s.size ∧ nv = .int .i64 (satB 10 (U.take k) 0) ∧ satB 10 (U.take k) 0 ≤ 1099511627776 ∧ Hid (allB 10 U = allB 10 (U.drop k))) (fun _ iv => s.size - (intOf iv).toNat)
  case atStart => exact ⟨0, rfl, by omega, rfl, by simp [satB], rfl⟩
  case round =>
    obtain ⟨k, rfl, hk, rfl, hle, ha⟩ := hrel
    by_cases hlt : k < s.size
    · have hlu : k < (U).length := by rw [HU.out, length_un]; exact hlt
      have hst := Lib.hid (satB_take 10 U k hlu)
      have hge : (U)[k]'hlu = s[k]'hlt := by simp only [HU.out]; rfl
      rw [hge] at hst
      have hnx : Hid (digV (s[k]'hlt) < 10 → allB 10 U = allB 10 (U.drop (k + 1))) := by
        intro h
        have e := ha.out
        rw [allB, allB, all_drop_eq U _ k hlu true (decide_eq_true (by rw [hge]; exact h))] at e
        exact e
      have hno : Hid (¬ digV (s[k]'hlt) < 10 → numB 10 U = (0, false)) := by
        intro h
        have e : allB 10 U = false := by rw [ha.out]; unfold allB; rw [all_drop_eq U _ k hlu false (decide_eq_false (by rw [hge]; exact h))]; rfl
        exact if_neg (by simp [e])
      have HD := Lib.hid (fun W => r10_digit (s[k]'hlt) _ rfl W)
      clear ha hge
      obtain ⟨v, hv⟩ : ∃ v, v = satB 10 (U.take k) 0 := ⟨_, rfl⟩
      rw [← hv] at hle hst ⊢
      clear hv
      obtain ⟨q, hq⟩ : ∃ q, q = digV (s[k]'hlt) := ⟨_, rfl⟩
      rw [← hq] at hnx hno hst HD
      clear hq
      by_cases hqb : q < 10
      · have HN := Lib.hid (hnx.out hqb)
        have g1 : decide ((10 : Int) ≤ (q : Int)) = false := decide_eq_false (by omega)
        clear hnx hno
        go_wp2_with fail
        refine (HD.out _).mono ?_; rintro e w2 ⟨rfl, rfl⟩
        go_wp2
        all_goals (try (exfalso; omega))
        go_round
        case rel =>
          refine ⟨k + 1, by go_num, by omega, ?_, by rw [hst.out]; omega, HN⟩
          rw [hst.out]
          congr 1
          omega
        case measure => simp [intOf]; omega
      · have HN := Lib.hid (hno.out hqb)
        have g1 : decide ((10 : Int) ≤ (q : Int)) = true := decide_eq_true (by omega)
        clear hnx hno
        go_wp2_with fail
        refine (HD.out _).mono ?_; rintro e w2 ⟨rfl, rfl⟩
        go_wp2
        all_goals (try (exfalso; omega))
        go_ret2
        rw [EP.out, HN.out]
        exact ⟨rfl, by first | exact Below.refl _ _ | exact below_drewN (Below.refl _ _) _⟩
    · obtain rfl : k = s.size := by omega
      have hall : Hid (numB 10 U = (satB 10 U 0, true)) := Lib.hid (by
        have hlen : s.size = (U).length := by rw [HU.out, length_un]
        have e := ha.out
        rw [hlen, List.drop_length] at e
        unfold numB
        rw [e]; rfl)
      have htk : (U).take s.size = U := List.take_of_length_le (by rw [HU.out, length_un]; exact Nat.le_refl _)
      rw [htk] at hle ⊢
      clear ha htk
      go_wp2
      go_ret2
      rw [EP.out, hall.out]
      exact ⟨rfl, by first | exact Below.refl _ _ | exact below_drewN (Below.refl _ _) _⟩

set_option maxHeartbeats 2000000 in
theorem r10_number_hexx (s : ByteArray) (w : World) (hs : s.size ≤ 100000000) (hs2 : 2 ≤ s.size) (h0 : s[0]'(by omega) = 48) (h1b : s[1]'(by omega) = 120) : Calls Tryz.prog 64 #[.string s] w fun e w' => e = .returned (.tuple #[.int .i64 (numP (un s)).1, .bool (numP (un s)).2]) ∧ Below w.heap.size w w' := by
  have hep := numP_hexC (un s) (s[1]'(by omega)) ((un s).drop 2) (by rw [← h0]; exact un_two s hs2) (by rw [h1b]; decide)
  have g2 : (2 : Int) ≤ (s.size : Int) := by omega
  have g3 : (((s[0]'(by omega)).toNat : Int) == 48) = true := by rw [h0]; rfl
  have g5 : (((s[1]'(by omega)).toNat : Int) == 120) = true := by rw [h1b]; rfl
  have h1 := ne_empty s (by omega)
  obtain ⟨U, hU⟩ : ∃ U, U = (un s).drop 2 := ⟨_, rfl⟩
  have EP : Hid (numP (un s) = numB 16 U) := Lib.hid (by rw [hU]; exact hep)
  have HU : Hid (U = un (s.extract 2 s.size)) := Lib.hid (by rw [hU]; rw [un_tail])
  clear hep hU
  go_enter Tryz.func64, Tryz.ntmps64
  go_wp2
  go_quiet (fail)
  go_wp2
  go_loop [5, 6] (fun nv iv => ∃ k : Nat, iv = .int .i64 k ∧ k ≤ (s.extract 2 s.size).size ∧ nv = .int .i64 (satB 16 (U.take k) 0) ∧ satB 16 (U.take k) 0 ≤ 1099511627776 ∧ Hid (allB 16 U = allB 16 (U.drop k))) (fun _ iv => s.size - (intOf iv).toNat)
  case atStart => exact ⟨0, rfl, by omega, rfl, by simp [satB], rfl⟩
  case round =>
    obtain ⟨k, rfl, hk, rfl, hle, ha⟩ := hrel
    by_cases hlt : k < (s.extract 2 s.size).size
    · have hlt2 : k < s.size - 2 := by rw [ByteArray.size_extract] at hlt; omega
      have hlu : k < (U).length := by rw [HU.out, length_un]; exact hlt
      have hst := Lib.hid (satB_take 16 U k hlu)
      have hge : (U)[k]'hlu = (s.extract 2 s.size)[k]'hlt := by simp only [HU.out]; rfl
      rw [hge] at hst
      have hnx : Hid (digV ((s.extract 2 s.size)[k]'hlt) < 16 → allB 16 U = allB 16 (U.drop (k + 1))) := by
        intro h
        have e := ha.out
        rw [allB, allB, all_drop_eq U _ k hlu true (decide_eq_true (by rw [hge]; exact h))] at e
        exact e
      have hno : Hid (¬ digV ((s.extract 2 s.size)[k]'hlt) < 16 → numB 16 U = (0, false)) := by
        intro h
        have e : allB 16 U = false := by rw [ha.out]; unfold allB; rw [all_drop_eq U _ k hlu false (decide_eq_false (by rw [hge]; exact h))]; rfl
        exact if_neg (by simp [e])
      have HD := Lib.hid (fun W => r10_digit ((s.extract 2 s.size)[k]'hlt) _ rfl W)
      clear ha hge
      obtain ⟨v, hv⟩ : ∃ v, v = satB 16 (U.take k) 0 := ⟨_, rfl⟩
      rw [← hv] at hle hst ⊢
      clear hv
      obtain ⟨q, hq⟩ : ∃ q, q = digV ((s.extract 2 s.size)[k]'hlt) := ⟨_, rfl⟩
      rw [← hq] at hnx hno hst HD
      clear hq
      by_cases hqb : q < 16
      · have HN := Lib.hid (hnx.out hqb)
        have g1 : decide ((16 : Int) ≤ (q : Int)) = false := decide_eq_false (by omega)
        clear hnx hno
        go_wp2_with fail
        refine (HD.out _).mono ?_; rintro e w2 ⟨rfl, rfl⟩
        go_wp2
        all_goals (try (exfalso; omega))
        go_round
        case rel =>
          refine ⟨k + 1, by go_num, by omega, ?_, by rw [hst.out]; omega, HN⟩
          rw [hst.out]
          congr 1
          omega
        case measure => simp [intOf]; omega
      · have HN := Lib.hid (hno.out hqb)
        have g1 : decide ((16 : Int) ≤ (q : Int)) = true := decide_eq_true (by omega)
        clear hnx hno
        go_wp2_with fail
        refine (HD.out _).mono ?_; rintro e w2 ⟨rfl, rfl⟩
        go_wp2
        all_goals (try (exfalso; omega))
        go_ret2
        rw [EP.out, HN.out]
        exact ⟨rfl, by first | exact Below.refl _ _ | exact below_drewN (Below.refl _ _) _⟩
    · obtain rfl : k = (s.extract 2 s.size).size := by omega
      have hall : Hid (numB 16 U = (satB 16 U 0, true)) := Lib.hid (by
        have hlen : (s.extract 2 s.size).size = (U).length := by rw [HU.out, length_un]
        have e := ha.out
        rw [hlen, List.drop_length] at e
        unfold numB
        rw [e]; rfl)
      have htk : (U).take (s.extract 2 s.size).size = U := List.take_of_length_le (by rw [HU.out, length_un]; exact Nat.le_refl _)
      rw [htk] at hle ⊢
      clear ha htk
      go_wp2
      go_ret2
      rw [EP.out, hall.out]
      exact ⟨rfl, by first | exact Below.refl _ _ | exact below_drewN (Below.refl _ _) _⟩

set_option maxHeartbeats 2000000 in
theorem r10_number_hexX (s : ByteArray) (w : World) (hs : s.size ≤ 100000000) (hs2 : 2 ≤ s.size) (h0 : s[0]'(by omega) = 48) (h1b : s[1]'(by omega) = 88) : Calls Tryz.prog 64 #[.string s] w fun e w' => e = .returned (.tuple #[.int .i64 (numP (un s)).1, .bool (numP (un s)).2]) ∧ Below w.heap.size w w' := by
  have hep := numP_hexC (un s) (s[1]'(by omega)) ((un s).drop 2) (by rw [← h0]; exact un_two s hs2) (by rw [h1b]; decide)
  have g2 : (2 : Int) ≤ (s.size : Int) := by omega
  have g3 : (((s[0]'(by omega)).toNat : Int) == 48) = true := by rw [h0]; rfl
  have g5 : (((s[1]'(by omega)).toNat : Int) == 120) = false := by rw [h1b]; rfl
  have g6 : (((s[1]'(by omega)).toNat : Int) == 88) = true := by rw [h1b]; rfl
  have h1 := ne_empty s (by omega)
  obtain ⟨U, hU⟩ : ∃ U, U = (un s).drop 2 := ⟨_, rfl⟩
  have EP : Hid (numP (un s) = numB 16 U) := Lib.hid (by rw [hU]; exact hep)
  have HU : Hid (U = un (s.extract 2 s.size)) := Lib.hid (by rw [hU]; rw [un_tail])
  clear hep hU
  go_enter Tryz.func64, Tryz.ntmps64
  go_wp2
  go_quiet (fail)
  go_wp2
  go_loop [5, 6] (fun nv iv => ∃ k : Nat, iv = .int .i64 k ∧ k ≤ (s.extract 2 s.size).size ∧ nv = .int .i64 (satB 16 (U.take k) 0) ∧ satB 16 (U.take k) 0 ≤ 1099511627776 ∧ Hid (allB 16 U = allB 16 (U.drop k))) (fun _ iv => s.size - (intOf iv).toNat)
  case atStart => exact ⟨0, rfl, by omega, rfl, by simp [satB], rfl⟩
  case round =>
    obtain ⟨k, rfl, hk, rfl, hle, ha⟩ := hrel
    by_cases hlt : k < (s.extract 2 s.size).size
    · have hlt2 : k < s.size - 2 := by rw [ByteArray.size_extract] at hlt; omega
      have hlu : k < (U).length := by rw [HU.out, length_un]; exact hlt
      have hst := Lib.hid (satB_take 16 U k hlu)
      have hge : (U)[k]'hlu = (s.extract 2 s.size)[k]'hlt := by simp only [HU.out]; rfl
      rw [hge] at hst
      have hnx : Hid (digV ((s.extract 2 s.size)[k]'hlt) < 16 → allB 16 U = allB 16 (U.drop (k + 1))) := by
        intro h
        have e := ha.out
        rw [allB, allB, all_drop_eq U _ k hlu true (decide_eq_true (by rw [hge]; exact h))] at e
        exact e
      have hno : Hid (¬ digV ((s.extract 2 s.size)[k]'hlt) < 16 → numB 16 U = (0, false)) := by
        intro h
        have e : allB 16 U = false := by rw [ha.out]; unfold allB; rw [all_drop_eq U _ k hlu false (decide_eq_false (by rw [hge]; exact h))]; rfl
        exact if_neg (by simp [e])
      have HD := Lib.hid (fun W => r10_digit ((s.extract 2 s.size)[k]'hlt) _ rfl W)
      clear ha hge
      obtain ⟨v, hv⟩ : ∃ v, v = satB 16 (U.take k) 0 := ⟨_, rfl⟩
      rw [← hv] at hle hst ⊢
      clear hv
      obtain ⟨q, hq⟩ : ∃ q, q = digV ((s.extract 2 s.size)[k]'hlt) := ⟨_, rfl⟩
      rw [← hq] at hnx hno hst HD
      clear hq
      by_cases hqb : q < 16
      · have HN := Lib.hid (hnx.out hqb)
        have g1 : decide ((16 : Int) ≤ (q : Int)) = false := decide_eq_false (by omega)
        clear hnx hno
        go_wp2_with fail
        refine (HD.out _).mono ?_; rintro e w2 ⟨rfl, rfl⟩
        go_wp2
        all_goals (try (exfalso; omega))
        go_round
        case rel =>
          refine ⟨k + 1, by go_num, by omega, ?_, by rw [hst.out]; omega, HN⟩
          rw [hst.out]
          congr 1
          omega
        case measure => simp [intOf]; omega
      · have HN := Lib.hid (hno.out hqb)
        have g1 : decide ((16 : Int) ≤ (q : Int)) = true := decide_eq_true (by omega)
        clear hnx hno
        go_wp2_with fail
        refine (HD.out _).mono ?_; rintro e w2 ⟨rfl, rfl⟩
        go_wp2
        all_goals (try (exfalso; omega))
        go_ret2
        rw [EP.out, HN.out]
        exact ⟨rfl, by first | exact Below.refl _ _ | exact below_drewN (Below.refl _ _) _⟩
    · obtain rfl : k = (s.extract 2 s.size).size := by omega
      have hall : Hid (numB 16 U = (satB 16 U 0, true)) := Lib.hid (by
        have hlen : (s.extract 2 s.size).size = (U).length := by rw [HU.out, length_un]
        have e := ha.out
        rw [hlen, List.drop_length] at e
        unfold numB
        rw [e]; rfl)
      have htk : (U).take (s.extract 2 s.size).size = U := List.take_of_length_le (by rw [HU.out, length_un]; exact Nat.le_refl _)
      rw [htk] at hle ⊢
      clear ha htk
      go_wp2
      go_ret2
      rw [EP.out, hall.out]
      exact ⟨rfl, by first | exact Below.refl _ _ | exact below_drewN (Below.refl _ _) _⟩

set_option maxHeartbeats 2000000 in
theorem r10_number_oct (s : ByteArray) (w : World) (hs : s.size ≤ 100000000) (hs2 : 2 ≤ s.size) (h0 : s[0]'(by omega) = 48) (h1b : s[1]'(by omega) ≠ 120) (h1c : s[1]'(by omega) ≠ 88) : Calls Tryz.prog 64 #[.string s] w fun e w' => e = .returned (.tuple #[.int .i64 (numP (un s)).1, .bool (numP (un s)).2]) ∧ Below w.heap.size w w' := by
  have hep := numP_oct (un s) (s[1]'(by omega)) ((un s).drop 2) (by rw [← h0]; exact un_two s hs2) h1b h1c
  have g2 : (2 : Int) ≤ (s.size : Int) := by omega
  have g3 : (((s[0]'(by omega)).toNat : Int) == 48) = true := by rw [h0]; rfl
  have g5 : (((s[1]'(by omega)).toNat : Int) == 120) = false := by rw [beq_eq_false_iff_ne]; intro e; exact h1b (UInt8.toNat_inj.1 (by have : (120 : UInt8).toNat = 120 := rfl; omega))
  have g6 : (((s[1]'(by omega)).toNat : Int) == 88) = false := by rw [beq_eq_false_iff_ne]; intro e; exact h1c (UInt8.toNat_inj.1 (by have : (88 : UInt8).toNat = 88 := rfl; omega))
  have h1 := ne_empty s (by omega)
  obtain ⟨U, hU⟩ : ∃ U, U = (un s).drop 1 := ⟨_, rfl⟩
  have EP : Hid (numP (un s) = numB 8 U) := Lib.hid (by rw [hU]; exact hep)
  have HU : Hid (U = un (s.extract 1 s.size)) := Lib.hid (by rw [hU]; rw [un_tail])
  clear hep hU
  go_enter Tryz.func64, Tryz.ntmps64
  go_wp2
  go_quiet (fail)
  go_wp2
  go_loop [5, 6] (fun nv iv => ∃ k : Nat, iv = .int .i64 k ∧ k ≤ (s.extract 1 s.size).size ∧ nv = .int .i64 (satB 8 (U.take k) 0) ∧ satB 8 (U.take k) 0 ≤ 1099511627776 ∧ Hid (allB 8 U = allB 8 (U.drop k))) (fun _ iv => s.size - (intOf iv).toNat)
  case atStart => exact ⟨0, rfl, by omega, rfl, by simp [satB], rfl⟩
  case round =>
    obtain ⟨k, rfl, hk, rfl, hle, ha⟩ := hrel
    by_cases hlt : k < (s.extract 1 s.size).size
    · have hlt2 : k < s.size - 1 := by rw [ByteArray.size_extract] at hlt; omega
      have hlu : k < (U).length := by rw [HU.out, length_un]; exact hlt
      have hst := Lib.hid (satB_take 8 U k hlu)
      have hge : (U)[k]'hlu = (s.extract 1 s.size)[k]'hlt := by simp only [HU.out]; rfl
      rw [hge] at hst
      have hnx : Hid (digV ((s.extract 1 s.size)[k]'hlt) < 8 → allB 8 U = allB 8 (U.drop (k + 1))) := by
        intro h
        have e := ha.out
        rw [allB, allB, all_drop_eq U _ k hlu true (decide_eq_true (by rw [hge]; exact h))] at e
        exact e
      have hno : Hid (¬ digV ((s.extract 1 s.size)[k]'hlt) < 8 → numB 8 U = (0, false)) := by
        intro h
        have e : allB 8 U = false := by rw [ha.out]; unfold allB; rw [all_drop_eq U _ k hlu false (decide_eq_false (by rw [hge]; exact h))]; rfl
        exact if_neg (by simp [e])
      have HD := Lib.hid (fun W => r10_digit ((s.extract 1 s.size)[k]'hlt) _ rfl W)
      clear ha hge
      obtain ⟨v, hv⟩ : ∃ v, v = satB 8 (U.take k) 0 := ⟨_, rfl⟩
      rw [← hv] at hle hst ⊢
      clear hv
      obtain ⟨q, hq⟩ : ∃ q, q = digV ((s.extract 1 s.size)[k]'hlt) := ⟨_, rfl⟩
      rw [← hq] at hnx hno hst HD
      clear hq
      by_cases hqb : q < 8
      · have HN := Lib.hid (hnx.out hqb)
        have g1 : decide ((8 : Int) ≤ (q : Int)) = false := decide_eq_false (by omega)
        clear hnx hno
        go_wp2_with fail
        refine (HD.out _).mono ?_; rintro e w2 ⟨rfl, rfl⟩
        go_wp2
        all_goals (try (exfalso; omega))
        go_round
        case rel =>
          refine ⟨k + 1, by go_num, by omega, ?_, by rw [hst.out]; omega, HN⟩
          rw [hst.out]
          congr 1
          omega
        case measure => simp [intOf]; omega
      · have HN := Lib.hid (hno.out hqb)
        have g1 : decide ((8 : Int) ≤ (q : Int)) = true := decide_eq_true (by omega)
        clear hnx hno
        go_wp2_with fail
        refine (HD.out _).mono ?_; rintro e w2 ⟨rfl, rfl⟩
        go_wp2
        all_goals (try (exfalso; omega))
        go_ret2
        rw [EP.out, HN.out]
        exact ⟨rfl, by first | exact Below.refl _ _ | exact below_drewN (Below.refl _ _) _⟩
    · obtain rfl : k = (s.extract 1 s.size).size := by omega
      have hall : Hid (numB 8 U = (satB 8 U 0, true)) := Lib.hid (by
        have hlen : (s.extract 1 s.size).size = (U).length := by rw [HU.out, length_un]
        have e := ha.out
        rw [hlen, List.drop_length] at e
        unfold numB
        rw [e]; rfl)
      have htk : (U).take (s.extract 1 s.size).size = U := List.take_of_length_le (by rw [HU.out, length_un]; exact Nat.le_refl _)
      rw [htk] at hle ⊢
      clear ha htk
      go_wp2
      go_ret2
      rw [EP.out, hall.out]
      exact ⟨rfl, by first | exact Below.refl _ _ | exact below_drewN (Below.refl _ _) _⟩

end Go.Proofs.YtjbciamhhfcdoaaGreatDoor
namespace Go.Proofs.YtjbciamhhfcdoaaGreatDoor
open Go.RowKit Hs
set_option linter.unusedSimpArgs false
set_option linter.unusedVariables false

theorem r10_number (s : ByteArray) (w : World) (hs : s.size ≤ 100000000) : Calls Tryz.prog 64 #[.string s] w fun e w' => e = .returned (.tuple #[.int .i64 (numP (un s)).1, .bool (numP (un s)).2]) ∧ Below w.heap.size w w' := by
  by_cases h0 : s.size = 0
  · have hun : un s = [] := List.eq_nil_of_length_eq_zero (by rw [length_un]; exact h0)
    have h1 : s.toList.isEmpty = true := by rw [toList_un, hun]; rfl
    have ep : numP (un s) = (0, false) := by rw [hun]; rfl
    rw [ep]
    clear hun ep
    go_enter Tryz.func64, Tryz.ntmps64
    go_wp2
    go_ret2
    exact ⟨rfl, Below.refl _ _⟩
  · by_cases h1 : s.size = 1
    · exact r10_number_one s w hs h1
    · have h2 : 2 ≤ s.size := by omega
      by_cases a : s[0]'(by omega) = 48
      · by_cases b : s[1]'(by omega) = 120
        · exact r10_number_hexx s w hs h2 a b
        · by_cases c : s[1]'(by omega) = 88
          · exact r10_number_hexX s w hs h2 a c
          · exact r10_number_oct s w hs h2 a b c
      · exact r10_number_ten s w hs h2 a
end Go.Proofs.YtjbciamhhfcdoaaGreatDoor
namespace Hs
open Go

/-- Before byte k: the parts D stand, the next one begins at fr. -/
def SplitTo (c : UInt8) (l : Bs) (D : List Bs) (fr k : Nat) : Prop := (k ≤ l.length → D ++ splitD c (l.drop fr) = splitD c l ∧ ∀ x ∈ seg l fr k, x ≠ c) ∧ (k = l.length + 1 → D = splitD c l)
theorem SplitTo.start (c : UInt8) (l : Bs) : SplitTo c l [] 0 0 := ⟨fun _ => ⟨rfl, by simp [seg]⟩, fun h => by omega⟩
theorem drop_seg (l : Bs) (fr k : Nat) (h : fr ≤ k) : l.drop fr = seg l fr k ++ l.drop k := by
  have e : l.drop k = (l.drop fr).drop (k - fr) := by rw [List.drop_drop]; congr 1; omega
  rw [e]
  exact (List.take_append_drop (k - fr) (l.drop fr)).symm
theorem SplitTo.char {c : UInt8} {l : Bs} {D : List Bs} {fr k : Nat} (h : SplitTo c l D fr k) (hf : fr ≤ k) (hk : k < l.length) (hc : l[k] ≠ c) : SplitTo c l D fr (k + 1) := by
  refine ⟨fun _ => ⟨(h.1 (by omega)).1, fun x hx => ?_⟩, fun e => by omega⟩
  have e : seg l fr (k + 1) = seg l fr k ++ [l[k]] := by
    unfold seg
    rw [show k + 1 - fr = (k - fr) + 1 by omega, List.take_succ_eq_append_getElem (by rw [List.length_drop]; omega), List.getElem_drop]
    simp only [show fr + (k - fr) = k by omega]
  rw [e] at hx
  rcases List.mem_append.1 hx with hx | hx
  · exact (h.1 (by omega)).2 x hx
  · rw [List.mem_singleton.1 hx]; exact hc
theorem SplitTo.cut {c : UInt8} {l : Bs} {D : List Bs} {fr k : Nat} (h : SplitTo c l D fr k) (hf : fr ≤ k) (hk : k < l.length) (hc : l[k] = c) : SplitTo c l (D ++ [seg l fr k]) (k + 1) (k + 1) := by
  refine ⟨fun _ => ⟨?_, by simp [seg]⟩, fun e => by omega⟩
  obtain ⟨h1, h2⟩ := h.1 (by omega)
  rw [← h1, drop_seg l fr k hf, List.drop_eq_getElem_cons hk, hc, splitD_at c _ _ h2]
  simp
theorem SplitTo.fin {c : UInt8} {l : Bs} {D : List Bs} {fr k : Nat} (h : SplitTo c l D fr k) (hf : fr ≤ k) (hk : k = l.length) : SplitTo c l (D ++ [seg l fr k]) (k + 1) (k + 1) := by
  refine ⟨fun e => by omega, fun _ => ?_⟩
  obtain ⟨h1, h2⟩ := h.1 (by omega)
  rw [← h1, drop_seg l fr k hf, List.drop_eq_nil_of_le (by omega), List.append_nil, splitD_none c _ h2]
end Hs
