/- The walks of the byte classes of the layer ascii (program and reference): each returns the plain function's answer and changes nothing. Conditions: none. -/
import Derived.Test.YtimfngfimnapoaaRows
import Derived.Test.YtimfngfimnapoaaKit
namespace Go.Proofs.Ytimfngfimnapoaa
open Go.RowKit Hs
set_option linter.unusedSimpArgs false

set_option maxHeartbeats 500000 in
theorem ascii_isDigit (b : UInt8) (n : Int) (h : n = (b.toNat : Int)) (w : World) : Calls Try.prog 50 #[.int .u8 n] w fun e w' => e = .returned (.bool (isDigit b)) ∧ w = w' := by
  subst h
  go_enter Try.func50, Try.ntmps50
  go_wp2
  all_goals
    go_ret
    refine ⟨ret_bool ?_, rfl⟩
    first | (refine btrue ?_; omega) | (refine bfalse ?_; omega) | (refine bdec ?_; omega) | (refine beqdec ?_; omega) | (refine bnedec ?_; omega)

set_option maxHeartbeats 500000 in
theorem ascii_isBlank (b : UInt8) (n : Int) (h : n = (b.toNat : Int)) (w : World) : Calls Try.prog 42 #[.int .u8 n] w fun e w' => e = .returned (.bool (isBlank b)) ∧ w = w' := by
  subst h
  go_enter Try.func42, Try.ntmps42
  go_wp2
  all_goals
    go_ret
    refine ⟨ret_bool ?_, rfl⟩
    first | (refine btrue ?_; omega) | (refine bfalse ?_; omega) | (refine bdec ?_; omega) | (refine beqdec ?_; omega) | (refine bnedec ?_; omega)

set_option maxHeartbeats 500000 in
theorem ref01_isBlank (b : UInt8) (n : Int) (h : n = (b.toNat : Int)) (w : World) : Calls Try.prog 45 #[.int .u8 n] w fun e w' => e = .returned (.bool (isBlank b)) ∧ w = w' := by
  subst h
  go_enter Try.func45, Try.ntmps45
  go_wp2
  all_goals
    go_ret
    refine ⟨ret_bool ?_, rfl⟩
    first | (refine btrue ?_; omega) | (refine bfalse ?_; omega) | (refine bdec ?_; omega) | (refine beqdec ?_; omega) | (refine bnedec ?_; omega)



set_option maxHeartbeats 500000 in
theorem ascii_isToken (b : UInt8) (n : Int) (h : n = (b.toNat : Int)) (w : World) : Calls Try.prog 41 #[.int .u8 n] w fun e w' => e = .returned (.bool (isTok b)) ∧ w = w' := by
  subst h
  go_enter Try.func41, Try.ntmps41
  go_wp2_with ((go_at_call 50; refine (ascii_isDigit b _ rfl _).mono ?_; rintro e w' ⟨rfl, rfl⟩))
  all_goals
    go_ret
    refine ⟨ret_bool ?_, rfl⟩
    (try simp only [isBlank, isDigit, beq_iff_eq, beq_eq_false_iff_ne, ne_eq, decide_eq_true_eq, decide_eq_false_iff_not] at *)
    first | (refine btrue ?_; omega) | (refine bfalse ?_; omega) | (refine bdec ?_; omega) | (refine beqdec ?_; omega) | (refine bnedec ?_; omega)

/-- The bytes of the reference's string of marks. -/
def marks : List Nat := [33, 35, 36, 37, 38, 39, 42, 43, 45, 46, 94, 95, 96, 124, 126]
theorem marks_all (b : UInt8) (h : ∀ j, j < 15 → marks.getD j 0 ≠ b.toNat) (h1 : ¬ (97 ≤ b.toNat ∧ b.toNat ≤ 122)) (h2 : ¬ (65 ≤ b.toNat ∧ b.toNat ≤ 90)) (h3 : ¬ (48 ≤ b.toNat ∧ b.toNat ≤ 57)) : false = isTok b := by
  refine bfalse ?_
  have e := fun j hj => h j hj
  have e0 := e 0 (by omega); have e1 := e 1 (by omega); have e2 := e 2 (by omega); have e3 := e 3 (by omega); have e4 := e 4 (by omega)
  have e5 := e 5 (by omega); have e6 := e 6 (by omega); have e7 := e 7 (by omega); have e8 := e 8 (by omega); have e9 := e 9 (by omega)
  have e10 := e 10 (by omega); have e11 := e 11 (by omega); have e12 := e 12 (by omega); have e13 := e 13 (by omega); have e14 := e 14 (by omega)
  simp only [marks, List.getD_cons_zero, List.getD_cons_succ] at e0 e1 e2 e3 e4 e5 e6 e7 e8 e9 e10 e11 e12 e13 e14
  omega
theorem marks_one (b : UInt8) (k : Nat) (hk : k < 15) (h : marks.getD k 0 = b.toNat) : true = isTok b := by
  refine btrue ?_
  rw [← h]
  match k, hk with
  | 0, _ | 1, _ | 2, _ | 3, _ | 4, _ | 5, _ | 6, _ | 7, _ | 8, _ | 9, _ | 10, _ | 11, _ | 12, _ | 13, _ | 14, _ => simp [marks]
def marksStr : ByteArray := ⟨#[33, 35, 36, 37, 38, 39, 42, 43, 45, 46, 94, 95, 96, 124, 126]⟩
theorem marks_at (k : Nat) (hk : k < marksStr.size) : (marksStr[k]'hk).toNat = marks.getD k 0 := by
  have h : k < 15 := hk
  match k, h with
  | 0, _ | 1, _ | 2, _ | 3, _ | 4, _ | 5, _ | 6, _ | 7, _ | 8, _ | 9, _ | 10, _ | 11, _ | 12, _ | 13, _ | 14, _ => rfl
set_option maxHeartbeats 1000000 in
theorem ref01_isToken (b : UInt8) (n : Int) (h : n = (b.toNat : Int)) (w : World) : Calls Try.prog 43 #[.int .u8 n] w fun e w' => e = .returned (.bool (isTok b)) ∧ w = w' := by
  subst h
  have hcases : (b.toNat : Int) < 48 ∨ ((48 : Int) ≤ b.toNat ∧ (b.toNat : Int) ≤ 57) ∨ ((57 : Int) < b.toNat ∧ (b.toNat : Int) < 65) ∨ ((65 : Int) ≤ b.toNat ∧ (b.toNat : Int) ≤ 90) ∨ ((90 : Int) < b.toNat ∧ (b.toNat : Int) < 97) ∨ ((97 : Int) ≤ b.toNat ∧ (b.toNat : Int) ≤ 122) ∨ (122 : Int) < b.toNat := by omega
  rcases hcases with hc | ⟨hc, hc'⟩ | ⟨hc, hc'⟩ | ⟨hc, hc'⟩ | ⟨hc, hc'⟩ | ⟨hc, hc'⟩ | hc
  · go_enter Try.func43, Try.ntmps43
    go_wp2
    all_goals (try (exfalso; omega))
    go_loop [4] (fun i => ∃ k : Nat, k ≤ 15 ∧ i = .int .i64 k ∧ Hid (∀ j, j < k → marks.getD j 0 ≠ b.toNat)) (fun i => 15 - (intOf i).toNat)
    case atStart => exact ⟨0, by omega, rfl, fun j hj => by omega⟩
    case round =>
      obtain ⟨k, hk, rfl, hj⟩ := hrel
      by_cases hlt : k < 15
      · have hm := Lib.hid (marks_at k hlt)
        go_wp2
        · go_ret
          have ht : (((marksStr[k]'hlt).toNat : Int) == (b.toNat : Int)) = true := by assumption
          refine ⟨ret_bool (marks_one b k hlt ?_), rfl⟩
          have := hm.out
          simp only [beq_iff_eq] at ht
          omega
        · have ht : (((marksStr[k]'hlt).toNat : Int) == (b.toNat : Int)) = false := by assumption
          go_round
          case rel =>
            refine ⟨k + 1, by omega, by go_num, fun j hj' => ?_⟩
            have := hm.out
            simp only [beq_eq_false_iff_ne, ne_eq] at ht
            rcases Nat.lt_succ_iff_lt_or_eq.1 hj' with h | rfl
            · exact hj.out j h
            · omega
          case measure => simp [intOf]; omega
      · go_wp2
        go_ret
        obtain rfl : k = 15 := by omega
        exact ⟨ret_bool (marks_all b hj.out (by omega) (by omega) (by omega)), rfl⟩
  · go_enter Try.func43, Try.ntmps43
    go_wp2
    all_goals (try (exfalso; omega))
    go_ret
    refine ⟨ret_bool ?_, rfl⟩
    refine btrue ?_
    omega
  · go_enter Try.func43, Try.ntmps43
    go_wp2
    all_goals (try (exfalso; omega))
    go_loop [4] (fun i => ∃ k : Nat, k ≤ 15 ∧ i = .int .i64 k ∧ Hid (∀ j, j < k → marks.getD j 0 ≠ b.toNat)) (fun i => 15 - (intOf i).toNat)
    case atStart => exact ⟨0, by omega, rfl, fun j hj => by omega⟩
    case round =>
      obtain ⟨k, hk, rfl, hj⟩ := hrel
      by_cases hlt : k < 15
      · have hm := Lib.hid (marks_at k hlt)
        go_wp2
        · go_ret
          have ht : (((marksStr[k]'hlt).toNat : Int) == (b.toNat : Int)) = true := by assumption
          refine ⟨ret_bool (marks_one b k hlt ?_), rfl⟩
          have := hm.out
          simp only [beq_iff_eq] at ht
          omega
        · have ht : (((marksStr[k]'hlt).toNat : Int) == (b.toNat : Int)) = false := by assumption
          go_round
          case rel =>
            refine ⟨k + 1, by omega, by go_num, fun j hj' => ?_⟩
            have := hm.out
            simp only [beq_eq_false_iff_ne, ne_eq] at ht
            rcases Nat.lt_succ_iff_lt_or_eq.1 hj' with h | rfl
            · exact hj.out j h
            · omega
          case measure => simp [intOf]; omega
      · go_wp2
        go_ret
        obtain rfl : k = 15 := by omega
        exact ⟨ret_bool (marks_all b hj.out (by omega) (by omega) (by omega)), rfl⟩
  · go_enter Try.func43, Try.ntmps43
    go_wp2
    all_goals (try (exfalso; omega))
    go_ret
    refine ⟨ret_bool ?_, rfl⟩
    refine btrue ?_
    omega
  · go_enter Try.func43, Try.ntmps43
    go_wp2
    all_goals (try (exfalso; omega))
    go_loop [4] (fun i => ∃ k : Nat, k ≤ 15 ∧ i = .int .i64 k ∧ Hid (∀ j, j < k → marks.getD j 0 ≠ b.toNat)) (fun i => 15 - (intOf i).toNat)
    case atStart => exact ⟨0, by omega, rfl, fun j hj => by omega⟩
    case round =>
      obtain ⟨k, hk, rfl, hj⟩ := hrel
      by_cases hlt : k < 15
      · have hm := Lib.hid (marks_at k hlt)
        go_wp2
        · go_ret
          have ht : (((marksStr[k]'hlt).toNat : Int) == (b.toNat : Int)) = true := by assumption
          refine ⟨ret_bool (marks_one b k hlt ?_), rfl⟩
          have := hm.out
          simp only [beq_iff_eq] at ht
          omega
        · have ht : (((marksStr[k]'hlt).toNat : Int) == (b.toNat : Int)) = false := by assumption
          go_round
          case rel =>
            refine ⟨k + 1, by omega, by go_num, fun j hj' => ?_⟩
            have := hm.out
            simp only [beq_eq_false_iff_ne, ne_eq] at ht
            rcases Nat.lt_succ_iff_lt_or_eq.1 hj' with h | rfl
            · exact hj.out j h
            · omega
          case measure => simp [intOf]; omega
      · go_wp2
        go_ret
        obtain rfl : k = 15 := by omega
        exact ⟨ret_bool (marks_all b hj.out (by omega) (by omega) (by omega)), rfl⟩
  · go_enter Try.func43, Try.ntmps43
    go_wp2
    all_goals (try (exfalso; omega))
    go_ret
    refine ⟨ret_bool ?_, rfl⟩
    refine btrue ?_
    omega
  · go_enter Try.func43, Try.ntmps43
    go_wp2
    all_goals (try (exfalso; omega))
    go_loop [4] (fun i => ∃ k : Nat, k ≤ 15 ∧ i = .int .i64 k ∧ Hid (∀ j, j < k → marks.getD j 0 ≠ b.toNat)) (fun i => 15 - (intOf i).toNat)
    case atStart => exact ⟨0, by omega, rfl, fun j hj => by omega⟩
    case round =>
      obtain ⟨k, hk, rfl, hj⟩ := hrel
      by_cases hlt : k < 15
      · have hm := Lib.hid (marks_at k hlt)
        go_wp2
        · go_ret
          have ht : (((marksStr[k]'hlt).toNat : Int) == (b.toNat : Int)) = true := by assumption
          refine ⟨ret_bool (marks_one b k hlt ?_), rfl⟩
          have := hm.out
          simp only [beq_iff_eq] at ht
          omega
        · have ht : (((marksStr[k]'hlt).toNat : Int) == (b.toNat : Int)) = false := by assumption
          go_round
          case rel =>
            refine ⟨k + 1, by omega, by go_num, fun j hj' => ?_⟩
            have := hm.out
            simp only [beq_eq_false_iff_ne, ne_eq] at ht
            rcases Nat.lt_succ_iff_lt_or_eq.1 hj' with h | rfl
            · exact hj.out j h
            · omega
          case measure => simp [intOf]; omega
      · go_wp2
        go_ret
        obtain rfl : k = 15 := by omega
        exact ⟨ret_bool (marks_all b hj.out (by omega) (by omega) (by omega)), rfl⟩
end Go.Proofs.Ytimfngfimnapoaa
