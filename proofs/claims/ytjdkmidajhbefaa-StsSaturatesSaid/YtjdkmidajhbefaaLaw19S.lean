/- The walk of StsSaturates (law of layer 19): it returns true; memory that existed is unchanged. Conditions: none. -/
import Derived.Test.YtjdkmidajhbefaaLaw19
import Derived.Test.YtjdkmidajhbefaaPlainSat
import Derived.Test.YtjdkmidajhbefaaKeepMod
namespace Go.Proofs.Ytjdkmidajhbefaa
open Go.RowKit Hs
set_option linter.unusedSimpArgs false
set_option linter.unusedVariables false

set_option maxHeartbeats 3000000 in
theorem saturates_walk (n zeros : Int) (sub : Bool) (w : World) (hn : (Lit.int .i64 n).wf = true) (hz : (Lit.int .i64 zeros).wf = true) : Calls Try.prog 10 #[.int .i64 n, .int .i64 zeros, .bool sub] w fun e w' => e = .returned (.bool true) ∧ Below w.heap.size w w' := by
  obtain ⟨k, hk, hkl⟩ : ∃ k : Nat, n % 8589934592 = (k : Int) ∧ k < 8589934592 := ⟨(n % 8589934592).toNat, by have := Int.emod_nonneg n (show (8589934592 : Int) ≠ 0 by omega); omega, by have := Int.emod_lt_of_pos n (show (0 : Int) < 8589934592 by omega); have := Int.emod_nonneg n (show (8589934592 : Int) ≠ 0 by omega); omega⟩
  obtain ⟨z, hzz, hzl⟩ : ∃ z : Nat, zeros % 50 = (z : Int) ∧ z < 50 := ⟨(zeros % 50).toNat, by have := Int.emod_nonneg zeros (show (50 : Int) ≠ 0 by omega); omega, by have := Int.emod_lt_of_pos zeros (show (0 : Int) < 50 by omega); have := Int.emod_nonneg zeros (show (50 : Int) ≠ 0 by omega); omega⟩
  have HM : Hid (∀ W : World, Calls Try.prog 17 #[.int .i64 n, .int .i64 8589934592] W fun e w' => e = .returned (.int .i64 (k : Int)) ∧ W = w') := Lib.hid fun W => by
    have := keep_mod n 8589934592 W hn (by omega) (by omega)
    rw [hk] at this
    exact this
  have HZ : Hid (∀ W : World, Calls Try.prog 17 #[.int .i64 zeros, .int .i64 50] W fun e w' => e = .returned (.int .i64 (z : Int)) ∧ W = w') := Lib.hid fun W => by
    have := keep_mod zeros 50 W hz (by omega) (by omega)
    rw [hzz] at this
    exact this
  have hdl := decDigits_len k (by omega)
  have hst := Lib.hid (addD_start k)
  clear hk hzz hn hz
  go_enter Try.func10, Try.ntmps10
  go_wp2_with fail
  refine (HM.out _).mono ?_; rintro e w' ⟨rfl, rfl⟩
  go_wp2_with fail
  go_loop [8, 9] (fun sv mv => ∃ (m : Nat) (S : Bs), sv = .string (mk S) ∧ mv = .int .i64 (m : Int) ∧ m < 8589934592 ∧ Hid (addD m S = Lib.decDigits k)) (fun sv mv => (intOf mv).toNat + (1 - strLen sv))
  case atStart => exact ⟨k, [], rfl, rfl, hkl, hst⟩
  case round =>
    obtain ⟨m, S, rfl, rfl, hm, had⟩ := hrel
    have hsl : S.length ≤ 10 := by have := addD_len m S; rw [had.out] at this; omega
    have hss : (mk S).size ≤ 10 := by rw [size_mk]; exact hsl
    by_cases hgo : 0 < m ∨ S = []
    · obtain ⟨d, hd⟩ : ∃ d, d = m % 10 := ⟨_, rfl⟩
      have hd10 : d < 10 := by omega
      have htm : ((m : Nat) : Int).tmod 10 = ((d : Nat) : Int) := by rw [Int.tmod_eq_emod_of_nonneg (by omega)]; omega
      have hst2 := Lib.hid ((addD_step m S hgo).symm.trans had.out)
      rw [← hd] at hst2
      have hone := Lib.hid (one_digit d hd10)
      have hms : 0 < m ∨ (mk S).size = 0 := by rcases hgo with h | h; exact .inl h; exact .inr (by rw [h]; rfl)
      have HD := Lib.hid hd
      clear hd had
      by_cases hm0 : 0 < m
      · clear hgo hms
        go_wp2
        go_round
        case rel => exact ⟨m / 10, UInt8.ofNat (48 + d) :: S, congrArg Value.string (un_inj (by rw [un_append, hone.out]; rfl)), congrArg (Value.int .i64) (by omega), by omega, hst2⟩
        case measure =>
          have hsz : ((ByteArray.mk #[48, 49, 50, 51, 52, 53, 54, 55, 56, 57]).extract d (d + 1)).size = 1 := by
            have := congrArg List.length hone.out
            rw [length_un] at this
            exact this
          simp only [intOf, strLen, ByteArray.size_append, hsz]
          omega
      · have hS : S = [] := by rcases hgo with h | h; exact absurd h hm0; exact h
        subst hS
        have hm1 : ¬ ((0 : Int) < (m : Int)) := by omega
        have hdz : d = 0 := by have := HD.out; omega
        have e0 : mk [] = ⟨#[]⟩ := rfl
        have hss2 : (ByteArray.mk #[]).size = 0 := rfl
        rw [e0]
        clear hgo hms hm0 hdz
        go_wp2
        go_round
        case rel => exact ⟨m / 10, UInt8.ofNat (48 + d) :: [], congrArg Value.string (un_inj (by rw [un_append, hone.out]; rfl)), congrArg (Value.int .i64) (by omega), by omega, hst2⟩
        case measure =>
          have hsz : ((ByteArray.mk #[48, 49, 50, 51, 52, 53, 54, 55, 56, 57]).extract d (d + 1)).size = 1 := by
            have := congrArg List.length hone.out
            rw [length_un] at this
            exact this
          simp only [intOf, strLen, ByteArray.size_append, hsz]
          rw [hss2]; omega
    · have hm0 : m = 0 := by omega
      subst hm0
      have hS : S ≠ [] := fun h => hgo (.inr h)
      have hSk : Hid (S = Lib.decDigits k) := Lib.hid ((addD_end S hS).symm.trans had.out)
      have b1 : ((mk S).toList == ([] : List UInt8)) = false := beq_no (by rw [toList_mk']; exact hS)
      have b2 : ((mk S).toList == (ByteArray.mk #[]).toList) = false := beq_no (by rw [toList_mk', toList_un]; exact hS)
      clear hgo hS had hst hm
      go_wp2_with fail
      refine (HZ.out _).mono ?_; rintro e w' ⟨rfl, rfl⟩
      go_wp2_with fail
      go_loop [8, 10] (fun sv zv => ∃ j : Nat, j ≤ z ∧ sv = .string (mk (List.replicate j 48 ++ S)) ∧ zv = .int .i64 ((z - j : Nat) : Int)) (fun sv zv => (intOf zv).toNat)
      case atStart => exact ⟨0, by omega, rfl, rfl⟩
      case round =>
        obtain ⟨j, hj, rfl, rfl⟩ := hrel
        have hjs : (mk (List.replicate j 48 ++ S)).size ≤ 60 := by rw [size_mk]; simp; omega
        have hjl : (List.replicate j (48 : UInt8) ++ S).length ≤ 60 := by rw [size_mk] at hjs; exact hjs
        obtain ⟨r, hr⟩ : ∃ r, r = z - j := ⟨_, rfl⟩
        rw [← hr]
        by_cases hr0 : 0 < r
        · go_wp2
          go_round
          case rel => exact ⟨j + 1, by omega, congrArg Value.string (un_inj (by rw [un_append, un_mk, un_mk, List.replicate_succ]; rfl)), congrArg (Value.int .i64) (by omega)⟩
          case measure => simp [intOf]; omega
        · have hjz : j = z := by omega
          have hsat := fun (X : ByteArray) (hX : un X = satText sub (List.replicate j 48 ++ S)) (hXs : X.size ≤ 1000) (W : World) => sts_parse X W (by omega)
          have hR : Hid (stsP (satText sub (List.replicate j 48 ++ S)) = ((((min k 2147483647 : Nat) : Int), sub), 0)) := Lib.hid (by rw [hSk.out]; exact satText_sts sub j k (by omega))
          have hsat2 : Hid (∀ (X : ByteArray) (W : World), un X = satText sub (List.replicate j 48 ++ S) → X.size ≤ 1000 → Calls Try.prog 28 #[.string X] W fun e w' => e = .returned (.tuple #[.agg #[.int .i64 ((min k 2147483647 : Nat) : Int), .bool sub], .int .i64 0]) ∧ Below W.heap.size W w') := Lib.hid (fun X W hX hXs => by
            have := sts_parse X W (by omega)
            rw [hX, hR.out] at this
            exact this)
          generalize List.replicate j (48 : UInt8) ++ S = D at *
          obtain ⟨q, hq⟩ : ∃ q : Nat, q = min k 2147483647 := ⟨_, rfl⟩
          rw [← hq] at hsat2
          have hqk : (q : Int) = min (k : Int) 2147483647 := by omega
          clear hsat hR hr hj
          have hjs0 : (mk D).size = D.length := size_mk D
          cases sub
          · go_wp2_with fail
            refine (hsat2.out (ByteArray.mk #[109, 97, 120, 45, 97, 103, 101, 61] ++ mk D) _ (by rw [un_append, un_mk]; rfl) (by simp only [ByteArray.size_append, hjs0]; show _ ≤ _; simp only [ByteArray.size, List.size_toArray, Array.size, List.length_cons, List.length_nil]; omega)).mono ?_; rintro e w1 ⟨rfl, hb1⟩
            go_wp2_with fail
            all_goals (try (exfalso; omega))
            refine (law19_awake _).mono ?_; rintro e w3 ⟨rfl, hb3⟩
            go_wp2_with fail
            go_ret
            exact ⟨rfl, (hb1.alloc hb1.size _).trans (hb3.mono (hb1.alloc hb1.size _).size)⟩
          · go_wp2_with fail
            refine (hsat2.out (ByteArray.mk #[105, 110, 99, 108, 117, 100, 101, 83, 117, 98, 68, 111, 109, 97, 105, 110, 115, 59] ++ (ByteArray.mk #[109, 97, 120, 45, 97, 103, 101, 61] ++ mk D)) _ (by rw [un_append, un_append, un_mk]; rfl) (by simp only [ByteArray.size_append, hjs0]; show _ ≤ _; simp only [ByteArray.size, List.size_toArray, Array.size, List.length_cons, List.length_nil]; omega)).mono ?_; rintro e w1 ⟨rfl, hb1⟩
            go_wp2_with fail
            all_goals (try (exfalso; omega))
            refine (law19_awake _).mono ?_; rintro e w3 ⟨rfl, hb3⟩
            go_wp2_with fail
            go_ret
            exact ⟨rfl, (hb1.alloc hb1.size _).trans (hb3.mono (hb1.alloc hb1.size _).size)⟩
end Go.Proofs.Ytjdkmidajhbefaa
