/- The walk of digits of ipv4 at the base 10. Conditions: strings are of bounded length. -/
import Derived.Test.YtblcgicgbindlaaDoorAsciiWords
import Derived.Test.YtblcgicgbindlaaDoorPlainIpv4
namespace Go.Proofs.YtblcgicgbindlaaDoor
open Go.RowKit Hs
set_option linter.unusedSimpArgs false
set_option linter.unusedVariables false

theorem dig_cases (b : UInt8) : ((48 : Int) ≤ (b.toNat : Int) ∧ (b.toNat : Int) ≤ 57 ∧ digV b = b.toNat - 48) ∨ ((97 : Int) ≤ (b.toNat : Int) ∧ (b.toNat : Int) ≤ 102 ∧ digV b = b.toNat - 87) ∨ ((65 : Int) ≤ (b.toNat : Int) ∧ (b.toNat : Int) ≤ 70 ∧ digV b = b.toNat - 55) ∨ (((b.toNat : Int) < 48 ∨ 57 < (b.toNat : Int)) ∧ ((b.toNat : Int) < 97 ∨ 102 < (b.toNat : Int)) ∧ ((b.toNat : Int) < 65 ∨ 70 < (b.toNat : Int)) ∧ digV b = 99) := by
  unfold digV
  by_cases h1 : 48 ≤ b.toNat ∧ b.toNat ≤ 57
  · rw [if_pos h1]; omega
  · rw [if_neg h1]
    by_cases h2 : 97 ≤ b.toNat ∧ b.toNat ≤ 102
    · rw [if_pos h2]; omega
    · rw [if_neg h2]
      by_cases h3 : 65 ≤ b.toNat ∧ b.toNat ≤ 70
      · rw [if_pos h3]; omega
      · rw [if_neg h3]; omega

set_option maxHeartbeats 1600000 in
theorem i4_digits10 (s : ByteArray) (w : World) (hs : s.size ≤ 100000000) : Calls Tryd.prog 30 #[.string s, .int .i64 10] w fun e w' => e = .returned (.tuple #[.int .i64 (numB 10 (un s)).1, .bool (numB 10 (un s)).2]) ∧ w = w' := by
  go_enter Tryd.func30, Tryd.ntmps30
  go_wp2
  go_loop [6, 12] (fun nv iv => ∃ k : Nat, iv = .int .i64 k ∧ k ≤ s.size ∧ nv = .int .i64 (satB 10 ((un s).take k) 0) ∧ satB 10 ((un s).take k) 0 ≤ 1099511627776 ∧ Hid (allB 10 (un s) = allB 10 ((un s).drop k))) (fun _ iv => s.size - (intOf iv).toNat)
  case atStart => exact ⟨0, rfl, by omega, rfl, by simp [satB], rfl⟩
  case round =>
    obtain ⟨k, rfl, hk, rfl, hle, ha⟩ := hrel
    by_cases hlt : k < s.size
    · have hlu : k < (un s).length := by rw [length_un]; exact hlt
      have hst := Lib.hid (satB_take 10 (un s) k hlu)
      have hx := (s[k]'hlt).toNat_lt
      have hnx : Hid (digV (s[k]'hlt) < 10 → allB 10 (un s) = allB 10 ((un s).drop (k + 1))) := by
        intro h
        have e := ha.out
        rw [allB, allB, all_drop_eq (un s) _ k hlu true (decide_eq_true h)] at e
        exact e
      have hno : Hid (¬ digV (s[k]'hlt) < 10 → numB 10 (un s) = (0, false)) := by
        intro h
        have e : allB 10 (un s) = false := by rw [ha.out]; unfold allB; rw [all_drop_eq (un s) _ k hlu false (decide_eq_false h)]; rfl
        exact if_neg (by simp [e])
      clear ha
      obtain ⟨v, hv⟩ : ∃ v, v = satB 10 ((un s).take k) 0 := ⟨_, rfl⟩
      rw [← hv] at hle hst ⊢
      clear hv
      have hdc := dig_cases (s[k]'hlt)
      obtain ⟨q, hq⟩ : ∃ q, q = digV (s[k]'hlt) := ⟨_, rfl⟩
      rw [← hq] at hdc hnx hno
      have hst' : Hid (satB 10 ((un s).take (k + 1)) 0 = min (v * 10 + q) 1099511627776) := by rw [hq]; exact hst.out
      clear hst hq
      by_cases hqb : q < 10
      · have HN := Lib.hid (hnx.out hqb)
        clear hnx hno
        rcases hdc with ⟨h1, h2, h3⟩ | ⟨h1, h2, h3⟩ | ⟨h1, h2, h3⟩ | ⟨h1, h2, h3, h4⟩
        all_goals (try (exfalso; omega))
        all_goals
          go_wp2
          all_goals (try (exfalso; omega))
          go_round
          case rel =>
            refine ⟨k + 1, by go_num, by omega, ?_, by rw [hst'.out]; omega, HN⟩
            rw [hst'.out]
            congr 1
            omega
          case measure => simp [intOf]; omega
      · have HN := Lib.hid (hno.out hqb)
        clear hnx hno
        rcases hdc with ⟨h1, h2, h3⟩ | ⟨h1, h2, h3⟩ | ⟨h1, h2, h3⟩ | ⟨h1, h2, h3, h4⟩
        all_goals (try (exfalso; omega))
        all_goals
          go_wp2
          all_goals (try (exfalso; omega))
          all_goals
            go_ret2
            exact ⟨by rw [HN.out]; rfl, rfl⟩
    · obtain rfl : k = s.size := by omega
      have htk : (un s).take s.size = un s := List.take_of_length_le (by rw [length_un]; exact Nat.le_refl _)
      have hfin : Hid (numB 10 (un s) = (satB 10 (un s) 0, true)) := by
        have e : allB 10 (un s) = true := by rw [ha.out, List.drop_eq_nil_of_le (by rw [length_un]; exact Nat.le_refl _)]; rfl
        exact if_pos e
      clear ha
      rw [htk] at hle ⊢
      go_wp2
      all_goals (try (exfalso; omega))
      go_ret2
      exact ⟨by rw [hfin.out]; rfl, rfl⟩
end Go.Proofs.YtblcgicgbindlaaDoor
