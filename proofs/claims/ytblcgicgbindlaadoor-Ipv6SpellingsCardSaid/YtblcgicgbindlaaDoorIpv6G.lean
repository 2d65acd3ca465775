/- The walks of group of ipv6 and of hex of its reference. Conditions: none. -/
import Derived.Test.YtblcgicgbindlaaDoorIpv4D
import Derived.Test.YtblcgicgbindlaaDoorPlainIpv6
import Derived.Laws.BitsAllLaws
namespace Go.Proofs.YtblcgicgbindlaaDoor
open Go.RowKit Hs
set_option linter.unusedSimpArgs false
set_option linter.unusedVariables false

theorem valB_take (base : Nat) (l : Bs) (k : Nat) (h : k < l.length) : valB base (l.take (k + 1)) 0 = valB base (l.take k) 0 * base + digV l[k] := by
  rw [List.take_succ_eq_append_getElem h, valB_append]
  rfl
theorem or_u16 (v n : Nat) (hv : v < 4096) (hn : n < 16) : bits .or .u16 ((v : Int) * 16) (n : Int) = ((v * 16 + n : Nat) : Int) := by
  have e : (v <<< 4 : Nat) = v * 16 := by rw [Nat.shiftLeft_eq]
  have h2 : v * 16 ||| n = v * 16 + n := by
    rw [← e]; exact (Nat.shiftLeft_add_eq_or_of_lt (by omega) v).symm
  have h3 := u16_or_nat (v * 16) n (by omega) (by omega)
  rw [h2] at h3
  simpa using h3

set_option maxHeartbeats 2000000 in
theorem i6_group (s : ByteArray) (w : World) : Calls Tryd.prog 53 #[.string s] w fun e w' => e = .returned (.tuple #[.int .u16 (optV (grpV (un s))).1, .bool (optV (grpV (un s))).2]) ∧ w = w' := by
  have hdef : Hid (grpV (un s) = if 1 ≤ s.size ∧ s.size ≤ 4 ∧ allB 16 (un s) = true then some (valB 16 (un s) 0) else none) := Lib.hid (by rw [← length_un]; rfl)
  by_cases hz : s.size = 0
  · have hun : un s = [] := List.eq_nil_of_length_eq_zero (by rw [length_un]; exact hz)
    have h1 : s.toList.isEmpty = true := by rw [toList_un, hun]; rfl
    have h0 : s.size < 1 := by omega
    have hend : Hid (grpV (un s) = none) := Lib.hid (by rw [hdef.out, if_neg (by omega)])
    clear hz hun hdef
    go_enter Tryd.func53, Tryd.ntmps53
    go_wp2
    all_goals (try (exfalso; omega))
    all_goals
      go_ret2
      rw [hend.out]
      exact ⟨rfl, rfl⟩
  · have h1 : s.toList.isEmpty = false := by
      rw [toList_un]
      cases hu : un s with
      | nil => exact absurd (by rw [← length_un, hu]; rfl) hz
      | cons a b => rfl
    have h0 : 1 ≤ s.size := by omega
    by_cases h4 : 4 < s.size
    · have hend : Hid (grpV (un s) = none) := Lib.hid (by rw [hdef.out, if_neg (by omega)])
      have g1 : decide ((4 : Int) < (s.size : Int)) = true := decide_eq_true (by omega)
      clear hz hdef
      go_enter Tryd.func53, Tryd.ntmps53
      go_wp2
      all_goals (try (exfalso; omega))
      all_goals
        go_ret2
        rw [hend.out]
        exact ⟨rfl, rfl⟩
    · have h5 : s.size ≤ 4 := by omega
      have g1 : decide ((4 : Int) < (s.size : Int)) = false := decide_eq_false (by omega)
      clear hz
      go_enter Tryd.func53, Tryd.ntmps53
      go_wp2
      all_goals (try (exfalso; omega))
      go_loop [4, 16] (fun nv iv => ∃ k : Nat, iv = .int .i64 k ∧ k ≤ s.size ∧ nv = .int .u16 (valB 16 ((un s).take k) 0) ∧ Hid (valB 16 ((un s).take k) 0 < 16 ^ k) ∧ Hid (allB 16 (un s) = allB 16 ((un s).drop k))) (fun _ iv => s.size - (intOf iv).toNat)
      case atStart => exact ⟨0, rfl, by omega, rfl, Lib.hid (by simp [valB]), rfl⟩
      case round =>
        obtain ⟨k, rfl, hk, rfl, hle, ha⟩ := hrel
        by_cases hlt : k < s.size
        · have hlu : k < (un s).length := by rw [length_un]; exact hlt
          have hst := Lib.hid (valB_take 16 (un s) k hlu)
          have hx := (s[k]'hlt).toNat_lt
          have hnx : Hid (digV (s[k]'hlt) < 16 → allB 16 (un s) = allB 16 ((un s).drop (k + 1))) := by
            intro h
            have e := ha.out
            rw [allB, allB, all_drop_eq (un s) _ k hlu true (decide_eq_true h)] at e
            exact e
          have hno : Hid (¬ digV (s[k]'hlt) < 16 → grpV (un s) = none) := by
            intro h
            have e : allB 16 (un s) = false := by rw [ha.out]; unfold allB; rw [all_drop_eq (un s) _ k hlu false (decide_eq_false h)]; rfl
            rw [hdef.out, if_neg (by simp [e])]
          clear ha hdef
          obtain ⟨v, hv⟩ : ∃ v, v = valB 16 ((un s).take k) 0 := ⟨_, rfl⟩
          rw [← hv] at hle hst ⊢
          clear hv
          have hv4 : v < 4096 := by
            have h6 : (16 : Nat) ^ k ≤ 16 ^ 3 := Nat.pow_le_pow_right (by decide) (by omega)
            have := hle.out
            omega
          have hdc := dig_cases (s[k]'hlt)
          obtain ⟨q, hq⟩ : ∃ q, q = digV (s[k]'hlt) := ⟨_, rfl⟩
          rw [← hq] at hdc hnx hno
          have hst' : Hid (valB 16 ((un s).take (k + 1)) 0 = v * 16 + q) := by rw [hq]; exact hst.out
          clear hst hq
          by_cases hqb : q < 16
          · have HN := Lib.hid (hnx.out hqb)
            have HLE : Hid (valB 16 ((un s).take (k + 1)) 0 < 16 ^ (k + 1)) := Lib.hid (by rw [hst'.out, Nat.pow_succ]; have := hle.out; omega)
            clear hnx hno
            rcases hdc with ⟨h1, h2, h3⟩ | ⟨h1, h2, h3⟩ | ⟨h1, h2, h3⟩ | ⟨h1, h2, h3, h4⟩
            all_goals (try (exfalso; omega))
            all_goals
              have ho : bits .or .u16 ((v : Int) * 16) (q : Int) = ((v * 16 + q : Nat) : Int) := or_u16 v q (by omega) (by omega)
              go_wp2
              all_goals (try (exfalso; omega))
              go_round
              case rel =>
                refine ⟨k + 1, by go_num, by omega, ?_, HLE, HN⟩
                rw [hst'.out]
                first | (rw [ho]) | (rw [← ho]; congr 1; omega) | (rw [← ho]; congr 2; omega) | (congr 1; omega)
              case measure => simp [intOf]; omega
          · have HN := Lib.hid (hno.out hqb)
            clear hnx hno
            rcases hdc with ⟨h1, h2, h3⟩ | ⟨h1, h2, h3⟩ | ⟨h1, h2, h3⟩ | ⟨h1, h2, h3, h4⟩
            all_goals (try (exfalso; omega))
            all_goals
              go_wp2
              all_goals (try (exfalso; omega))
              all_goals
                go_ret2
                rw [HN.out]
                exact ⟨rfl, rfl⟩
        · obtain rfl : k = s.size := by omega
          have htk : (un s).take s.size = un s := List.take_of_length_le (by rw [length_un]; exact Nat.le_refl _)
          have hfin : Hid (grpV (un s) = some (valB 16 (un s) 0)) := Lib.hid <| by
            have e : allB 16 (un s) = true := by rw [ha.out, List.drop_eq_nil_of_le (by rw [length_un]; exact Nat.le_refl _)]; rfl
            rw [hdef.out, if_pos ⟨by omega, by omega, e⟩]
          clear ha hdef
          rw [htk] at hle ⊢
          have hv5 : valB 16 (un s) 0 < 65536 := by
            have h6 : (16 : Nat) ^ s.size ≤ 16 ^ 4 := Nat.pow_le_pow_right (by decide) (by omega)
            have := hle.out
            omega
          obtain ⟨v, hv⟩ : ∃ v, v = valB 16 (un s) 0 := ⟨_, rfl⟩
          rw [← hv] at hfin hv5 ⊢
          clear hv hle htk
          have m1 : (v : Int) % 65536 = (v : Int) := by omega
          go_wp2
          all_goals (try (exfalso; omega))
          go_ret2
          rw [hfin.out]
          exact ⟨rfl, rfl⟩
set_option maxHeartbeats 2000000 in
theorem r11_hex (s : ByteArray) (w : World) : Calls Tryd.prog 54 #[.string s] w fun e w' => e = .returned (.tuple #[.int .u16 (optV (grpV (un s))).1, .bool (optV (grpV (un s))).2]) ∧ w = w' := by
  have hdef : Hid (grpV (un s) = if 1 ≤ s.size ∧ s.size ≤ 4 ∧ allB 16 (un s) = true then some (valB 16 (un s) 0) else none) := Lib.hid (by rw [← length_un]; rfl)
  by_cases hz : s.size = 0
  · have hun : un s = [] := List.eq_nil_of_length_eq_zero (by rw [length_un]; exact hz)
    have h1 : s.toList.isEmpty = true := by rw [toList_un, hun]; rfl
    have h0 : s.size < 1 := by omega
    have hend : Hid (grpV (un s) = none) := Lib.hid (by rw [hdef.out, if_neg (by omega)])
    clear hz hun hdef
    go_enter Tryd.func54, Tryd.ntmps54
    go_wp2
    all_goals (try (exfalso; omega))
    all_goals
      go_ret2
      rw [hend.out]
      exact ⟨rfl, rfl⟩
  · have h1 : s.toList.isEmpty = false := by
      rw [toList_un]
      cases hu : un s with
      | nil => exact absurd (by rw [← length_un, hu]; rfl) hz
      | cons a b => rfl
    have h0 : 1 ≤ s.size := by omega
    by_cases h4 : 4 < s.size
    · have hend : Hid (grpV (un s) = none) := Lib.hid (by rw [hdef.out, if_neg (by omega)])
      have g1 : decide ((4 : Int) < (s.size : Int)) = true := decide_eq_true (by omega)
      clear hz hdef
      go_enter Tryd.func54, Tryd.ntmps54
      go_wp2
      all_goals (try (exfalso; omega))
      all_goals
        go_ret2
        rw [hend.out]
        exact ⟨rfl, rfl⟩
    · have h5 : s.size ≤ 4 := by omega
      have g1 : decide ((4 : Int) < (s.size : Int)) = false := decide_eq_false (by omega)
      clear hz
      go_enter Tryd.func54, Tryd.ntmps54
      go_wp2
      all_goals (try (exfalso; omega))
      go_loop [4, 5] (fun nv iv => ∃ k : Nat, iv = .int .i64 k ∧ k ≤ s.size ∧ nv = .int .i64 (valB 16 ((un s).take k) 0) ∧ Hid (valB 16 ((un s).take k) 0 < 16 ^ k) ∧ Hid (allB 16 (un s) = allB 16 ((un s).drop k))) (fun _ iv => s.size - (intOf iv).toNat)
      case atStart => exact ⟨0, rfl, by omega, rfl, Lib.hid (by simp [valB]), rfl⟩
      case round =>
        obtain ⟨k, rfl, hk, rfl, hle, ha⟩ := hrel
        by_cases hlt : k < s.size
        · have hlu : k < (un s).length := by rw [length_un]; exact hlt
          have hst := Lib.hid (valB_take 16 (un s) k hlu)
          have hx := (s[k]'hlt).toNat_lt
          have hnx : Hid (digV (s[k]'hlt) < 16 → allB 16 (un s) = allB 16 ((un s).drop (k + 1))) := by
            intro h
            have e := ha.out
            rw [allB, allB, all_drop_eq (un s) _ k hlu true (decide_eq_true h)] at e
            exact e
          have hno : Hid (¬ digV (s[k]'hlt) < 16 → grpV (un s) = none) := by
            intro h
            have e : allB 16 (un s) = false := by rw [ha.out]; unfold allB; rw [all_drop_eq (un s) _ k hlu false (decide_eq_false h)]; rfl
            rw [hdef.out, if_neg (by simp [e])]
          clear ha hdef
          obtain ⟨v, hv⟩ : ∃ v, v = valB 16 ((un s).take k) 0 := ⟨_, rfl⟩
          rw [← hv] at hle hst ⊢
          clear hv
          have hv4 : v < 4096 := by
            have h6 : (16 : Nat) ^ k ≤ 16 ^ 3 := Nat.pow_le_pow_right (by decide) (by omega)
            have := hle.out
            omega
          have hdc := dig_cases (s[k]'hlt)
          obtain ⟨q, hq⟩ : ∃ q, q = digV (s[k]'hlt) := ⟨_, rfl⟩
          rw [← hq] at hdc hnx hno
          have hst' : Hid (valB 16 ((un s).take (k + 1)) 0 = v * 16 + q) := by rw [hq]; exact hst.out
          clear hst hq
          by_cases hqb : q < 16
          · have HN := Lib.hid (hnx.out hqb)
            have HLE : Hid (valB 16 ((un s).take (k + 1)) 0 < 16 ^ (k + 1)) := Lib.hid (by rw [hst'.out, Nat.pow_succ]; have := hle.out; omega)
            clear hnx hno
            rcases hdc with ⟨h1, h2, h3⟩ | ⟨h1, h2, h3⟩ | ⟨h1, h2, h3⟩ | ⟨h1, h2, h3, h4⟩
            all_goals (try (exfalso; omega))
            all_goals
              have ho : True := trivial
              go_wp2
              all_goals (try (exfalso; omega))
              go_round
              case rel =>
                refine ⟨k + 1, by go_num, by omega, ?_, HLE, HN⟩
                rw [hst'.out]
                congr 1; omega
              case measure => simp [intOf]; omega
          · have HN := Lib.hid (hno.out hqb)
            clear hnx hno
            rcases hdc with ⟨h1, h2, h3⟩ | ⟨h1, h2, h3⟩ | ⟨h1, h2, h3⟩ | ⟨h1, h2, h3, h4⟩
            all_goals (try (exfalso; omega))
            all_goals
              go_wp2
              all_goals (try (exfalso; omega))
              all_goals
                go_ret2
                rw [HN.out]
                exact ⟨rfl, rfl⟩
        · obtain rfl : k = s.size := by omega
          have htk : (un s).take s.size = un s := List.take_of_length_le (by rw [length_un]; exact Nat.le_refl _)
          have hfin : Hid (grpV (un s) = some (valB 16 (un s) 0)) := Lib.hid <| by
            have e : allB 16 (un s) = true := by rw [ha.out, List.drop_eq_nil_of_le (by rw [length_un]; exact Nat.le_refl _)]; rfl
            rw [hdef.out, if_pos ⟨by omega, by omega, e⟩]
          clear ha hdef
          rw [htk] at hle ⊢
          have hv5 : valB 16 (un s) 0 < 65536 := by
            have h6 : (16 : Nat) ^ s.size ≤ 16 ^ 4 := Nat.pow_le_pow_right (by decide) (by omega)
            have := hle.out
            omega
          obtain ⟨v, hv⟩ : ∃ v, v = valB 16 (un s) 0 := ⟨_, rfl⟩
          rw [← hv] at hfin hv5 ⊢
          clear hv hle htk
          have m1 : (v : Int) % 65536 = (v : Int) := by omega
          go_wp2
          all_goals (try (exfalso; omega))
          go_ret2
          rw [hfin.out]
          exact ⟨rfl, rfl⟩
end Go.Proofs.YtblcgicgbindlaaDoor
