/- The walk of ParseNumbers of ipv4. Conditions: strings are of bounded length; the library's tables stand. -/
import Derived.Test.YtjbciamhhfcdoaaGreatDoorSub16
import Derived.Laws.BitsAllLaws
namespace Go.Proofs.YtjbciamhhfcdoaaGreatDoor
open Go.RowKit Hs
set_option linter.unusedSimpArgs false
set_option linter.unusedVariables false

theorem or_i64 (v m F C : Nat) (hC : C = 2 ^ F) (hv : v * C < 9223372036854775808) (hm : m < C) (hm2 : m < 9223372036854775808) (hs : v * C + m < 9223372036854775808) : bits .or .i64 ((v : Int) * (C : Int)) (m : Int) = ((v * C + m : Nat) : Int) := by
  have h2 : v * C ||| m = v * C + m := by
    have e : v * C = v <<< F := by rw [Nat.shiftLeft_eq, hC]
    rw [e]; exact (Nat.shiftLeft_add_eq_or_of_lt (by rw [← hC]; exact hm) v).symm
  have e1 : (BitVec.ofInt 64 ((v : Int) * (C : Int))).toNat = v * C := by
    rw [BitVec.toNat_ofInt]
    have : ((v : Int) * (C : Int)) = ((v * C : Nat) : Int) := by simp
    rw [this]
    omega
  have e2 : (BitVec.ofInt 64 (m : Int)).toNat = m := by rw [BitVec.toNat_ofInt]; omega
  show IntKind.i64.wrap ((BitVec.ofInt 64 ((v : Int) * (C : Int)) ||| BitVec.ofInt 64 (m : Int)).toNat : Int) = _
  rw [BitVec.toNat_or, e1, e2, h2, IntKind.wrap_i64]
  omega
theorem numF_last (F : Nat) (p : Bs) (v : Nat) : numF F [p] v = if (numP p).2 = true ∧ (numP p).1 < 2 ^ F then some (v * 2 ^ F + (numP p).1) else none := rfl
theorem numF_mid (F : Nat) (p : Bs) (r : List Bs) (v : Nat) (h : r ≠ []) : numF F (p :: r) v = if (numP p).2 = true ∧ (numP p).1 ≤ 255 then numF F r (v * 256 + (numP p).1) else none := by
  cases r with
  | nil => exact absurd rfl h
  | cons q r => rfl

set_option maxRecDepth 100000 in
set_option maxHeartbeats 4000000 in
theorem i4_numbers (s : ByteArray) (w : World) (hB : Base w) (hs : s.size ≤ 100000000) : Calls Tryz.prog 211 #[.string s] w fun e w' => e = .returned (.tuple #[.int .u32 (numsV (un s)).1, .bool (numsV (un s)).2]) ∧ Below w.heap.size w w' := by
  have HS := Lib.hid (i4_parts s w hB hs)
  have HLEN := Lib.hid (partsD_len (un s))
  have hpos := partsD_pos (un s)
  have hpv : Hid (numsV (un s) = if (partsD (un s)).length ≤ 4 then optV (numF (8 * (5 - (partsD (un s)).length)) (partsD (un s)) 0) else (0, false)) := Lib.hid rfl
  obtain ⟨R, hR⟩ : ∃ R, R = numsV (un s) := ⟨_, rfl⟩
  rw [← hR] at hpv ⊢
  clear hR
  obtain ⟨L, hL⟩ : ∃ L, L = partsD (un s) := ⟨_, rfl⟩
  rw [← hL] at hpv HS HLEN hpos
  clear hL
  rw [length_un] at HLEN
  clear hB
  go_enter Tryz.func211, Tryz.ntmps211
  go_wp2
  go_step3
  go_wp2_with fail
  refine HS.out.mono ?_
  rintro e w1 ⟨v, rfl, hst, hb⟩
  clear HS
  obtain ⟨a, c, rfl, hn, hm, hc⟩ := hst.open
  unfold maxLen at hm
  have HC := Lib.hid hc
  clear hc hst
  obtain ⟨n, hn0⟩ : ∃ n, L.length = n := ⟨_, rfl⟩
  rw [hn0] at hn hpos hpv ⊢
  have HN := Lib.hid hn0
  clear hn0
  by_cases h4 : n ≤ 4
  · have hfin : Hid (R = optV (numF (8 * (5 - n)) L 0)) := Lib.hid (by rw [hpv.out, if_pos h4])
    clear hpv
    rcases (by omega : n = 1 ∨ n = 2 ∨ n = 3 ∨ n = 4) with rfl | rfl | rfl | rfl
    · have hfin : Hid (R = optV (numF 32 L 0)) := hfin
      go_wp2
      go_step3
      go_wp2
      go_loop [5, 18] (fun vv iv => ∃ (k v : Nat), iv = .int .i64 k ∧ k ≤ 1 ∧ vv = .int .i64 v ∧ v < 4294967296 ∧ (k < 1 → v < 256 ^ k) ∧ Hid (numF 32 L 0 = numF 32 (L.drop k) v)) (fun _ iv => 1 - (intOf iv).toNat)
      case atStart => exact ⟨0, 0, rfl, by omega, rfl, by omega, fun _ => by simp, Lib.hid rfl⟩
      case round =>
        obtain ⟨k, v, rfl, hk, rfl, hv, hvk, hst⟩ := hrel
        by_cases hlt : k < 1
        · obtain ⟨b, off, rfl, hb1, hcell⟩ := HC.out (by rw [HN.out]; omega)
          have hkl : k < L.length := by rw [HN.out]; exact hlt
          have c0 := hcell k hkl
          have hlen := HLEN.out L[k] (List.getElem_mem hkl)
          have hst2 : Hid (numF 32 L 0 = numF 32 (L[k] :: L.drop (k + 1)) v) := Lib.hid (by rw [hst.out, List.drop_eq_getElem_cons hkl])
          obtain ⟨x, hx⟩ : ∃ x, x = L[k] := ⟨_, rfl⟩
          rw [← hx] at c0 hlen hst2
          clear hcell hst hx hkl
          have hd := fun W => i4_number (mk x) W (by rw [size_mk]; omega)
          simp only [un_mk] at hd
          have hle := numP_le x
          have hlst : Hid (∀ F v, numF F [x] v = if (numP x).2 = true ∧ (numP x).1 < 2 ^ F then some (v * 2 ^ F + (numP x).1) else none) := Lib.hid (fun F v => numF_last F x v)
          have hmid : Hid (∀ F r v, r ≠ [] → numF F (x :: r) v = if (numP x).2 = true ∧ (numP x).1 ≤ 255 then numF F r (v * 256 + (numP x).1) else none) := Lib.hid (fun F r v h => numF_mid F x r v h)
          obtain ⟨m, hm2⟩ : ∃ m, m = numP x := ⟨_, rfl⟩
          rw [← hm2] at hlst hmid hle
          simp only [← hm2] at hd
          clear hm2
          obtain ⟨m, ok⟩ := m
          simp only at hd hlst hmid hle
          have HD := Lib.hid hd
          have hvk2 := hvk hlt
          clear hd hvk
          by_cases hl : k + 1 < 1
          · exfalso; omega
          · have hkn : k + 1 = 1 := by omega
            have hdr : L.drop (k + 1) = [] := List.drop_of_length_le (by rw [HN.out]; omega)
            have hnx : Hid (numF 32 L 0 = if ok = true ∧ m < 4294967296 then some (v * 4294967296 + m) else none) := Lib.hid (by rw [hst2.out, hdr, hlst.out])
            have hdn : Hid (numF 32 (L.drop (k + 1)) (v * 4294967296 + m) = some (v * 4294967296 + m)) := Lib.hid (by rw [hdr]; rfl)
            have hv5 : v < 1 := by
              have hk2 : k = 0 := by omega
              rw [hk2] at hvk2
              exact hvk2
            have hl' : (1 : Int) - 1 ≤ (k : Int) := by omega
            have hl3 : decide ((k : Int) < 0) = false := decide_eq_false (by omega)
            clear hst2 hdr hlst hmid hvk2
            cases ok
            · have hend : Hid (R = (0, false)) := Lib.hid (by rw [hfin.out, hnx.out, if_neg (by simp)]; rfl)
              clear hnx hdn
              go_wp2_with fail
              refine (HD.out _).mono ?_; rintro e w2 ⟨rfl, rfl⟩
              go_wp2
              all_goals (try (exfalso; omega))
              (try rw [Exit.noGoto_ret])
              go_ret2
              rw [hend.out]
              exact ⟨rfl, hb⟩
            · by_cases hn5 : 4294967296 ≤ m
              · have g2 : decide ((4294967296 : Int) ≤ (m : Int)) = true := decide_eq_true (by omega)
                have hend : Hid (R = (0, false)) := Lib.hid (by rw [hfin.out, hnx.out, if_neg (by omega)]; rfl)
                clear hnx hdn
                go_wp2_with fail
                refine (HD.out _).mono ?_; rintro e w2 ⟨rfl, rfl⟩
                go_wp2
                all_goals (try (exfalso; omega))
                (try rw [Exit.noGoto_ret])
                go_ret2
                rw [hend.out]
                exact ⟨rfl, hb⟩
              · have g2 : decide ((4294967296 : Int) ≤ (m : Int)) = false := decide_eq_false (by omega)
                have hnx2 : Hid (numF 32 L 0 = numF 32 (L.drop (k + 1)) (v * 4294967296 + m)) := Lib.hid (by rw [hnx.out, if_pos ⟨rfl, by omega⟩, hdn.out])
                clear hnx hdn
                go_wp2_with fail
                refine (HD.out _).mono ?_; rintro e w2 ⟨rfl, rfl⟩
                go_wp2
                all_goals (try (exfalso; omega))
                go_round
                case rel => exact ⟨k + 1, v * 4294967296 + m, by go_num, by omega, by first | rfl | (rw [or_i64 v m 32 4294967296 (by decide) (by omega) (by omega) (by omega) (by omega)]) | (have ho := or_i64 v m 32 4294967296 (by decide) (by omega) (by omega) (by omega) (by omega); simpa using ho), by omega, fun h => absurd h (by omega), hnx2⟩
                case measure => simp [intOf]; omega
        · obtain rfl : k = 1 := by omega
          have hend : Hid (R = (v, true)) := Lib.hid (by rw [hfin.out, hst.out, List.drop_of_length_le (by rw [HN.out]; omega)]; rfl)
          have m1 : (v : Int) % 4294967296 = (v : Int) := by omega
          clear hst
          go_wp2
          (try rw [Exit.noGoto_ret])
          go_ret2
          rw [hend.out]
          exact ⟨rfl, hb⟩
    · have hfin : Hid (R = optV (numF 24 L 0)) := hfin
      go_wp2
      go_step3
      go_wp2
      go_loop [5, 18] (fun vv iv => ∃ (k v : Nat), iv = .int .i64 k ∧ k ≤ 2 ∧ vv = .int .i64 v ∧ v < 4294967296 ∧ (k < 2 → v < 256 ^ k) ∧ Hid (numF 24 L 0 = numF 24 (L.drop k) v)) (fun _ iv => 2 - (intOf iv).toNat)
      case atStart => exact ⟨0, 0, rfl, by omega, rfl, by omega, fun _ => by simp, Lib.hid rfl⟩
      case round =>
        obtain ⟨k, v, rfl, hk, rfl, hv, hvk, hst⟩ := hrel
        by_cases hlt : k < 2
        · obtain ⟨b, off, rfl, hb1, hcell⟩ := HC.out (by rw [HN.out]; omega)
          have hkl : k < L.length := by rw [HN.out]; exact hlt
          have c0 := hcell k hkl
          have hlen := HLEN.out L[k] (List.getElem_mem hkl)
          have hst2 : Hid (numF 24 L 0 = numF 24 (L[k] :: L.drop (k + 1)) v) := Lib.hid (by rw [hst.out, List.drop_eq_getElem_cons hkl])
          obtain ⟨x, hx⟩ : ∃ x, x = L[k] := ⟨_, rfl⟩
          rw [← hx] at c0 hlen hst2
          clear hcell hst hx hkl
          have hd := fun W => i4_number (mk x) W (by rw [size_mk]; omega)
          simp only [un_mk] at hd
          have hle := numP_le x
          have hlst : Hid (∀ F v, numF F [x] v = if (numP x).2 = true ∧ (numP x).1 < 2 ^ F then some (v * 2 ^ F + (numP x).1) else none) := Lib.hid (fun F v => numF_last F x v)
          have hmid : Hid (∀ F r v, r ≠ [] → numF F (x :: r) v = if (numP x).2 = true ∧ (numP x).1 ≤ 255 then numF F r (v * 256 + (numP x).1) else none) := Lib.hid (fun F r v h => numF_mid F x r v h)
          obtain ⟨m, hm2⟩ : ∃ m, m = numP x := ⟨_, rfl⟩
          rw [← hm2] at hlst hmid hle
          simp only [← hm2] at hd
          clear hm2
          obtain ⟨m, ok⟩ := m
          simp only at hd hlst hmid hle
          have HD := Lib.hid hd
          have hvk2 := hvk hlt
          clear hd hvk
          by_cases hl : k + 1 < 2
          · have hne : L.drop (k + 1) ≠ [] := fun e => by have := congrArg List.length e; rw [List.length_drop, HN.out] at this; simp at this; omega
            have hnx : Hid (numF 24 L 0 = if ok = true ∧ m ≤ 255 then numF 24 (L.drop (k + 1)) (v * 256 + m) else none) := Lib.hid (by rw [hst2.out, hmid.out _ _ _ hne])
            have hl' : (k : Int) < 2 - 1 := by omega
            have hl3 : (k : Int) < 1 := by omega
            clear hst2 hne hlst hmid
            cases ok
            · have hend : Hid (R = (0, false)) := Lib.hid (by rw [hfin.out, hnx.out, if_neg (by simp)]; rfl)
              clear hnx
              go_wp2_with fail
              refine (HD.out _).mono ?_; rintro e w2 ⟨rfl, rfl⟩
              go_wp2
              all_goals (try (exfalso; omega))
              (try rw [Exit.noGoto_ret])
              go_ret2
              rw [hend.out]
              exact ⟨rfl, hb⟩
            · by_cases hn5 : 255 < m
              · have g2 : (255 : Int) < (m : Int) := by omega
                have hend : Hid (R = (0, false)) := Lib.hid (by rw [hfin.out, hnx.out, if_neg (by simp; omega)]; rfl)
                clear hnx
                go_wp2_with fail
                refine (HD.out _).mono ?_; rintro e w2 ⟨rfl, rfl⟩
                go_wp2
                all_goals (try (exfalso; omega))
                (try rw [Exit.noGoto_ret])
                go_ret2
                rw [hend.out]
                exact ⟨rfl, hb⟩
              · have g2 : ¬ ((255 : Int) < (m : Int)) := by omega
                have hnx2 : Hid (numF 24 L 0 = numF 24 (L.drop (k + 1)) (v * 256 + m)) := Lib.hid (by rw [hnx.out, if_pos ⟨rfl, by omega⟩])
                have hv3 : v < 65536 := by
                  have : (256 : Nat) ^ k ≤ 256 ^ 2 := Nat.pow_le_pow_right (by decide) (by omega)
                  omega
                have ho : bits .or .i64 ((v : Int) * 256) (m : Int) = ((v * 256 + m : Nat) : Int) := or_i64 v m 8 256 (by decide) (by omega) (by omega) (by omega) (by omega)
                have H256 : Hid (v * 256 + m < 256 ^ (k + 1)) := Lib.hid (by rw [Nat.pow_succ]; generalize (256 : Nat) ^ k = q at hvk2; omega)
                clear hnx hvk2
                go_wp2_with fail
                refine (HD.out _).mono ?_; rintro e w2 ⟨rfl, rfl⟩
                go_wp2
                all_goals (try (exfalso; omega))
                go_round
                case rel => exact ⟨k + 1, v * 256 + m, by go_num, by omega, by first | rfl | (rw [ho]), by omega, fun _ => H256.out, hnx2⟩
                case measure => simp [intOf]; omega
          · have hkn : k + 1 = 2 := by omega
            have hdr : L.drop (k + 1) = [] := List.drop_of_length_le (by rw [HN.out]; omega)
            have hnx : Hid (numF 24 L 0 = if ok = true ∧ m < 16777216 then some (v * 16777216 + m) else none) := Lib.hid (by rw [hst2.out, hdr, hlst.out])
            have hdn : Hid (numF 24 (L.drop (k + 1)) (v * 16777216 + m) = some (v * 16777216 + m)) := Lib.hid (by rw [hdr]; rfl)
            have hv5 : v < 256 := by
              have hk2 : k = 1 := by omega
              rw [hk2] at hvk2
              exact hvk2
            have hl' : (2 : Int) - 1 ≤ (k : Int) := by omega
            have hl3 : decide ((k : Int) < 1) = false := decide_eq_false (by omega)
            clear hst2 hdr hlst hmid hvk2
            cases ok
            · have hend : Hid (R = (0, false)) := Lib.hid (by rw [hfin.out, hnx.out, if_neg (by simp)]; rfl)
              clear hnx hdn
              go_wp2_with fail
              refine (HD.out _).mono ?_; rintro e w2 ⟨rfl, rfl⟩
              go_wp2
              all_goals (try (exfalso; omega))
              (try rw [Exit.noGoto_ret])
              go_ret2
              rw [hend.out]
              exact ⟨rfl, hb⟩
            · by_cases hn5 : 16777216 ≤ m
              · have g2 : decide ((16777216 : Int) ≤ (m : Int)) = true := decide_eq_true (by omega)
                have hend : Hid (R = (0, false)) := Lib.hid (by rw [hfin.out, hnx.out, if_neg (by omega)]; rfl)
                clear hnx hdn
                go_wp2_with fail
                refine (HD.out _).mono ?_; rintro e w2 ⟨rfl, rfl⟩
                go_wp2
                all_goals (try (exfalso; omega))
                (try rw [Exit.noGoto_ret])
                go_ret2
                rw [hend.out]
                exact ⟨rfl, hb⟩
              · have g2 : decide ((16777216 : Int) ≤ (m : Int)) = false := decide_eq_false (by omega)
                have hnx2 : Hid (numF 24 L 0 = numF 24 (L.drop (k + 1)) (v * 16777216 + m)) := Lib.hid (by rw [hnx.out, if_pos ⟨rfl, by omega⟩, hdn.out])
                clear hnx hdn
                go_wp2_with fail
                refine (HD.out _).mono ?_; rintro e w2 ⟨rfl, rfl⟩
                go_wp2
                all_goals (try (exfalso; omega))
                go_round
                case rel => exact ⟨k + 1, v * 16777216 + m, by go_num, by omega, by first | rfl | (rw [or_i64 v m 24 16777216 (by decide) (by omega) (by omega) (by omega) (by omega)]) | (have ho := or_i64 v m 24 16777216 (by decide) (by omega) (by omega) (by omega) (by omega); simpa using ho), by omega, fun h => absurd h (by omega), hnx2⟩
                case measure => simp [intOf]; omega
        · obtain rfl : k = 2 := by omega
          have hend : Hid (R = (v, true)) := Lib.hid (by rw [hfin.out, hst.out, List.drop_of_length_le (by rw [HN.out]; omega)]; rfl)
          have m1 : (v : Int) % 4294967296 = (v : Int) := by omega
          clear hst
          go_wp2
          (try rw [Exit.noGoto_ret])
          go_ret2
          rw [hend.out]
          exact ⟨rfl, hb⟩
    · have hfin : Hid (R = optV (numF 16 L 0)) := hfin
      go_wp2
      go_step3
      go_wp2
      go_loop [5, 18] (fun vv iv => ∃ (k v : Nat), iv = .int .i64 k ∧ k ≤ 3 ∧ vv = .int .i64 v ∧ v < 4294967296 ∧ (k < 3 → v < 256 ^ k) ∧ Hid (numF 16 L 0 = numF 16 (L.drop k) v)) (fun _ iv => 3 - (intOf iv).toNat)
      case atStart => exact ⟨0, 0, rfl, by omega, rfl, by omega, fun _ => by simp, Lib.hid rfl⟩
      case round =>
        obtain ⟨k, v, rfl, hk, rfl, hv, hvk, hst⟩ := hrel
        by_cases hlt : k < 3
        · obtain ⟨b, off, rfl, hb1, hcell⟩ := HC.out (by rw [HN.out]; omega)
          have hkl : k < L.length := by rw [HN.out]; exact hlt
          have c0 := hcell k hkl
          have hlen := HLEN.out L[k] (List.getElem_mem hkl)
          have hst2 : Hid (numF 16 L 0 = numF 16 (L[k] :: L.drop (k + 1)) v) := Lib.hid (by rw [hst.out, List.drop_eq_getElem_cons hkl])
          obtain ⟨x, hx⟩ : ∃ x, x = L[k] := ⟨_, rfl⟩
          rw [← hx] at c0 hlen hst2
          clear hcell hst hx hkl
          have hd := fun W => i4_number (mk x) W (by rw [size_mk]; omega)
          simp only [un_mk] at hd
          have hle := numP_le x
          have hlst : Hid (∀ F v, numF F [x] v = if (numP x).2 = true ∧ (numP x).1 < 2 ^ F then some (v * 2 ^ F + (numP x).1) else none) := Lib.hid (fun F v => numF_last F x v)
          have hmid : Hid (∀ F r v, r ≠ [] → numF F (x :: r) v = if (numP x).2 = true ∧ (numP x).1 ≤ 255 then numF F r (v * 256 + (numP x).1) else none) := Lib.hid (fun F r v h => numF_mid F x r v h)
          obtain ⟨m, hm2⟩ : ∃ m, m = numP x := ⟨_, rfl⟩
          rw [← hm2] at hlst hmid hle
          simp only [← hm2] at hd
          clear hm2
          obtain ⟨m, ok⟩ := m
          simp only at hd hlst hmid hle
          have HD := Lib.hid hd
          have hvk2 := hvk hlt
          clear hd hvk
          by_cases hl : k + 1 < 3
          · have hne : L.drop (k + 1) ≠ [] := fun e => by have := congrArg List.length e; rw [List.length_drop, HN.out] at this; simp at this; omega
            have hnx : Hid (numF 16 L 0 = if ok = true ∧ m ≤ 255 then numF 16 (L.drop (k + 1)) (v * 256 + m) else none) := Lib.hid (by rw [hst2.out, hmid.out _ _ _ hne])
            have hl' : (k : Int) < 3 - 1 := by omega
            have hl3 : (k : Int) < 2 := by omega
            clear hst2 hne hlst hmid
            cases ok
            · have hend : Hid (R = (0, false)) := Lib.hid (by rw [hfin.out, hnx.out, if_neg (by simp)]; rfl)
              clear hnx
              go_wp2_with fail
              refine (HD.out _).mono ?_; rintro e w2 ⟨rfl, rfl⟩
              go_wp2
              all_goals (try (exfalso; omega))
              (try rw [Exit.noGoto_ret])
              go_ret2
              rw [hend.out]
              exact ⟨rfl, hb⟩
            · by_cases hn5 : 255 < m
              · have g2 : (255 : Int) < (m : Int) := by omega
                have hend : Hid (R = (0, false)) := Lib.hid (by rw [hfin.out, hnx.out, if_neg (by simp; omega)]; rfl)
                clear hnx
                go_wp2_with fail
                refine (HD.out _).mono ?_; rintro e w2 ⟨rfl, rfl⟩
                go_wp2
                all_goals (try (exfalso; omega))
                (try rw [Exit.noGoto_ret])
                go_ret2
                rw [hend.out]
                exact ⟨rfl, hb⟩
              · have g2 : ¬ ((255 : Int) < (m : Int)) := by omega
                have hnx2 : Hid (numF 16 L 0 = numF 16 (L.drop (k + 1)) (v * 256 + m)) := Lib.hid (by rw [hnx.out, if_pos ⟨rfl, by omega⟩])
                have hv3 : v < 65536 := by
                  have : (256 : Nat) ^ k ≤ 256 ^ 2 := Nat.pow_le_pow_right (by decide) (by omega)
                  omega
                have ho : bits .or .i64 ((v : Int) * 256) (m : Int) = ((v * 256 + m : Nat) : Int) := or_i64 v m 8 256 (by decide) (by omega) (by omega) (by omega) (by omega)
                have H256 : Hid (v * 256 + m < 256 ^ (k + 1)) := Lib.hid (by rw [Nat.pow_succ]; generalize (256 : Nat) ^ k = q at hvk2; omega)
                clear hnx hvk2
                go_wp2_with fail
                refine (HD.out _).mono ?_; rintro e w2 ⟨rfl, rfl⟩
                go_wp2
                all_goals (try (exfalso; omega))
                go_round
                case rel => exact ⟨k + 1, v * 256 + m, by go_num, by omega, by first | rfl | (rw [ho]), by omega, fun _ => H256.out, hnx2⟩
                case measure => simp [intOf]; omega
          · have hkn : k + 1 = 3 := by omega
            have hdr : L.drop (k + 1) = [] := List.drop_of_length_le (by rw [HN.out]; omega)
            have hnx : Hid (numF 16 L 0 = if ok = true ∧ m < 65536 then some (v * 65536 + m) else none) := Lib.hid (by rw [hst2.out, hdr, hlst.out])
            have hdn : Hid (numF 16 (L.drop (k + 1)) (v * 65536 + m) = some (v * 65536 + m)) := Lib.hid (by rw [hdr]; rfl)
            have hv5 : v < 65536 := by
              have hk2 : k = 2 := by omega
              rw [hk2] at hvk2
              exact hvk2
            have hl' : (3 : Int) - 1 ≤ (k : Int) := by omega
            have hl3 : decide ((k : Int) < 2) = false := decide_eq_false (by omega)
            clear hst2 hdr hlst hmid hvk2
            cases ok
            · have hend : Hid (R = (0, false)) := Lib.hid (by rw [hfin.out, hnx.out, if_neg (by simp)]; rfl)
              clear hnx hdn
              go_wp2_with fail
              refine (HD.out _).mono ?_; rintro e w2 ⟨rfl, rfl⟩
              go_wp2
              all_goals (try (exfalso; omega))
              (try rw [Exit.noGoto_ret])
              go_ret2
              rw [hend.out]
              exact ⟨rfl, hb⟩
            · by_cases hn5 : 65536 ≤ m
              · have g2 : decide ((65536 : Int) ≤ (m : Int)) = true := decide_eq_true (by omega)
                have hend : Hid (R = (0, false)) := Lib.hid (by rw [hfin.out, hnx.out, if_neg (by omega)]; rfl)
                clear hnx hdn
                go_wp2_with fail
                refine (HD.out _).mono ?_; rintro e w2 ⟨rfl, rfl⟩
                go_wp2
                all_goals (try (exfalso; omega))
                (try rw [Exit.noGoto_ret])
                go_ret2
                rw [hend.out]
                exact ⟨rfl, hb⟩
              · have g2 : decide ((65536 : Int) ≤ (m : Int)) = false := decide_eq_false (by omega)
                have hnx2 : Hid (numF 16 L 0 = numF 16 (L.drop (k + 1)) (v * 65536 + m)) := Lib.hid (by rw [hnx.out, if_pos ⟨rfl, by omega⟩, hdn.out])
                clear hnx hdn
                go_wp2_with fail
                refine (HD.out _).mono ?_; rintro e w2 ⟨rfl, rfl⟩
                go_wp2
                all_goals (try (exfalso; omega))
                go_round
                case rel => exact ⟨k + 1, v * 65536 + m, by go_num, by omega, by first | rfl | (rw [or_i64 v m 16 65536 (by decide) (by omega) (by omega) (by omega) (by omega)]) | (have ho := or_i64 v m 16 65536 (by decide) (by omega) (by omega) (by omega) (by omega); simpa using ho), by omega, fun h => absurd h (by omega), hnx2⟩
                case measure => simp [intOf]; omega
        · obtain rfl : k = 3 := by omega
          have hend : Hid (R = (v, true)) := Lib.hid (by rw [hfin.out, hst.out, List.drop_of_length_le (by rw [HN.out]; omega)]; rfl)
          have m1 : (v : Int) % 4294967296 = (v : Int) := by omega
          clear hst
          go_wp2
          (try rw [Exit.noGoto_ret])
          go_ret2
          rw [hend.out]
          exact ⟨rfl, hb⟩
    · have hfin : Hid (R = optV (numF 8 L 0)) := hfin
      go_wp2
      go_step3
      go_wp2
      go_loop [5, 18] (fun vv iv => ∃ (k v : Nat), iv = .int .i64 k ∧ k ≤ 4 ∧ vv = .int .i64 v ∧ v < 4294967296 ∧ (k < 4 → v < 256 ^ k) ∧ Hid (numF 8 L 0 = numF 8 (L.drop k) v)) (fun _ iv => 4 - (intOf iv).toNat)
      case atStart => exact ⟨0, 0, rfl, by omega, rfl, by omega, fun _ => by simp, Lib.hid rfl⟩
      case round =>
        obtain ⟨k, v, rfl, hk, rfl, hv, hvk, hst⟩ := hrel
        by_cases hlt : k < 4
        · obtain ⟨b, off, rfl, hb1, hcell⟩ := HC.out (by rw [HN.out]; omega)
          have hkl : k < L.length := by rw [HN.out]; exact hlt
          have c0 := hcell k hkl
          have hlen := HLEN.out L[k] (List.getElem_mem hkl)
          have hst2 : Hid (numF 8 L 0 = numF 8 (L[k] :: L.drop (k + 1)) v) := Lib.hid (by rw [hst.out, List.drop_eq_getElem_cons hkl])
          obtain ⟨x, hx⟩ : ∃ x, x = L[k] := ⟨_, rfl⟩
          rw [← hx] at c0 hlen hst2
          clear hcell hst hx hkl
          have hd := fun W => i4_number (mk x) W (by rw [size_mk]; omega)
          simp only [un_mk] at hd
          have hle := numP_le x
          have hlst : Hid (∀ F v, numF F [x] v = if (numP x).2 = true ∧ (numP x).1 < 2 ^ F then some (v * 2 ^ F + (numP x).1) else none) := Lib.hid (fun F v => numF_last F x v)
          have hmid : Hid (∀ F r v, r ≠ [] → numF F (x :: r) v = if (numP x).2 = true ∧ (numP x).1 ≤ 255 then numF F r (v * 256 + (numP x).1) else none) := Lib.hid (fun F r v h => numF_mid F x r v h)
          obtain ⟨m, hm2⟩ : ∃ m, m = numP x := ⟨_, rfl⟩
          rw [← hm2] at hlst hmid hle
          simp only [← hm2] at hd
          clear hm2
          obtain ⟨m, ok⟩ := m
          simp only at hd hlst hmid hle
          have HD := Lib.hid hd
          have hvk2 := hvk hlt
          clear hd hvk
          by_cases hl : k + 1 < 4
          · have hne : L.drop (k + 1) ≠ [] := fun e => by have := congrArg List.length e; rw [List.length_drop, HN.out] at this; simp at this; omega
            have hnx : Hid (numF 8 L 0 = if ok = true ∧ m ≤ 255 then numF 8 (L.drop (k + 1)) (v * 256 + m) else none) := Lib.hid (by rw [hst2.out, hmid.out _ _ _ hne])
            have hl' : (k : Int) < 4 - 1 := by omega
            have hl3 : (k : Int) < 3 := by omega
            clear hst2 hne hlst hmid
            cases ok
            · have hend : Hid (R = (0, false)) := Lib.hid (by rw [hfin.out, hnx.out, if_neg (by simp)]; rfl)
              clear hnx
              go_wp2_with fail
              refine (HD.out _).mono ?_; rintro e w2 ⟨rfl, rfl⟩
              go_wp2
              all_goals (try (exfalso; omega))
              (try rw [Exit.noGoto_ret])
              go_ret2
              rw [hend.out]
              exact ⟨rfl, hb⟩
            · by_cases hn5 : 255 < m
              · have g2 : (255 : Int) < (m : Int) := by omega
                have hend : Hid (R = (0, false)) := Lib.hid (by rw [hfin.out, hnx.out, if_neg (by simp; omega)]; rfl)
                clear hnx
                go_wp2_with fail
                refine (HD.out _).mono ?_; rintro e w2 ⟨rfl, rfl⟩
                go_wp2
                all_goals (try (exfalso; omega))
                (try rw [Exit.noGoto_ret])
                go_ret2
                rw [hend.out]
                exact ⟨rfl, hb⟩
              · have g2 : ¬ ((255 : Int) < (m : Int)) := by omega
                have hnx2 : Hid (numF 8 L 0 = numF 8 (L.drop (k + 1)) (v * 256 + m)) := Lib.hid (by rw [hnx.out, if_pos ⟨rfl, by omega⟩])
                have hv3 : v < 65536 := by
                  have : (256 : Nat) ^ k ≤ 256 ^ 2 := Nat.pow_le_pow_right (by decide) (by omega)
                  omega
                have ho : bits .or .i64 ((v : Int) * 256) (m : Int) = ((v * 256 + m : Nat) : Int) := or_i64 v m 8 256 (by decide) (by omega) (by omega) (by omega) (by omega)
                have H256 : Hid (v * 256 + m < 256 ^ (k + 1)) := Lib.hid (by rw [Nat.pow_succ]; generalize (256 : Nat) ^ k = q at hvk2; omega)
                clear hnx hvk2
                go_wp2_with fail
                refine (HD.out _).mono ?_; rintro e w2 ⟨rfl, rfl⟩
                go_wp2
                all_goals (try (exfalso; omega))
                go_round
                case rel => exact ⟨k + 1, v * 256 + m, by go_num, by omega, by first | rfl | (rw [ho]), by omega, fun _ => H256.out, hnx2⟩
                case measure => simp [intOf]; omega
          · have hkn : k + 1 = 4 := by omega
            have hdr : L.drop (k + 1) = [] := List.drop_of_length_le (by rw [HN.out]; omega)
            have hnx : Hid (numF 8 L 0 = if ok = true ∧ m < 256 then some (v * 256 + m) else none) := Lib.hid (by rw [hst2.out, hdr, hlst.out])
            have hdn : Hid (numF 8 (L.drop (k + 1)) (v * 256 + m) = some (v * 256 + m)) := Lib.hid (by rw [hdr]; rfl)
            have hv5 : v < 16777216 := by
              have hk2 : k = 3 := by omega
              rw [hk2] at hvk2
              exact hvk2
            have hl' : (4 : Int) - 1 ≤ (k : Int) := by omega
            have hl3 : decide ((k : Int) < 3) = false := decide_eq_false (by omega)
            clear hst2 hdr hlst hmid hvk2
            cases ok
            · have hend : Hid (R = (0, false)) := Lib.hid (by rw [hfin.out, hnx.out, if_neg (by simp)]; rfl)
              clear hnx hdn
              go_wp2_with fail
              refine (HD.out _).mono ?_; rintro e w2 ⟨rfl, rfl⟩
              go_wp2
              all_goals (try (exfalso; omega))
              (try rw [Exit.noGoto_ret])
              go_ret2
              rw [hend.out]
              exact ⟨rfl, hb⟩
            · by_cases hn5 : 256 ≤ m
              · have g2 : decide ((256 : Int) ≤ (m : Int)) = true := decide_eq_true (by omega)
                have hend : Hid (R = (0, false)) := Lib.hid (by rw [hfin.out, hnx.out, if_neg (by omega)]; rfl)
                clear hnx hdn
                go_wp2_with fail
                refine (HD.out _).mono ?_; rintro e w2 ⟨rfl, rfl⟩
                go_wp2
                all_goals (try (exfalso; omega))
                (try rw [Exit.noGoto_ret])
                go_ret2
                rw [hend.out]
                exact ⟨rfl, hb⟩
              · have g2 : decide ((256 : Int) ≤ (m : Int)) = false := decide_eq_false (by omega)
                have hnx2 : Hid (numF 8 L 0 = numF 8 (L.drop (k + 1)) (v * 256 + m)) := Lib.hid (by rw [hnx.out, if_pos ⟨rfl, by omega⟩, hdn.out])
                clear hnx hdn
                go_wp2_with fail
                refine (HD.out _).mono ?_; rintro e w2 ⟨rfl, rfl⟩
                go_wp2
                all_goals (try (exfalso; omega))
                go_round
                case rel => exact ⟨k + 1, v * 256 + m, by go_num, by omega, by first | rfl | (rw [or_i64 v m 8 256 (by decide) (by omega) (by omega) (by omega) (by omega)]) | (have ho := or_i64 v m 8 256 (by decide) (by omega) (by omega) (by omega) (by omega); simpa using ho), by omega, fun h => absurd h (by omega), hnx2⟩
                case measure => simp [intOf]; omega
        · obtain rfl : k = 4 := by omega
          have hend : Hid (R = (v, true)) := Lib.hid (by rw [hfin.out, hst.out, List.drop_of_length_le (by rw [HN.out]; omega)]; rfl)
          have m1 : (v : Int) % 4294967296 = (v : Int) := by omega
          clear hst
          go_wp2
          (try rw [Exit.noGoto_ret])
          go_ret2
          rw [hend.out]
          exact ⟨rfl, hb⟩
  · have hend : Hid (R = (0, false)) := Lib.hid (by rw [hpv.out, if_neg h4])
    have g1 : (4 : Int) < (n : Int) := by omega
    clear hpv
    go_wp2_with fail
    all_goals (try (exfalso; omega))
    (try rw [Exit.noGoto_ret])
    go_ret2
    rw [hend.out]
    exact ⟨rfl, hb⟩
end Go.Proofs.YtjbciamhhfcdoaaGreatDoor
