/- The walk of scheme of URLs. Conditions: the text's length is bounded.
   The walks of group of ipv6 and of hex of its reference. Conditions: none.
   The walk of Parse of ipv4. Conditions: strings are of bounded length; the library's tables stand. -/
import Derived.Test.YtjbciamhhfcdoaaGreatDoorSub20
import Derived.Test.YtjbciamhhfcdoaaGreatDoorSub21
import Derived.Test.YtjbciamhhfcdoaaGreatDoorSub16
import Derived.Test.YtjbciamhhfcdoaaGreatDoorSub18
import Derived.Laws.BitsAllLaws
import Derived.Lib.AppendIntMem
namespace Hs
open Go
theorem index_nonneg (c : UInt8) : ∀ l : Bs, c ∈ l → 0 ≤ Lib.indexByte l c
  | [], h => by cases h
  | b :: r, h => by
    rw [Lib.indexByte]
    by_cases hb : b = c
    · simp [hb]
    · have hr : c ∈ r := by
        rcases List.mem_cons.1 h with h | h
        · exact absurd h.symm hb
        · exact h
      have ih := index_nonneg c r hr
      have h1 : (b == c) = false := by simpa using hb
      have h2 : (Lib.indexByte r c == -1) = false := by rw [beq_eq_false_iff_ne]; omega
      rw [h1, h2]
      simp
      omega
theorem schemeV_cons (b : UInt8) (r : Bs) : schemeV (b :: r) = (isLetter b && r.all schB) := rfl
end Hs
namespace Go.Proofs.YtjbciamhhfcdoaaGreatDoor
open Go.RowKit Hs
set_option linter.unusedSimpArgs false
set_option linter.unusedVariables false
set_option maxRecDepth 20000 in
set_option maxHeartbeats 4000000 in
theorem u_scheme (s : ByteArray) (w : World) (hs : s.size ≤ 100000000) : Calls Tryz.prog 104 #[.string s] w fun e w' => e = .returned (.bool (schemeV (un s))) ∧ w = w' := by
  have hlen : (un s).length = s.size := length_un s
  have hem : (s.toList == ([] : Bs)) = decide (un s = []) := eq_lit s []
  obtain ⟨l, hl⟩ : ∃ l, l = un s := ⟨_, rfl⟩
  rw [← hl] at hlen hem ⊢
  obtain ⟨R, hR⟩ : ∃ R, R = schemeV l := ⟨_, rfl⟩
  have HR := Lib.hid hR
  rw [← hR]
  have HL := Lib.hid hl
  have HLEN := Lib.hid hlen
  have HEM := Lib.hid hem
  clear hl hlen hem hR
  go_enter Tryz.func104, Tryz.ntmps104
  go_wp2
  go_loop [8] (fun iv => ∃ k : Nat, iv = .int .i64 k ∧ k ≤ s.size ∧ Hid (0 < k → R = (l.drop k).all schB)) (fun iv => s.size - (intOf iv).toNat)
  case atStart => exact ⟨0, rfl, by omega, Lib.hid (fun h => by omega)⟩
  case round =>
    obtain ⟨k, rfl, hk, hall⟩ := hrel
    by_cases hlt : k < s.size
    · have hkl : k < l.length := by rw [HLEN.out]; exact hlt
      have hx : l[k] = s[k] := by
        have := HL.out
        subst this
        exact getElem_un s k hlt
      have hdr : l.drop k = s[k] :: l.drop (k + 1) := by rw [← hx]; exact List.drop_eq_getElem_cons hkl
      have hI := fun W => lib_indexByte ⟨#[48, 49, 50, 51, 52, 53, 54, 55, 56, 57, 43, 45, 46]⟩ s[k] W
      have hb256 := (s[k]).toNat_lt
      have hlet : isLetter s[k] = (decide (97 ≤ (s[k]).toNat ∧ (s[k]).toNat ≤ 122) || decide (65 ≤ (s[k]).toNat ∧ (s[k]).toNat ≤ 90)) := rfl
      have hsch : schB s[k] = (isLetter s[k] || decide (s[k] ∈ ([48, 49, 50, 51, 52, 53, 54, 55, 56, 57, 43, 45, 46] : Bs))) := rfl
      have hun : un (⟨#[48, 49, 50, 51, 52, 53, 54, 55, 56, 57, 43, 45, 46]⟩ : ByteArray) = [48, 49, 50, 51, 52, 53, 54, 55, 56, 57, 43, 45, 46] := rfl
      rw [hun] at hI
      have h0 : k = 0 → R = (isLetter s[k] && (l.drop (k + 1)).all schB) := by
        intro h
        have : l = s[k] :: l.drop (k + 1) := by
          conv => lhs; rw [← List.drop_zero (l := l), ← h]
          exact hdr
        rw [HR.out]
        conv => lhs; rw [this]
        exact schemeV_cons _ _
      have h1 : 0 < k → R = (schB s[k] && (l.drop (k + 1)).all schB) := by
        intro h
        rw [hall.out h, hdr, List.all_cons]
      have hin : s[k] ∈ ([48, 49, 50, 51, 52, 53, 54, 55, 56, 57, 43, 45, 46] : Bs) → 0 ≤ Lib.indexByte [48, 49, 50, 51, 52, 53, 54, 55, 56, 57, 43, 45, 46] s[k] := index_nonneg _ _
      have hnin : s[k] ∉ ([48, 49, 50, 51, 52, 53, 54, 55, 56, 57, 43, 45, 46] : Bs) → Lib.indexByte [48, 49, 50, 51, 52, 53, 54, 55, 56, 57, 43, 45, 46] s[k] = -1 := fun h => index_no _ _ (fun b hb e => h (e ▸ hb))
      obtain ⟨mem, hmem⟩ : ∃ mem, mem = decide (s[k] ∈ ([48, 49, 50, 51, 52, 53, 54, 55, 56, 57, 43, 45, 46] : Bs)) := ⟨_, rfl⟩
      have hin2 : mem = true → 0 ≤ Lib.indexByte [48, 49, 50, 51, 52, 53, 54, 55, 56, 57, 43, 45, 46] s[k] := fun h => hin (of_decide_eq_true (hmem ▸ h))
      have hnin2 : mem = false → Lib.indexByte [48, 49, 50, 51, 52, 53, 54, 55, 56, 57, 43, 45, 46] s[k] = -1 := fun h => hnin (of_decide_eq_false (hmem ▸ h))
      rw [← hmem] at hsch
      obtain ⟨ix, hix⟩ : ∃ ix, ix = Lib.indexByte [48, 49, 50, 51, 52, 53, 54, 55, 56, 57, 43, 45, 46] s[k] := ⟨_, rfl⟩
      rw [← hix] at hin2 hnin2
      simp only [← hix] at hI
      rw [hsch, hlet] at h1
      rw [hlet] at h0
      obtain ⟨x, hx2⟩ : ∃ x, x = (s[k]).toNat := ⟨_, rfl⟩
      have cs : (s[k].toNat : Int) = (x : Int) := by rw [hx2]
      rw [← hx2] at h0 h1 hb256
      simp only [← hx2] at hI
      have HI := Lib.hid hI
      have H0 := Lib.hid h0
      have H1 := Lib.hid h1
      clear hI h0 h1 hlet hsch hx hx2 hdr hall hun hin hnin hmem hix
      by_cases hlt2 : (97 ≤ x ∧ x ≤ 122) ∨ (65 ≤ x ∧ x ≤ 90)
      · have hd : (decide (97 ≤ x ∧ x ≤ 122) || decide (65 ≤ x ∧ x ≤ 90)) = true := by simpa using hlt2
        have hnext : Hid (0 < k + 1 → R = (l.drop (k + 1)).all schB) := Lib.hid fun _ => by
          rcases Nat.eq_zero_or_pos k with h | h
          · rw [H0.out h, hd, Bool.true_and]
          · rw [H1.out h, hd, Bool.true_or, Bool.true_and]
        clear H0 H1 HI hd hin2 hnin2
        rcases hlt2 with h | h
        all_goals
          go_wp2
          all_goals (try (exfalso; omega))
          go_round
          case rel => exact ⟨k + 1, by go_num, by omega, hnext⟩
          case measure => simp [intOf]; omega
      · have hd : (decide (97 ≤ x ∧ x ≤ 122) || decide (65 ≤ x ∧ x ≤ 90)) = false := by simp; omega
        rcases Nat.eq_zero_or_pos k with h | h
        · have hfin : Hid (R = false) := Lib.hid (by rw [H0.out h, hd, Bool.false_and])
          have hk0 : ((k : Int) == 0) = true := by simp; omega
          clear H0 H1 HI hd hin2 hnin2 h
          go_wp2
          all_goals (try (exfalso; omega))
          all_goals
            go_ret
            rw [hfin.out]
            exact ⟨rfl, rfl⟩
        · have hk0 : ((k : Int) == 0) = false := by simp; omega
          cases mem
          · have hfin : Hid (R = false) := Lib.hid (by rw [H1.out h, hd]; rfl)
            have hixv := hnin2 rfl
            subst hixv
            clear H0 H1 hd hin2 hnin2
            go_wp2_with fail
            all_goals (try (exfalso; omega))
            all_goals
              refine (HI.out _).mono ?_; rintro e w1 ⟨rfl, rfl⟩
              go_wp2
              all_goals (try (exfalso; omega))
              go_ret
              rw [hfin.out]
              exact ⟨rfl, rfl⟩
          · have hixv := hin2 rfl
            have hnext : Hid (0 < k + 1 → R = (l.drop (k + 1)).all schB) := Lib.hid fun _ => by rw [H1.out h, hd]; simp
            clear H0 H1 hd hin2 hnin2
            go_wp2_with fail
            all_goals (try (exfalso; omega))
            all_goals
              refine (HI.out _).mono ?_; rintro e w1 ⟨rfl, rfl⟩
              go_wp2
              all_goals (try (exfalso; omega))
              go_round
              case rel => exact ⟨k + 1, by go_num, by omega, hnext⟩
              case measure => simp [intOf]; omega
    · have hkn : k = s.size := by omega
      have hdrop : l.drop k = [] := List.drop_of_length_le (by rw [HLEN.out]; omega)
      rcases Nat.eq_zero_or_pos k with h | h
      · have hl0 : l = [] := List.eq_nil_of_length_eq_zero (by rw [HLEN.out]; omega)
        have hfin : Hid (R = false) := Lib.hid (by rw [HR.out, hl0]; rfl)
        have hem := HEM.out.trans (decide_eq_true hl0)
        clear hall hdrop hl0
        go_wp2
        all_goals (try (exfalso; omega))
        go_ret
        rw [hfin.out]
        exact ⟨rfl, rfl⟩
      · have hfin : Hid (R = true) := Lib.hid (by rw [hall.out h, hdrop]; rfl)
        have hem := HEM.out.trans (decide_eq_false (by intro e; have := HLEN.out; rw [e] at this; simp at this; omega))
        clear hall hdrop
        go_wp2
        all_goals (try (exfalso; omega))
        go_ret
        rw [hfin.out]
        exact ⟨rfl, rfl⟩
end Go.Proofs.YtjbciamhhfcdoaaGreatDoor
namespace Go.Proofs.YtjbciamhhfcdoaaGreatDoor
open Go.RowKit Hs
set_option linter.unusedSimpArgs false
set_option linter.unusedVariables false

theorem valB_take (base : Nat) (l : Bs) (k : Nat) (h : k < l.length) : valB base (l.take (k + 1)) 0 = valB base (l.take k) 0 * base + digV l[k] := by
  rw [List.take_succ_eq_append_getElem h, valB_append]
  rfl
theorem or_u16 (v n : Nat) (hv : v < 4096) (hn : n < 16) : bits .or .u16 ((v : Int) * 16) (n : Int) = ((v * 16 + n : Nat) : Int) := by
  have e : (v <<< 4 : Nat) = v * 16 := by rw [Nat.shiftLeft_eq]
  have h2 : v * 16 ||| n = v * 16 + n := by
    rw [← e]; exact (Nat.shiftLeft_add_eq_or_of_lt (by omega) v).symm
  have h3 := u16_or_nat (v * 16) n (by omega) (by omega)
  rw [h2] at h3
  simpa using h3

set_option maxHeartbeats 2000000 in
theorem i6_group (s : ByteArray) (w : World) : Calls Tryz.prog 265 #[.string s] w fun e w' => e = .returned (.tuple #[.int .u16 (optV (grpV (un s))).1, .bool (optV (grpV (un s))).2]) ∧ w = w' := by
  have hdef : Hid (grpV (un s) = if 1 ≤ s.size ∧ s.size ≤ 4 ∧ allB 16 (un s) = true then some (valB 16 (un s) 0) else none) := Lib.hid (by rw [← length_un]; rfl)
  by_cases hz : s.size = 0
  · have hun : un s = [] := List.eq_nil_of_length_eq_zero (by rw [length_un]; exact hz)
    have h1 : s.toList.isEmpty = true := by rw [toList_un, hun]; rfl
    have h0 : s.size < 1 := by omega
    have hend : Hid (grpV (un s) = none) := Lib.hid (by rw [hdef.out, if_neg (by omega)])
    clear hz hun hdef
    go_enter Tryz.func265, Tryz.ntmps265
    go_wp2
    all_goals (try (exfalso; omega))
    all_goals
      go_ret2
      rw [hend.out]
      exact ⟨rfl, rfl⟩
  · have h1 : s.toList.isEmpty = false := by
      rw [toList_un]
      cases hu : un s with
      | nil => exact absurd (by rw [← length_un, hu]; rfl) hz
      | cons a b => rfl
    have h0 : 1 ≤ s.size := by omega
    by_cases h4 : 4 < s.size
    · have hend : Hid (grpV (un s) = none) := Lib.hid (by rw [hdef.out, if_neg (by omega)])
      have g1 : decide ((4 : Int) < (s.size : Int)) = true := decide_eq_true (by omega)
      clear hz hdef
      go_enter Tryz.func265, Tryz.ntmps265
      go_wp2
      all_goals (try (exfalso; omega))
      all_goals
        go_ret2
        rw [hend.out]
        exact ⟨rfl, rfl⟩
    · have h5 : s.size ≤ 4 := by omega
      have g1 : decide ((4 : Int) < (s.size : Int)) = false := decide_eq_false (by omega)
      clear hz
      go_enter Tryz.func265, Tryz.ntmps265
      go_wp2
      all_goals (try (exfalso; omega))
      go_loop [4, 16] (fun nv iv => ∃ k : Nat, iv = .int .i64 k ∧ k ≤ s.size ∧ nv = .int .u16 (valB 16 ((un s).take k) 0) ∧ Hid (valB 16 ((un s).take k) 0 < 16 ^ k) ∧ Hid (allB 16 (un s) = allB 16 ((un s).drop k))) (fun _ iv => s.size - (intOf iv).toNat)
      case atStart => exact ⟨0, rfl, by omega, rfl, Lib.hid (by simp [valB]), rfl⟩
      case round =>
        obtain ⟨k, rfl, hk, rfl, hle, ha⟩ := hrel
        by_cases hlt : k < s.size
        · have hlu : k < (un s).length := by rw [length_un]; exact hlt
          have hst := Lib.hid (valB_take 16 (un s) k hlu)
          have hx := (s[k]'hlt).toNat_lt
          have hnx : Hid (digV (s[k]'hlt) < 16 → allB 16 (un s) = allB 16 ((un s).drop (k + 1))) := by
            intro h
            have e := ha.out
            rw [allB, allB, all_drop_eq (un s) _ k hlu true (decide_eq_true h)] at e
            exact e
          have hno : Hid (¬ digV (s[k]'hlt) < 16 → grpV (un s) = none) := by
            intro h
            have e : allB 16 (un s) = false := by rw [ha.out]; unfold allB; rw [all_drop_eq (un s) _ k hlu false (decide_eq_false h)]; rfl
            rw [hdef.out, if_neg (by simp [e])]
          clear ha hdef
          obtain ⟨v, hv⟩ : ∃ v, v = valB 16 ((un s).take k) 0 := ⟨_, rfl⟩
          rw [← hv] at hle hst ⊢
          clear hv
          have hv4 : v < 4096 := by
            have h6 : (16 : Nat) ^ k ≤ 16 ^ 3 := Nat.pow_le_pow_right (by decide) (by omega)
            have := hle.out
            omega
          have hdc := dig_cases (s[k]'hlt)
          obtain ⟨q, hq⟩ : ∃ q, q = digV (s[k]'hlt) := ⟨_, rfl⟩
          rw [← hq] at hdc hnx hno
          have hst' : Hid (valB 16 ((un s).take (k + 1)) 0 = v * 16 + q) := by rw [hq]; exact hst.out
          clear hst hq
          by_cases hqb : q < 16
          · have HN := Lib.hid (hnx.out hqb)
            have HLE : Hid (valB 16 ((un s).take (k + 1)) 0 < 16 ^ (k + 1)) := Lib.hid (by rw [hst'.out, Nat.pow_succ]; have := hle.out; omega)
            clear hnx hno
            rcases hdc with ⟨h1, h2, h3⟩ | ⟨h1, h2, h3⟩ | ⟨h1, h2, h3⟩ | ⟨h1, h2, h3, h4⟩
            all_goals (try (exfalso; omega))
            all_goals
              have ho : bits .or .u16 ((v : Int) * 16) (q : Int) = ((v * 16 + q : Nat) : Int) := or_u16 v q (by omega) (by omega)
              go_wp2
              all_goals (try (exfalso; omega))
              go_round
              case rel =>
                refine ⟨k + 1, by go_num, by omega, ?_, HLE, HN⟩
                rw [hst'.out]
                first | (rw [ho]) | (rw [← ho]; congr 1; omega) | (rw [← ho]; congr 2; omega) | (congr 1; omega)
              case measure => simp [intOf]; omega
          · have HN := Lib.hid (hno.out hqb)
            clear hnx hno
            rcases hdc with ⟨h1, h2, h3⟩ | ⟨h1, h2, h3⟩ | ⟨h1, h2, h3⟩ | ⟨h1, h2, h3, h4⟩
            all_goals (try (exfalso; omega))
            all_goals
              go_wp2
              all_goals (try (exfalso; omega))
              all_goals
                go_ret2
                rw [HN.out]
                exact ⟨rfl, rfl⟩
        · obtain rfl : k = s.size := by omega
          have htk : (un s).take s.size = un s := List.take_of_length_le (by rw [length_un]; exact Nat.le_refl _)
          have hfin : Hid (grpV (un s) = some (valB 16 (un s) 0)) := Lib.hid <| by
            have e : allB 16 (un s) = true := by rw [ha.out, List.drop_eq_nil_of_le (by rw [length_un]; exact Nat.le_refl _)]; rfl
            rw [hdef.out, if_pos ⟨by omega, by omega, e⟩]
          clear ha hdef
          rw [htk] at hle ⊢
          have hv5 : valB 16 (un s) 0 < 65536 := by
            have h6 : (16 : Nat) ^ s.size ≤ 16 ^ 4 := Nat.pow_le_pow_right (by decide) (by omega)
            have := hle.out
            omega
          obtain ⟨v, hv⟩ : ∃ v, v = valB 16 (un s) 0 := ⟨_, rfl⟩
          rw [← hv] at hfin hv5 ⊢
          clear hv hle htk
          have m1 : (v : Int) % 65536 = (v : Int) := by omega
          go_wp2
          all_goals (try (exfalso; omega))
          go_ret2
          rw [hfin.out]
          exact ⟨rfl, rfl⟩
set_option maxHeartbeats 2000000 in
theorem r11_hex (s : ByteArray) (w : World) : Calls Tryz.prog 230 #[.string s] w fun e w' => e = .returned (.tuple #[.int .u16 (optV (grpV (un s))).1, .bool (optV (grpV (un s))).2]) ∧ w = w' := by
  have hdef : Hid (grpV (un s) = if 1 ≤ s.size ∧ s.size ≤ 4 ∧ allB 16 (un s) = true then some (valB 16 (un s) 0) else none) := Lib.hid (by rw [← length_un]; rfl)
  by_cases hz : s.size = 0
  · have hun : un s = [] := List.eq_nil_of_length_eq_zero (by rw [length_un]; exact hz)
    have h1 : s.toList.isEmpty = true := by rw [toList_un, hun]; rfl
    have h0 : s.size < 1 := by omega
    have hend : Hid (grpV (un s) = none) := Lib.hid (by rw [hdef.out, if_neg (by omega)])
    clear hz hun hdef
    go_enter Tryz.func230, Tryz.ntmps230
    go_wp2
    all_goals (try (exfalso; omega))
    all_goals
      go_ret2
      rw [hend.out]
      exact ⟨rfl, rfl⟩
  · have h1 : s.toList.isEmpty = false := by
      rw [toList_un]
      cases hu : un s with
      | nil => exact absurd (by rw [← length_un, hu]; rfl) hz
      | cons a b => rfl
    have h0 : 1 ≤ s.size := by omega
    by_cases h4 : 4 < s.size
    · have hend : Hid (grpV (un s) = none) := Lib.hid (by rw [hdef.out, if_neg (by omega)])
      have g1 : decide ((4 : Int) < (s.size : Int)) = true := decide_eq_true (by omega)
      clear hz hdef
      go_enter Tryz.func230, Tryz.ntmps230
      go_wp2
      all_goals (try (exfalso; omega))
      all_goals
        go_ret2
        rw [hend.out]
        exact ⟨rfl, rfl⟩
    · have h5 : s.size ≤ 4 := by omega
      have g1 : decide ((4 : Int) < (s.size : Int)) = false := decide_eq_false (by omega)
      clear hz
      go_enter Tryz.func230, Tryz.ntmps230
      go_wp2
      all_goals (try (exfalso; omega))
      go_loop [4, 5] (fun nv iv => ∃ k : Nat, iv = .int .i64 k ∧ k ≤ s.size ∧ nv = .int .i64 (valB 16 ((un s).take k) 0) ∧ Hid (valB 16 ((un s).take k) 0 < 16 ^ k) ∧ Hid (allB 16 (un s) = allB 16 ((un s).drop k))) (fun _ iv => s.size - (intOf iv).toNat)
      case atStart => exact ⟨0, rfl, by omega, rfl, Lib.hid (by simp [valB]), rfl⟩
      case round =>
        obtain ⟨k, rfl, hk, rfl, hle, ha⟩ := hrel
        by_cases hlt : k < s.size
        · have hlu : k < (un s).length := by rw [length_un]; exact hlt
          have hst := Lib.hid (valB_take 16 (un s) k hlu)
          have hx := (s[k]'hlt).toNat_lt
          have hnx : Hid (digV (s[k]'hlt) < 16 → allB 16 (un s) = allB 16 ((un s).drop (k + 1))) := by
            intro h
            have e := ha.out
            rw [allB, allB, all_drop_eq (un s) _ k hlu true (decide_eq_true h)] at e
            exact e
          have hno : Hid (¬ digV (s[k]'hlt) < 16 → grpV (un s) = none) := by
            intro h
            have e : allB 16 (un s) = false := by rw [ha.out]; unfold allB; rw [all_drop_eq (un s) _ k hlu false (decide_eq_false h)]; rfl
            rw [hdef.out, if_neg (by simp [e])]
          clear ha hdef
          obtain ⟨v, hv⟩ : ∃ v, v = valB 16 ((un s).take k) 0 := ⟨_, rfl⟩
          rw [← hv] at hle hst ⊢
          clear hv
          have hv4 : v < 4096 := by
            have h6 : (16 : Nat) ^ k ≤ 16 ^ 3 := Nat.pow_le_pow_right (by decide) (by omega)
            have := hle.out
            omega
          have hdc := dig_cases (s[k]'hlt)
          obtain ⟨q, hq⟩ : ∃ q, q = digV (s[k]'hlt) := ⟨_, rfl⟩
          rw [← hq] at hdc hnx hno
          have hst' : Hid (valB 16 ((un s).take (k + 1)) 0 = v * 16 + q) := by rw [hq]; exact hst.out
          clear hst hq
          by_cases hqb : q < 16
          · have HN := Lib.hid (hnx.out hqb)
            have HLE : Hid (valB 16 ((un s).take (k + 1)) 0 < 16 ^ (k + 1)) := Lib.hid (by rw [hst'.out, Nat.pow_succ]; have := hle.out; omega)
            clear hnx hno
            rcases hdc with ⟨h1, h2, h3⟩ | ⟨h1, h2, h3⟩ | ⟨h1, h2, h3⟩ | ⟨h1, h2, h3, h4⟩
            all_goals (try (exfalso; omega))
            all_goals
              have ho : True := trivial
              go_wp2
              all_goals (try (exfalso; omega))
              go_round
              case rel =>
                refine ⟨k + 1, by go_num, by omega, ?_, HLE, HN⟩
                rw [hst'.out]
                congr 1; omega
              case measure => simp [intOf]; omega
          · have HN := Lib.hid (hno.out hqb)
            clear hnx hno
            rcases hdc with ⟨h1, h2, h3⟩ | ⟨h1, h2, h3⟩ | ⟨h1, h2, h3⟩ | ⟨h1, h2, h3, h4⟩
            all_goals (try (exfalso; omega))
            all_goals
              go_wp2
              all_goals (try (exfalso; omega))
              all_goals
                go_ret2
                rw [HN.out]
                exact ⟨rfl, rfl⟩
        · obtain rfl : k = s.size := by omega
          have htk : (un s).take s.size = un s := List.take_of_length_le (by rw [length_un]; exact Nat.le_refl _)
          have hfin : Hid (grpV (un s) = some (valB 16 (un s) 0)) := Lib.hid <| by
            have e : allB 16 (un s) = true := by rw [ha.out, List.drop_eq_nil_of_le (by rw [length_un]; exact Nat.le_refl _)]; rfl
            rw [hdef.out, if_pos ⟨by omega, by omega, e⟩]
          clear ha hdef
          rw [htk] at hle ⊢
          have hv5 : valB 16 (un s) 0 < 65536 := by
            have h6 : (16 : Nat) ^ s.size ≤ 16 ^ 4 := Nat.pow_le_pow_right (by decide) (by omega)
            have := hle.out
            omega
          obtain ⟨v, hv⟩ : ∃ v, v = valB 16 (un s) 0 := ⟨_, rfl⟩
          rw [← hv] at hfin hv5 ⊢
          clear hv hle htk
          have m1 : (v : Int) % 65536 = (v : Int) := by omega
          go_wp2
          all_goals (try (exfalso; omega))
          go_ret2
          rw [hfin.out]
          exact ⟨rfl, rfl⟩
end Go.Proofs.YtjbciamhhfcdoaaGreatDoor
namespace Go.Proofs.YtjbciamhhfcdoaaGreatDoor
open Go.RowKit Hs
set_option linter.unusedSimpArgs false
set_option linter.unusedVariables false

theorem lib_itoa (n : Nat) (w : World) (hB : Base w) (hn : n ≤ 9999999999) : Calls Tryz.prog 141 #[.int .i64 (n : Int)] w fun e w' => e = .returned (.string (mk (Lib.decDigits n))) ∧ Below w.heap.size w w' := by
  refine (Tryz.strconv_Itoa (n : Int) (by omega) (by omega) _ hB.1.1).mono ?_
  rintro e w1 ⟨rfl, k, os, rfl⟩
  refine ⟨?_, Lib.below_grow _ _ (Nat.le_refl _) _ _⟩
  have hi : Lib.itoa (n : Int) = Lib.decDigits n := by
    show (if (n : Int) < 0 then _ else _) = _
    rw [if_neg (by omega)]
    rfl
  rw [hi]
  rfl
theorem or_u32 (v n : Nat) (hv : v < 16777216) (hn : n ≤ 255) : bits .or .u32 ((v : Int) * 256) (n : Int) = ((v * 256 + n : Nat) : Int) := by
  have e : (v <<< 8 : Nat) = v * 256 := by rw [Nat.shiftLeft_eq]
  have h2 : v * 256 ||| n = v * 256 + n := by
    rw [← e]; exact (Nat.shiftLeft_add_eq_or_of_lt (by omega) v).symm
  have h3 := u32_or_nat (v * 256) n (by omega) (by omega)
  rw [h2] at h3
  simpa using h3

set_option maxHeartbeats 2000000 in
theorem i4_parse (s : ByteArray) (w : World) (hB : Base w) (hs : s.size ≤ 100000000) : Calls Tryz.prog 266 #[.string s] w fun e w' => e = .returned (.tuple #[.int .u32 (parseV (un s)).1, .bool (parseV (un s)).2]) ∧ Below w.heap.size w w' := by
  have HS := Lib.hid (lib_split s w hB hs)
  have HLEN := Lib.hid (splitD_len 46 (un s))
  have hpv : Hid (parseV (un s) = if (splitD 46 (un s)).length = 4 then optV (strF (splitD 46 (un s)) 0) else (0, false)) := Lib.hid rfl
  obtain ⟨R, hR⟩ : ∃ R, R = parseV (un s) := ⟨_, rfl⟩
  rw [← hR] at hpv ⊢
  clear hR
  obtain ⟨L, hL⟩ : ∃ L, L = splitD 46 (un s) := ⟨_, rfl⟩
  rw [← hL] at hpv HS HLEN
  clear hL
  rw [length_un] at HLEN
  have HBS := Lib.hid hB
  clear hB
  go_enter Tryz.func266, Tryz.ntmps266
  go_wp2_with fail
  refine HS.out.mono ?_
  rintro e w1 ⟨v, rfl, hst, hb⟩
  clear HS
  have hB1 := Lib.hid (HBS.out.below hb)
  obtain ⟨a, c, rfl, hn, hm, hc⟩ := hst.open
  unfold maxLen at hm
  have HC := Lib.hid hc
  clear hc hst HBS
  by_cases h4 : L.length = 4
  · have hfin : Hid (R = optV (strF L 0)) := Lib.hid (by rw [hpv.out, if_pos h4])
    clear hpv
    rw [h4]
    rw [h4] at hn
    have H4 := Lib.hid h4
    clear h4
    go_wp2
    go_loopw [5, 17] (fun vv iv wr => ∃ (k v : Nat), iv = .int .i64 k ∧ k ≤ 4 ∧ vv = .int .u32 v ∧ v < 256 ^ k ∧ Hid (strF L 0 = strF (L.drop k) v) ∧ Below w1.heap.size w1 wr) (fun _ iv _ => 4 - (intOf iv).toNat)
    case atStart => exact ⟨0, 0, rfl, by omega, rfl, by simp, Lib.hid rfl, Below.refl _ _⟩
    case round =>
      obtain ⟨k, v, rfl, hk, rfl, hv, hst, hnx⟩ := hrel
      by_cases hlt : k < 4
      · obtain ⟨b, off, rfl, hb1, hcell⟩ := HC.out (by rw [H4.out]; omega)
        have hkl : k < L.length := by rw [H4.out]; exact hlt
        have c0 := ((bcell hnx).1 b (off + k) hb1).trans (hcell k hkl)
        have hlen := HLEN.out L[k] (List.getElem_mem hkl)
        have hst2 : Hid (strF L 0 = strF (L[k] :: L.drop (k + 1)) v) := Lib.hid (by rw [hst.out, List.drop_eq_getElem_cons hkl])
        obtain ⟨x, hx⟩ : ∃ x, x = L[k] := ⟨_, rfl⟩
        rw [← hx] at c0 hlen hst2
        clear hcell hst hx hkl
        have hd := fun W => i4_digits10 (mk x) W (by rw [size_mk]; omega)
        simp only [un_mk] at hd
        have hsx : Hid (strN x = if (numB 10 x).2 = true ∧ (numB 10 x).1 ≤ 255 ∧ Lib.decDigits (numB 10 x).1 = x then some (numB 10 x).1 else none) := Lib.hid rfl
        obtain ⟨m, hm2⟩ : ∃ m, m = numB 10 x := ⟨_, rfl⟩
        rw [← hm2] at hsx
        simp only [← hm2] at hd
        clear hm2
        obtain ⟨n, ok⟩ := m
        simp only at hd hsx
        have HD := Lib.hid hd
        have hv3 : v < 16777216 := by
          have : (256 : Nat) ^ k ≤ 256 ^ 3 := Nat.pow_le_pow_right (by decide) (by omega)
          omega
        clear hd
        cases ok
        · have hend : Hid (R = (0, false)) := Lib.hid (by rw [hfin.out, hst2.out, strF, hsx.out, if_neg (by simp)]; rfl)
          clear hst2 hsx
          go_wp2_with fail
          refine (HD.out _).mono ?_; rintro e w2 ⟨rfl, rfl⟩
          go_wp2_with fail
          go_ret2
          rw [hend.out]
          exact ⟨rfl, hb.trans (hnx.mono hb.size)⟩
        · by_cases hn5 : 255 < n
          · have g1 : decide (255 < n) = true := decide_eq_true hn5
            have g2 : (255 : Int) < (n : Int) := by omega
            have hend : Hid (R = (0, false)) := Lib.hid (by rw [hfin.out, hst2.out, strF, hsx.out, if_neg (by simp; omega)]; rfl)
            clear hst2 hsx
            go_wp2_with fail
            refine (HD.out _).mono ?_; rintro e w2 ⟨rfl, rfl⟩
            go_wp2_with fail
            all_goals (try (exfalso; omega))
            go_ret2
            rw [hend.out]
            exact ⟨rfl, hb.trans (hnx.mono hb.size)⟩
          · have g1 : decide (255 < n) = false := decide_eq_false hn5
            have g2 : ¬ ((255 : Int) < (n : Int)) := by omega
            have hBr := Lib.hid (hB1.out.below hnx)
            have HI := Lib.hid (lib_itoa n wr hBr.out (by omega))
            cases hq : (Lib.decDigits n == x)
            · have q1 : ((mk (Lib.decDigits n)).toList == (mk x).toList) = false := by rw [toList_un, toList_un, un_mk, un_mk]; exact hq
              have hend : Hid (R = (0, false)) := Lib.hid (by rw [hfin.out, hst2.out, strF, hsx.out, if_neg (by rintro ⟨_, _, h3⟩; rw [h3] at hq; simp at hq)]; rfl)
              clear hst2 hsx hq
              go_wp2_with fail
              refine (HD.out _).mono ?_; rintro e w2 ⟨rfl, rfl⟩
              go_wp2_with fail
              all_goals (try (exfalso; omega))
              refine HI.out.mono ?_; rintro e w2 ⟨rfl, hb2⟩
              go_wp2_with fail
              go_ret2
              rw [hend.out]
              exact ⟨rfl, hb.trans ((hnx.trans (hb2.mono hnx.size)).mono hb.size)⟩
            · have q1 : ((mk (Lib.decDigits n)).toList == (mk x).toList) = true := by rw [toList_un, toList_un, un_mk, un_mk]; exact hq
              have hnext : Hid (strF L 0 = strF (L.drop (k + 1)) (v * 256 + n)) := Lib.hid (by rw [hst2.out, strF, hsx.out, if_pos ⟨rfl, by omega, by simpa using hq⟩])
              have ho := or_u32 v n hv3 (by omega)
              have h256 : v * 256 + n < 256 ^ (k + 1) := by rw [Nat.pow_succ]; generalize (256 : Nat) ^ k = q at hv; omega
              have H256 := Lib.hid h256
              have m1 : ((v : Int) * 256) % 4294967296 = (v : Int) * 256 := by omega
              have m2 : (n : Int) % 4294967296 = (n : Int) := by omega
              have HM := Lib.hid hv
              clear hst2 hsx hq h256 hv
              go_wp2_with fail
              refine (HD.out _).mono ?_; rintro e w2 ⟨rfl, rfl⟩
              go_wp2_with fail
              all_goals (try (exfalso; omega))
              refine HI.out.mono ?_; rintro e w2 ⟨rfl, hb2⟩
              go_wp2_with fail
              go_roundw
              case rel => exact ⟨k + 1, v * 256 + n, by go_num, by omega, by first | rfl | (rw [ho]), H256.out, hnext, hnx.trans (hb2.mono hnx.size)⟩
              case measure => simp [intOf]; omega
      · obtain rfl : k = 4 := by omega
        have hend : Hid (R = (v, true)) := Lib.hid (by rw [hfin.out, hst.out, List.drop_of_length_le (by rw [H4.out]; omega)]; rfl)
        clear hst
        go_wp2
        go_ret2
        rw [hend.out]
        exact ⟨rfl, hb.trans (hnx.mono hb.size)⟩
  · have hend : Hid (R = (0, false)) := Lib.hid (by rw [hpv.out, if_neg h4])
    have g1 : ((L.length : Int) != 4) = true := by simp; omega
    clear hpv
    go_wp2_with fail
    all_goals (try (exfalso; omega))
    go_ret2
    rw [hend.out]
    exact ⟨rfl, hb⟩
end Go.Proofs.YtjbciamhhfcdoaaGreatDoor
