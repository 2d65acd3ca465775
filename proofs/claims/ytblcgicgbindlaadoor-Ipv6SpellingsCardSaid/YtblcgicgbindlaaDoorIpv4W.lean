/- The walk of Parse of ipv4. Conditions: strings are of bounded length; the library's tables stand. -/
import Derived.Test.YtblcgicgbindlaaDoorIpv4S
import Derived.Laws.BitsAllLaws
import Derived.Lib.AppendIntMem
namespace Go.Proofs.YtblcgicgbindlaaDoor
open Go.RowKit Hs
set_option linter.unusedSimpArgs false
set_option linter.unusedVariables false

theorem lib_itoa (n : Nat) (w : World) (hB : Base w) (hn : n ≤ 9999999999) : Calls Tryd.prog 31 #[.int .i64 (n : Int)] w fun e w' => e = .returned (.string (mk (Lib.decDigits n))) ∧ Below w.heap.size w w' := by
  refine (Tryd.strconv_Itoa (n : Int) (by omega) (by omega) _ hB.1.1).mono ?_
  rintro e w1 ⟨rfl, k, os, rfl⟩
  refine ⟨?_, Lib.below_grow _ _ (Nat.le_refl _) _ _⟩
  have hi : Lib.itoa (n : Int) = Lib.decDigits n := by
    show (if (n : Int) < 0 then _ else _) = _
    rw [if_neg (by omega)]
    rfl
  rw [hi]
  rfl
theorem or_u32 (v n : Nat) (hv : v < 16777216) (hn : n ≤ 255) : bits .or .u32 ((v : Int) * 256) (n : Int) = ((v * 256 + n : Nat) : Int) := by
  have e : (v <<< 8 : Nat) = v * 256 := by rw [Nat.shiftLeft_eq]
  have h2 : v * 256 ||| n = v * 256 + n := by
    rw [← e]; exact (Nat.shiftLeft_add_eq_or_of_lt (by omega) v).symm
  have h3 := u32_or_nat (v * 256) n (by omega) (by omega)
  rw [h2] at h3
  simpa using h3

set_option maxHeartbeats 2000000 in
theorem i4_parse (s : ByteArray) (w : World) (hB : Base w) (hs : s.size ≤ 100000000) : Calls Tryd.prog 12 #[.string s] w fun e w' => e = .returned (.tuple #[.int .u32 (parseV (un s)).1, .bool (parseV (un s)).2]) ∧ Below w.heap.size w w' := by
  have HS := Lib.hid (lib_split s w hB hs)
  have HLEN := Lib.hid (splitD_len 46 (un s))
  have hpv : Hid (parseV (un s) = if (splitD 46 (un s)).length = 4 then optV (strF (splitD 46 (un s)) 0) else (0, false)) := Lib.hid rfl
  obtain ⟨R, hR⟩ : ∃ R, R = parseV (un s) := ⟨_, rfl⟩
  rw [← hR] at hpv ⊢
  clear hR
  obtain ⟨L, hL⟩ : ∃ L, L = splitD 46 (un s) := ⟨_, rfl⟩
  rw [← hL] at hpv HS HLEN
  clear hL
  rw [length_un] at HLEN
  have HBS := Lib.hid hB
  clear hB
  go_enter Tryd.func12, Tryd.ntmps12
  go_wp2_with fail
  refine HS.out.mono ?_
  rintro e w1 ⟨v, rfl, hst, hb⟩
  clear HS
  have hB1 := Lib.hid (HBS.out.below hb)
  obtain ⟨a, c, rfl, hn, hm, hc⟩ := hst.open
  unfold maxLen at hm
  have HC := Lib.hid hc
  clear hc hst HBS
  by_cases h4 : L.length = 4
  · have hfin : Hid (R = optV (strF L 0)) := Lib.hid (by rw [hpv.out, if_pos h4])
    clear hpv
    rw [h4]
    rw [h4] at hn
    have H4 := Lib.hid h4
    clear h4
    go_wp2
    go_loopw [5, 17] (fun vv iv wr => ∃ (k v : Nat), iv = .int .i64 k ∧ k ≤ 4 ∧ vv = .int .u32 v ∧ v < 256 ^ k ∧ Hid (strF L 0 = strF (L.drop k) v) ∧ Below w1.heap.size w1 wr) (fun _ iv _ => 4 - (intOf iv).toNat)
    case atStart => exact ⟨0, 0, rfl, by omega, rfl, by simp, Lib.hid rfl, Below.refl _ _⟩
    case round =>
      obtain ⟨k, v, rfl, hk, rfl, hv, hst, hnx⟩ := hrel
      by_cases hlt : k < 4
      · obtain ⟨b, off, rfl, hb1, hcell⟩ := HC.out (by rw [H4.out]; omega)
        have hkl : k < L.length := by rw [H4.out]; exact hlt
        have c0 := ((bcell hnx).1 b (off + k) hb1).trans (hcell k hkl)
        have hlen := HLEN.out L[k] (List.getElem_mem hkl)
        have hst2 : Hid (strF L 0 = strF (L[k] :: L.drop (k + 1)) v) := Lib.hid (by rw [hst.out, List.drop_eq_getElem_cons hkl])
        obtain ⟨x, hx⟩ : ∃ x, x = L[k] := ⟨_, rfl⟩
        rw [← hx] at c0 hlen hst2
        clear hcell hst hx hkl
        have hd := fun W => i4_digits10 (mk x) W (by rw [size_mk]; omega)
        simp only [un_mk] at hd
        have hsx : Hid (strN x = if (numB 10 x).2 = true ∧ (numB 10 x).1 ≤ 255 ∧ Lib.decDigits (numB 10 x).1 = x then some (numB 10 x).1 else none) := Lib.hid rfl
        obtain ⟨m, hm2⟩ : ∃ m, m = numB 10 x := ⟨_, rfl⟩
        rw [← hm2] at hsx
        simp only [← hm2] at hd
        clear hm2
        obtain ⟨n, ok⟩ := m
        simp only at hd hsx
        have HD := Lib.hid hd
        have hv3 : v < 16777216 := by
          have : (256 : Nat) ^ k ≤ 256 ^ 3 := Nat.pow_le_pow_right (by decide) (by omega)
          omega
        clear hd
        cases ok
        · have hend : Hid (R = (0, false)) := Lib.hid (by rw [hfin.out, hst2.out, strF, hsx.out, if_neg (by simp)]; rfl)
          clear hst2 hsx
          go_wp2_with fail
          refine (HD.out _).mono ?_; rintro e w2 ⟨rfl, rfl⟩
          go_wp2_with fail
          go_ret2
          rw [hend.out]
          exact ⟨rfl, hb.trans (hnx.mono hb.size)⟩
        · by_cases hn5 : 255 < n
          · have g1 : decide (255 < n) = true := decide_eq_true hn5
            have g2 : (255 : Int) < (n : Int) := by omega
            have hend : Hid (R = (0, false)) := Lib.hid (by rw [hfin.out, hst2.out, strF, hsx.out, if_neg (by simp; omega)]; rfl)
            clear hst2 hsx
            go_wp2_with fail
            refine (HD.out _).mono ?_; rintro e w2 ⟨rfl, rfl⟩
            go_wp2_with fail
            all_goals (try (exfalso; omega))
            go_ret2
            rw [hend.out]
            exact ⟨rfl, hb.trans (hnx.mono hb.size)⟩
          · have g1 : decide (255 < n) = false := decide_eq_false hn5
            have g2 : ¬ ((255 : Int) < (n : Int)) := by omega
            have hBr := Lib.hid (hB1.out.below hnx)
            have HI := Lib.hid (lib_itoa n wr hBr.out (by omega))
            cases hq : (Lib.decDigits n == x)
            · have q1 : ((mk (Lib.decDigits n)).toList == (mk x).toList) = false := by rw [toList_un, toList_un, un_mk, un_mk]; exact hq
              have hend : Hid (R = (0, false)) := Lib.hid (by rw [hfin.out, hst2.out, strF, hsx.out, if_neg (by rintro ⟨_, _, h3⟩; rw [h3] at hq; simp at hq)]; rfl)
              clear hst2 hsx hq
              go_wp2_with fail
              refine (HD.out _).mono ?_; rintro e w2 ⟨rfl, rfl⟩
              go_wp2_with fail
              all_goals (try (exfalso; omega))
              refine HI.out.mono ?_; rintro e w2 ⟨rfl, hb2⟩
              go_wp2_with fail
              go_ret2
              rw [hend.out]
              exact ⟨rfl, hb.trans ((hnx.trans (hb2.mono hnx.size)).mono hb.size)⟩
            · have q1 : ((mk (Lib.decDigits n)).toList == (mk x).toList) = true := by rw [toList_un, toList_un, un_mk, un_mk]; exact hq
              have hnext : Hid (strF L 0 = strF (L.drop (k + 1)) (v * 256 + n)) := Lib.hid (by rw [hst2.out, strF, hsx.out, if_pos ⟨rfl, by omega, by simpa using hq⟩])
              have ho := or_u32 v n hv3 (by omega)
              have h256 : v * 256 + n < 256 ^ (k + 1) := by rw [Nat.pow_succ]; generalize (256 : Nat) ^ k = q at hv; omega
              have H256 := Lib.hid h256
              have m1 : ((v : Int) * 256) % 4294967296 = (v : Int) * 256 := by omega
              have m2 : (n : Int) % 4294967296 = (n : Int) := by omega
              have HM := Lib.hid hv
              clear hst2 hsx hq h256 hv
              go_wp2_with fail
              refine (HD.out _).mono ?_; rintro e w2 ⟨rfl, rfl⟩
              go_wp2_with fail
              all_goals (try (exfalso; omega))
              refine HI.out.mono ?_; rintro e w2 ⟨rfl, hb2⟩
              go_wp2_with fail
              go_roundw
              case rel => exact ⟨k + 1, v * 256 + n, by go_num, by omega, by first | rfl | (rw [ho]), H256.out, hnext, hnx.trans (hb2.mono hnx.size)⟩
              case measure => simp [intOf]; omega
      · obtain rfl : k = 4 := by omega
        have hend : Hid (R = (v, true)) := Lib.hid (by rw [hfin.out, hst.out, List.drop_of_length_le (by rw [H4.out]; omega)]; rfl)
        clear hst
        go_wp2
        go_ret2
        rw [hend.out]
        exact ⟨rfl, hb.trans (hnx.mono hb.size)⟩
  · have hend : Hid (R = (0, false)) := Lib.hid (by rw [hpv.out, if_neg h4])
    have g1 : ((L.length : Int) != 4) = true := by simp; omega
    clear hpv
    go_wp2_with fail
    all_goals (try (exfalso; omega))
    go_ret2
    rw [hend.out]
    exact ⟨rfl, hb⟩
end Go.Proofs.YtblcgicgbindlaaDoor
