/- The walk of Numeric of the reference of layer 10. Conditions: strings are of bounded length. -/
import Derived.Test.YtblcgicgbindlaaDoorIpv4V
import Derived.Test.YtblcgicgbindlaaDoorIpv4P
import Derived.Test.YtblcgicgbindlaaDoorPlainIpv4R
namespace Go.Proofs.YtblcgicgbindlaaDoor
open Go.RowKit Hs
set_option linter.unusedSimpArgs false
set_option linter.unusedVariables false

set_option maxHeartbeats 1600000 in
theorem r10_numeric (s : ByteArray) (w : World) (hs : s.size ≤ 100000000) : Calls Tryd.prog 17 #[.string s] w fun e w' => e = .returned (.bool (numericV (un s))) ∧ Below w.heap.size w w' := by
  have HS := Lib.hid (r10_parts s w hs)
  have hlen := partsD_len (un s)
  have hpos := partsD_pos (un s)
  have hpv : Hid (numericV (un s) = lastR (((partsD (un s)).getLast?).getD [])) := Lib.hid (by rw [lastR_eq]; rfl)
  obtain ⟨R, hR⟩ : ∃ R, R = numericV (un s) := ⟨_, rfl⟩
  rw [← hR] at hpv ⊢
  clear hR
  obtain ⟨L, hL⟩ : ∃ L, L = partsD (un s) := ⟨_, rfl⟩
  rw [← hL] at hpv HS hlen hpos
  clear hL
  rw [length_un] at hlen
  obtain ⟨n, hn0⟩ : ∃ n, L.length = n + 1 := ⟨L.length - 1, by omega⟩
  have hxl := hlen (L[n]'(by omega)) (List.getElem_mem _)
  have hlast : Hid (L.getLast? = some (L[n]'(by omega))) := Lib.hid (by rw [List.getLast?_eq_getElem?]; simp only [hn0, Nat.add_sub_cancel]; exact List.getElem?_eq_getElem _)
  have HN := Lib.hid hn0
  clear hlen hpos
  go_enter Tryd.func17, Tryd.ntmps17
  go_wp2_with fail
  refine HS.out.mono ?_
  rintro e w1 ⟨v, rfl, hst, hb⟩
  clear HS
  obtain ⟨a, c, rfl, hn, hm, hc⟩ := hst.open
  unfold maxLen at hm
  obtain ⟨b, off, rfl, hb1, hcell⟩ := hc (by rw [HN.out]; omega)
  have c0 := hcell n (by rw [HN.out]; omega)
  rw [HN.out] at hn ⊢
  obtain ⟨x, hx⟩ : ∃ x, x = L[n]'(by rw [HN.out]; omega) := ⟨_, rfl⟩
  rw [← hx] at c0 hxl hlast
  rw [hlast.out] at hpv
  simp only [Option.getD_some] at hpv
  clear hcell hc hst hx hn0 hlast HN
  obtain ⟨S, hS⟩ : ∃ S, S = mk x := ⟨_, rfl⟩
  have hSx : un S = x := by rw [hS, un_mk]
  rw [← hS] at c0
  have hSs : S.size ≤ 100000000 := by rw [← length_un, hSx]; omega
  have cd := fun W => ref01_digits S W hSs
  have cn := fun W => r10_number S W hSs
  rw [hSx] at cn
  simp only [hSx] at cd
  unfold lastR at hpv
  have hx1 : x[1]? = if h : 1 < S.size then some (S[1]'h) else none := by
    rw [← hSx]
    split
    · rename_i h
      rw [List.getElem?_eq_getElem (by rw [length_un]; exact h)]
      rfl
    · exact List.getElem?_eq_none (by rw [length_un]; omega)
  clear hS hSx
  cases hd : digits x
  · rw [hd] at cd hpv
    have CD := Lib.hid cd; have CN := Lib.hid cn
    obtain ⟨m, hm2⟩ : ∃ m, m = numP x := ⟨_, rfl⟩
    rw [← hm2] at CN hpv
    obtain ⟨y, ok⟩ := m
    simp only at CN
    cases ok
    · have hend : Hid (R = false) := Lib.hid (by rw [hpv.out]; rfl)
      clear cd cn hpv hm2 hd hx1
      go_wp2_with fail
      refine (CD.out _).mono ?_; rintro e w2 ⟨rfl, rfl⟩
      go_wp2_with fail
      refine (CN.out _).mono ?_; rintro e w2 ⟨rfl, hb2⟩
      go_wp2_with fail
      go_ret
      rw [hend.out]
      exact ⟨rfl, hb.trans (hb2.mono hb.size)⟩
    · by_cases h2 : 1 < S.size
      · rw [dif_pos h2] at hx1
        have g1 : decide ((2 : Int) ≤ (S.size : Int)) = true := decide_eq_true (by omega)
        have hin : (1 : Int) < (S.size : Int) := by omega
        by_cases h120 : S[1]'h2 = 120
        · have hend : Hid (R = true) := Lib.hid (by rw [hpv.out, hx1, h120]; rfl)
          have g2 : (((S[1]'h2).toNat : Int) == 120) = true := by rw [h120]; rfl
          clear cd cn hpv hm2 hd hx1 h120
          go_wp2_with fail
          refine (CD.out _).mono ?_; rintro e w2 ⟨rfl, rfl⟩
          go_wp2_with fail
          refine (CN.out _).mono ?_; rintro e w2 ⟨rfl, hb2⟩
          go_wp2_with fail
          go_ret
          rw [hend.out]
          exact ⟨rfl, hb.trans (hb2.mono hb.size)⟩
        · have g2 : (((S[1]'h2).toNat : Int) == 120) = false := by rw [beq_eq_false_iff_ne]; intro e; exact h120 (UInt8.toNat_inj.1 (by have : (120 : UInt8).toNat = 120 := rfl; omega))
          by_cases h88 : S[1]'h2 = 88
          · have hend : Hid (R = true) := Lib.hid (by rw [hpv.out, hx1, h88]; rfl)
            have g3 : (((S[1]'h2).toNat : Int) == 88) = true := by rw [h88]; rfl
            clear cd cn hpv hm2 hd hx1 h88 h120
            go_wp2_with fail
            refine (CD.out _).mono ?_; rintro e w2 ⟨rfl, rfl⟩
            go_wp2_with fail
            refine (CN.out _).mono ?_; rintro e w2 ⟨rfl, hb2⟩
            go_wp2_with fail
            go_ret
            rw [hend.out]
            exact ⟨rfl, hb.trans (hb2.mono hb.size)⟩
          · have hend : Hid (R = false) := Lib.hid (by rw [hpv.out, hx1]; simp [h120, h88])
            have g3 : (((S[1]'h2).toNat : Int) == 88) = false := by rw [beq_eq_false_iff_ne]; intro e; exact h88 (UInt8.toNat_inj.1 (by have : (88 : UInt8).toNat = 88 := rfl; omega))
            clear cd cn hpv hm2 hd hx1 h88 h120
            go_wp2_with fail
            refine (CD.out _).mono ?_; rintro e w2 ⟨rfl, rfl⟩
            go_wp2_with fail
            refine (CN.out _).mono ?_; rintro e w2 ⟨rfl, hb2⟩
            go_wp2_with fail
            go_ret
            rw [hend.out]
            exact ⟨rfl, hb.trans (hb2.mono hb.size)⟩
      · rw [dif_neg h2] at hx1
        have hend : Hid (R = false) := Lib.hid (by rw [hpv.out, hx1]; rfl)
        have g1 : decide ((2 : Int) ≤ (S.size : Int)) = false := decide_eq_false (by omega)
        clear cd cn hpv hm2 hd hx1
        go_wp2_with fail
        refine (CD.out _).mono ?_; rintro e w2 ⟨rfl, rfl⟩
        go_wp2_with fail
        refine (CN.out _).mono ?_; rintro e w2 ⟨rfl, hb2⟩
        go_wp2_with fail
        go_ret
        rw [hend.out]
        exact ⟨rfl, hb.trans (hb2.mono hb.size)⟩
  · rw [hd] at cd hpv
    have hend : Hid (R = true) := Lib.hid (by rw [hpv.out]; rfl)
    have CD := Lib.hid cd
    clear cd cn hpv hd hx1
    go_wp2_with fail
    refine (CD.out _).mono ?_; rintro e w2 ⟨rfl, rfl⟩
    go_wp2_with fail
    go_ret
    rw [hend.out]
    exact ⟨rfl, hb⟩
end Go.Proofs.YtblcgicgbindlaaDoor
