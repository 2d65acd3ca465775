/- The walk of the law CspMatchesSpec (layer 20): it returns true; memory that existed is unchanged. Conditions: none. -/
import Derived.Test.YtimfngfimnapoaaDoorCspRP
import Derived.Test.YtimfngfimnapoaaDoorLaw20J
namespace Go.Proofs.YtimfngfimnapoaaDoor
open Go.RowKit Hs
set_option linter.unusedSimpArgs false
set_option linter.unusedVariables false

set_option maxHeartbeats 4000000 in
theorem matches_walk20 (s : ByteArray) (v : Value) (l : List Bs) (w : World) (hs : s.size ≤ maxLen) (hv : Strs w v l) (hl : ∀ x ∈ l, x.length ≤ maxLen) : Calls Tryd.prog 3 #[.string s, v] w fun e w' => e = .returned (.bool true) ∧ Below w.heap.size w w' := by
  have AW := Lib.hid (fun W => law20_awake W)
  have hsm := l20_small v l w hv hl
  obtain ⟨a, cap, rfl, hn, hm, hc⟩ := hv.open
  unfold maxLen at hm
  have HV := Lib.hid hv
  have HL := Lib.hid hl
  by_cases hlong : 4500 < s.size
  · have hlong' : (4500 : Int) < (s.size : Int) := by omega
    have hlong2 : decide (4500 < s.size) = true := by simp; omega
    clear hlong hsm hv hl hc
    go_enter Tryd.func3, Tryd.ntmps3
    go_wp2_with fail
    refine (AW.out _).mono ?_; rintro e w2 ⟨rfl, hb2⟩
    go_wp2_with fail
    go_ret
    exact ⟨rfl, hb2⟩
  · have hlong' : ((s.size : Int) ≤ 4500) := by omega
    have hlong2 : decide (4500 < s.size) = false := by simp; omega
    have hlong3 : decide ((4500 : Int) < (s.size : Int)) = false := by simp; omega
    have hlong4 : ¬ ((4500 : Int) < (s.size : Int)) := by omega
    have HP := Lib.hid (parse_flags s w hs)
    have HR := Lib.hid (fun W => r20_parse s W hs)
    cases hb : smallV l
    · rw [hb] at hsm
      have HSM := Lib.hid hsm
      clear hsm hb hv hl hc
      go_enter Tryd.func3, Tryd.ntmps3
      go_wp2_with fail
      refine HSM.out.mono ?_; rintro e w' ⟨rfl, rfl⟩
      go_wp2_with fail
      refine (AW.out _).mono ?_; rintro e w2 ⟨rfl, hb2⟩
      go_wp2_with fail
      go_ret
      exact ⟨rfl, hb2⟩
    · rw [hb] at hsm
      have HSM := Lib.hid hsm
      obtain ⟨hl12, hsz⟩ := smallV_yes l hb
      have HM := Lib.hid (fun W h => merge_flags (.slice a l.length cap) l W h (by omega) hl)
      have HN := Lib.hid (fun W h => r20_mergeS (.slice a l.length cap) l W h (by omega) hl)
      obtain ⟨P, hP⟩ : ∃ P, P = cspM [un s] := ⟨_, rfl⟩
      rw [← hP] at HP HR
      obtain ⟨Q, hQ⟩ : ∃ Q, Q = cspM l := ⟨_, rfl⟩
      rw [← hQ] at HM HN
      clear hsm hb hv hl hc hsz hl12 hP hQ
      obtain ⟨N, c⟩ := P
      obtain ⟨O, d⟩ := Q
      go_enter Tryd.func3, Tryd.ntmps3
      go_wp2_with fail
      refine HSM.out.mono ?_; rintro e w' ⟨rfl, rfl⟩
      go_wp2_with fail
      refine HP.out.mono ?_; rintro e w1 ⟨u1, b1, b2, rfl, h1, h2, h3, h4⟩
      have HB1 := Lib.hid h1
      have HB2 := Lib.hid h2
      clear h1 h2
      obtain ⟨a1, c1, rfl, _⟩ := h3.open
      have r1 := Blk3.new w1 26 (.bool b1) (.bool b2) (.slice a1 N.length c1)
      have D1 := (Below.refl _ w1).alloc (Nat.le_refl _) (.cells #[.bool b1, .bool b2, .slice a1 N.length c1] 26)
      have B1 := h4.trans (D1.mono h4.size)
      have hN1 := h3.below D1
      clear h3 h4 D1
      go_wp2_with fail
      refine (HR.out _).mono ?_; rintro e w2 ⟨u2, b3, b4, rfl, h1, h2, h3, h4⟩
      obtain rfl : b3 = b1 := h1.trans HB1.out.symm
      obtain rfl : b4 = b2 := h2.trans HB2.out.symm
      obtain ⟨a2, c2, rfl, _⟩ := h3.open
      have r2 := (r1.below h4).alloc (.cells #[.bool b3, .bool b4, .slice a2 N.length c2] 26)
      have s2 := Blk3.new w2 26 (.bool b3) (.bool b4) (.slice a2 N.length c2)
      have B2 := B1.trans (h4.mono B1.size)
      have D2 := (Below.refl _ w2).alloc (Nat.le_refl _) (.cells #[.bool b3, .bool b4, .slice a2 N.length c2] 26)
      have B3 := B2.trans (D2.mono B2.size)
      have hN2 := (hN1.below h4).below D2
      have hN3 := h3.below D2
      clear h1 h2 h3 h4 HB1 HB2 r1 hN1 B1 B2 D2
      go_wp2_with fail
      refine (HM.out _ (HV.out.below B3)).mono ?_; rintro e w3 ⟨u3, b5, b6, rfl, h1, h2, h3, h4⟩
      have HB1 := Lib.hid h1
      have HB2 := Lib.hid h2
      obtain ⟨a3, c3, rfl, _⟩ := h3.open
      have D3 := h4.trans (((Below.refl _ w3).alloc (Nat.le_refl _) (.cells #[.bool b5, .bool b6, .slice a3 O.length c3] 26)).mono h4.size)
      have r3 := r2.below D3
      have s3 := s2.below (D3.mono (by simp))
      have t3 := Blk3.new w3 26 (.bool b5) (.bool b6) (.slice a3 O.length c3)
      have B4 := B3.trans (D3.mono B3.size)
      have hN4 := hN2.below D3
      have hN5 := hN3.below D3
      have hO1 := h3.below ((Below.refl _ w3).alloc (Nat.le_refl _) (.cells #[.bool b5, .bool b6, .slice a3 O.length c3] 26))
      clear h1 h2 h3 h4 r2 s2 hN2 hN3 B3 D3
      go_wp2_with fail
      refine (HN.out _ (HV.out.below B4)).mono ?_; rintro e w4 ⟨u4, b7, b8, rfl, h1, h2, h3, h4⟩
      obtain rfl : b7 = b5 := h1.trans HB1.out.symm
      obtain rfl : b8 = b6 := h2.trans HB2.out.symm
      obtain ⟨a4, c4, rfl, _⟩ := h3.open
      have D4 := h4.trans (((Below.refl _ w4).alloc (Nat.le_refl _) (.cells #[.bool b7, .bool b8, .slice a4 O.length c4] 26)).mono h4.size)
      have E4 := (Below.refl _ w4).alloc (Nat.le_refl _) (.cells #[.bool b7, .bool b8, .slice a4 O.length c4] 26)
      have r4 := r3.below D4
      have s4 := s3.below D4
      have t4 := t3.below D4
      have v4 := Blk3.new w4 26 (.bool b7) (.bool b8) (.slice a4 O.length c4)
      have B5 := B4.trans (D4.mono B4.size)
      have hN6 := hN4.below D4
      have hN7 := hN5.below D4
      have hO2 := hO1.below D4
      have hO3 := h3.below E4
      clear h1 h2 h3 h4 r3 s3 t3 hN4 hN5 hO1 B4 D4 E4 HB1 HB2
      have z0 := r4.c0; have z1 := r4.c1; have z2 := r4.c2; have y0 := s4.c0; have y1 := s4.c1; have y2 := s4.c2
      have HK := Lib.hid (keep_csps b3 b4 _ _ N _ hN6 hN7)
      have HK2 := Lib.hid (fun W h h2 => keep_csps b7 b8 (.slice a3 O.length c3) (.slice a4 O.length c4) O W h h2)
      go_wp2_with fail
      refine HK.out.mono ?_; rintro e w5 ⟨rfl, hb5⟩
      have t5 := t4.below hb5
      have v5 := v4.below hb5
      have x0 := t5.c0; have x1 := t5.c1; have x2 := t5.c2; have k0 := v5.c0; have k1 := v5.c1; have k2 := v5.c2
      have hO4 := hO2.below hb5
      have hO5 := hO3.below hb5
      have B6 := B5.trans (hb5.mono B5.size)
      clear z0 z1 z2 y0 y1 y2 hN6 hN7 HK r4 s4 t4 v4 hO2 hO3 B5 hb5
      go_wp2_with fail
      refine (HK2.out _ hO4 hO5).mono ?_; rintro e w6 ⟨rfl, hb6⟩
      have B7 := B6.trans (hb6.mono B6.size)
      clear x0 x1 x2 k0 k1 k2 t5 v5 hO4 hO5 B6 hb6
      go_wp2_with fail
      refine (AW.out _).mono ?_; rintro e w7 ⟨rfl, hb7⟩
      go_wp2_with fail
      go_ret
      exact ⟨rfl, B7.trans (hb7.mono B7.size)⟩
end Go.Proofs.YtimfngfimnapoaaDoor
