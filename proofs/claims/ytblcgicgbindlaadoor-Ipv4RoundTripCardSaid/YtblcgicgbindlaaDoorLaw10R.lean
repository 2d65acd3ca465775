/- The walk of the law Ipv4RoundTrip (layer 10): it returns true; memory that existed is unchanged. Conditions: the library's tables stand. -/
import Derived.Test.YtblcgicgbindlaaDoorLaw10
import Derived.Test.YtblcgicgbindlaaDoorPlainIpv4Q
namespace Go.Proofs.YtblcgicgbindlaaDoor
open Go.RowKit Hs
set_option linter.unusedSimpArgs false
set_option linter.unusedVariables false

set_option maxHeartbeats 4000000 in
theorem roundTrip_walk10 (v : Nat) (s : ByteArray) (w : World) (hB : Base w) (hv : v < 4294967296) : Calls Tryd.prog 4 #[.int .u32 (v : Int), .string s] w fun e w' => e = .returned (.bool true) ∧ Below w.heap.size w w' := by
  have AW := Lib.hid (fun W h => law10_awake W h)
  have HB := Lib.hid hB
  by_cases hlong : 600 < s.size
  · have h1 : decide ((600 : Int) < (s.size : Int)) = true := decide_eq_true (by omega)
    have h2 : (600 : Int) < (s.size : Int) := by omega
    clear hB
    go_enter Tryd.func4, Tryd.ntmps4
    go_wp2_with fail
    refine (AW.out _ HB.out).mono ?_; rintro e w2 ⟨rfl, hb2⟩
    go_wp2_with fail
    go_ret
    exact ⟨rfl, hb2⟩
  · have h1 : decide ((600 : Int) < (s.size : Int)) = false := decide_eq_false (by omega)
    have h2 : (s.size : Int) ≤ 600 := by omega
    obtain ⟨T, hT⟩ : ∃ T, T = mk (fmtV v) := ⟨_, rfl⟩
    have hTu : un T = fmtV v := by rw [hT, un_mk]
    have hTl : T.size ≤ 44 := by rw [← length_un, hTu]; exact fmtV_len v
    have HF := Lib.hid (i4_format v w hB hv)
    rw [← hT] at HF
    have c1 := fun W h => i4_parse T W h (by omega)
    have c2 := fun W h => i4_numbers T W h (by omega)
    have c3 := fun W h => i4_numeric T W h (by omega)
    have c4 := fun W h => i4_numeric (T ++ ⟨#[46]⟩) W h (by have : (⟨#[46]⟩ : ByteArray).size = 1 := rfl; rw [ByteArray.size_append]; omega)
    have e4 : un (T ++ ⟨#[46]⟩) = fmtV v ++ [46] := by rw [un_append, hTu]; rfl
    simp only [hTu, parse_fmt v hv] at c1
    simp only [hTu, nums_fmt v hv] at c2
    simp only [hTu, numeric_fmt v] at c3
    simp only [e4, numeric_fmt_dot v] at c4
    have C1 := Lib.hid c1; have C2 := Lib.hid c2; have C3 := Lib.hid c3; have C4 := Lib.hid c4
    have C5 := Lib.hid (fun W h => i4_parse s W h (by omega))
    have C6 := Lib.hid (fun W h => i4_numeric s W h (by omega))
    have hback := fun c => parse_back (un s) c
    obtain ⟨R, hR⟩ : ∃ R, R = parseV (un s) := ⟨_, rfl⟩
    rw [← hR] at C5
    simp only [← hR] at hback
    clear c1 c2 c3 c4 hB hlong e4 hTu hT hR
    obtain ⟨c, good⟩ := R
    simp only at C5
    cases good
    · clear hback
      go_enter Tryd.func4, Tryd.ntmps4
      go_wp2_with fail
      refine HF.out.mono ?_; rintro e w1 ⟨rfl, hb1⟩
      have B1 := HB.out.below hb1
      go_wp2_with fail
      refine (C1.out _ B1).mono ?_; rintro e w2 ⟨rfl, hx⟩
      have B2 := B1.below hx
      have hb2 := hb1.trans (hx.mono hb1.size)
      clear hx hb1 B1
      go_wp2_with fail
      refine (C2.out _ B2).mono ?_; rintro e w3 ⟨rfl, hx⟩
      have B3 := B2.below hx
      have hb3 := hb2.trans (hx.mono hb2.size)
      clear hx hb2 B2
      go_wp2_with fail
      refine (C5.out _ B3).mono ?_; rintro e w4 ⟨rfl, hx⟩
      have B4 := B3.below hx
      have hb4 := hb3.trans (hx.mono hb3.size)
      clear hx hb3 B3
      go_wp2_with fail
      refine (C3.out _ B4).mono ?_; rintro e w5 ⟨rfl, hx⟩
      have B5 := B4.below hx
      have hb5 := hb4.trans (hx.mono hb4.size)
      clear hx hb4 B4
      go_wp2_with fail
      refine (C4.out _ B5).mono ?_; rintro e w6 ⟨rfl, hx⟩
      have B6 := B5.below hx
      have hb6 := hb5.trans (hx.mono hb5.size)
      clear hx hb5 B5
      go_wp2_with fail
      refine (AW.out _ B6).mono ?_; rintro e w7 ⟨rfl, hx⟩
      go_wp2_with fail
      go_ret
      exact ⟨rfl, hb6.trans (hx.mono hb6.size)⟩
    · obtain ⟨hc, hfm, hnu⟩ := hback c rfl
      have HG := Lib.hid (fun W h => i4_format c W h hc)
      rw [hfm, mk_un] at HG
      rw [hnu] at C6
      clear hback hfm hnu
      go_enter Tryd.func4, Tryd.ntmps4
      go_wp2_with fail
      refine HF.out.mono ?_; rintro e w1 ⟨rfl, hb1⟩
      have B1 := HB.out.below hb1
      go_wp2_with fail
      refine (C1.out _ B1).mono ?_; rintro e w2 ⟨rfl, hx⟩
      have B2 := B1.below hx
      have hb2 := hb1.trans (hx.mono hb1.size)
      clear hx hb1 B1
      go_wp2_with fail
      refine (C2.out _ B2).mono ?_; rintro e w3 ⟨rfl, hx⟩
      have B3 := B2.below hx
      have hb3 := hb2.trans (hx.mono hb2.size)
      clear hx hb2 B2
      go_wp2_with fail
      refine (C5.out _ B3).mono ?_; rintro e w4 ⟨rfl, hx⟩
      have B4 := B3.below hx
      have hb4 := hb3.trans (hx.mono hb3.size)
      clear hx hb3 B3
      go_wp2_with fail
      refine (HG.out _ B4).mono ?_; rintro e w5 ⟨rfl, hx⟩
      have B5 := B4.below hx
      have hb5 := hb4.trans (hx.mono hb4.size)
      clear hx hb4 B4
      go_wp2_with fail
      refine (C6.out _ B5).mono ?_; rintro e w6 ⟨rfl, hx⟩
      have B6 := B5.below hx
      have hb6 := hb5.trans (hx.mono hb5.size)
      clear hx hb5 B5
      go_wp2_with fail
      refine (C3.out _ B6).mono ?_; rintro e w7 ⟨rfl, hx⟩
      have B7 := B6.below hx
      have hb7 := hb6.trans (hx.mono hb6.size)
      clear hx hb6 B6
      go_wp2_with fail
      refine (C4.out _ B7).mono ?_; rintro e w8 ⟨rfl, hx⟩
      have B8 := B7.below hx
      have hb8 := hb7.trans (hx.mono hb7.size)
      clear hx hb7 B7
      go_wp2_with fail
      refine (AW.out _ B8).mono ?_; rintro e w9 ⟨rfl, hx⟩
      go_wp2_with fail
      go_ret
      exact ⟨rfl, hb8.trans (hx.mono hb8.size)⟩
end Go.Proofs.YtblcgicgbindlaaDoor
