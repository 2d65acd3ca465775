/- The walk of the law Ipv4MatchesSpec (layer 10): it returns true; memory that existed is unchanged. Conditions: the library's tables stand. -/
import Derived.Test.YtblcgicgbindlaaDoorLaw10
import Derived.Test.YtblcgicgbindlaaDoorIpv4O
import Derived.Test.YtblcgicgbindlaaDoorIpv4T
import Derived.Test.YtblcgicgbindlaaDoorIpv4Q
namespace Go.Proofs.YtblcgicgbindlaaDoor
open Go.RowKit Hs
set_option linter.unusedSimpArgs false
set_option linter.unusedVariables false

set_option maxHeartbeats 4000000 in
theorem matches_walk10 (s : ByteArray) (v : Nat) (w : World) (hB : Base w) (hs : s.size ≤ maxLen) (hv : v < 4294967296) : Calls Tryd.prog 3 #[.string s, .int .u32 (v : Int)] w fun e w' => e = .returned (.bool true) ∧ Below w.heap.size w w' := by
  have AW := Lib.hid (fun W h => law10_awake W h)
  have HB := Lib.hid hB
  by_cases hlong : 600 < s.size
  · have h1 : decide ((600 : Int) < (s.size : Int)) = true := decide_eq_true (by omega)
    have h2 : (600 : Int) < (s.size : Int) := by omega
    clear hB hs
    go_enter Tryd.func3, Tryd.ntmps3
    go_wp2_with fail
    refine (AW.out _ HB.out).mono ?_; rintro e w2 ⟨rfl, hb2⟩
    go_wp2_with fail
    go_ret
    exact ⟨rfl, hb2⟩
  · have h1 : decide ((600 : Int) < (s.size : Int)) = false := decide_eq_false (by omega)
    have h2 : (s.size : Int) ≤ 600 := by omega
    have C1 := Lib.hid (i4_parse s w hB (by omega))
    have C2 := Lib.hid (fun W => r10_parse s W (by omega))
    have C3 := Lib.hid (fun W h => i4_numbers s W h (by omega))
    have C4 := Lib.hid (fun W => r10_numbers s W (by omega))
    have C5 := Lib.hid (fun W h => i4_numeric s W h (by omega))
    have C6 := Lib.hid (fun W => r10_numeric s W (by omega))
    have C7 := Lib.hid (fun W h => i4_format v W h hv)
    have C8 := Lib.hid (fun W => r10_format v W hv)
    obtain ⟨⟨a, ok⟩, hA⟩ : ∃ R, R = parseV (un s) := ⟨_, rfl⟩
    obtain ⟨⟨c, good⟩, hC⟩ : ∃ R, R = numsV (un s) := ⟨_, rfl⟩
    obtain ⟨n, hN⟩ : ∃ R, R = numericV (un s) := ⟨_, rfl⟩
    obtain ⟨F, hF⟩ : ∃ R, R = mk (fmtV v) := ⟨_, rfl⟩
    rw [← hA] at C1
    simp only [← hA] at C2
    simp only [← hC] at C3 C4
    simp only [← hN] at C5 C6
    simp only [← hF] at C7 C8
    clear hA hC hN hF hs hB
    go_enter Tryd.func3, Tryd.ntmps3
    go_wp2_with fail
    refine C1.out.mono ?_; rintro e w1 ⟨rfl, hb1⟩
    have B1 := HB.out.below hb1
    go_wp2_with fail
    refine (C2.out _).mono ?_; rintro e w2 ⟨rfl, hx⟩
    have B2 := B1.below hx
    have hb2 := hb1.trans (hx.mono hb1.size)
    clear hx hb1 B1
    go_wp2_with fail
    refine (C3.out _ B2).mono ?_; rintro e w3 ⟨rfl, hx⟩
    have B3 := B2.below hx
    have hb3 := hb2.trans (hx.mono hb2.size)
    clear hx hb2 B2
    go_wp2_with fail
    refine (C4.out _).mono ?_; rintro e w4 ⟨rfl, hx⟩
    have B4 := B3.below hx
    have hb4 := hb3.trans (hx.mono hb3.size)
    clear hx hb3 B3
    go_wp2_with fail
    refine (C5.out _ B4).mono ?_; rintro e w5 ⟨rfl, hx⟩
    have B5 := B4.below hx
    have hb5 := hb4.trans (hx.mono hb4.size)
    clear hx hb4 B4
    go_wp2_with fail
    refine (C6.out _).mono ?_; rintro e w6 ⟨rfl, hx⟩
    have B6 := B5.below hx
    have hb6 := hb5.trans (hx.mono hb5.size)
    clear hx hb5 B5
    go_wp2_with fail
    refine (C7.out _ B6).mono ?_; rintro e w7 ⟨rfl, hx⟩
    have B7 := B6.below hx
    have hb7 := hb6.trans (hx.mono hb6.size)
    clear hx hb6 B6
    go_wp2_with fail
    refine (C8.out _).mono ?_; rintro e w8 ⟨rfl, hx⟩
    have B8 := B7.below hx
    have hb8 := hb7.trans (hx.mono hb7.size)
    clear hx hb7 B7
    go_wp2_with fail
    refine (AW.out _ B8).mono ?_; rintro e w9 ⟨rfl, hx⟩
    go_wp2_with fail
    go_ret
    exact ⟨rfl, hb8.trans (hx.mono hb8.size)⟩
end Go.Proofs.YtblcgicgbindlaaDoor
