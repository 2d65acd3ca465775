/- The walk of ParseNumbers of the reference of layer 10, its cases joined. Conditions: strings are of bounded length. -/
import Derived.Test.YtblcgicgbindlaaDoorIpv4O1
import Derived.Test.YtblcgicgbindlaaDoorIpv4O2
import Derived.Test.YtblcgicgbindlaaDoorIpv4O3
import Derived.Test.YtblcgicgbindlaaDoorIpv4O4
namespace Go.Proofs.YtblcgicgbindlaaDoor
open Go.RowKit Hs
set_option linter.unusedSimpArgs false
set_option linter.unusedVariables false

set_option maxHeartbeats 800000 in
theorem r10_numbers (s : ByteArray) (w : World) (hs : s.size ≤ 100000000) : Calls Tryd.prog 15 #[.string s] w fun e w' => e = .returned (.tuple #[.int .u32 (numsV (un s)).1, .bool (numsV (un s)).2]) ∧ Below w.heap.size w w' := by
  have hpos := partsD_pos (un s)
  by_cases h4 : (partsD (un s)).length ≤ 4
  · rcases (by omega : (partsD (un s)).length = 1 ∨ (partsD (un s)).length = 2 ∨ (partsD (un s)).length = 3 ∨ (partsD (un s)).length = 4) with h | h | h | h
    · exact r10_numbers1 s w hs h
    · exact r10_numbers2 s w hs h
    · exact r10_numbers3 s w hs h
    · exact r10_numbers4 s w hs h
  · have hend : Hid (numsV (un s) = (0, false)) := Lib.hid (by unfold numsV; rw [if_neg h4])
    have HS := Lib.hid (r10_parts s w hs)
    obtain ⟨L, hL⟩ : ∃ L, L = partsD (un s) := ⟨_, rfl⟩
    rw [← hL] at HS h4
    clear hL hpos
    go_enter Tryd.func15, Tryd.ntmps15
    go_wp2_with fail
    refine HS.out.mono ?_
    rintro e w1 ⟨v, rfl, hst, hb⟩
    clear HS
    obtain ⟨a, c, rfl, hn, hm, hc⟩ := hst.open
    unfold maxLen at hm
    clear hc hst
    obtain ⟨n, hn0⟩ : ∃ n, L.length = n := ⟨_, rfl⟩
    rw [hn0] at hn h4 ⊢
    have g1 : decide ((4 : Int) < (n : Int)) = true := decide_eq_true (by omega)
    clear hn0
    go_wp2_with fail
    all_goals (try (exfalso; omega))
    (try rw [Exit.noGoto_ret])
    go_ret2
    rw [hend.out]
    exact ⟨rfl, hb⟩
end Go.Proofs.YtblcgicgbindlaaDoor
