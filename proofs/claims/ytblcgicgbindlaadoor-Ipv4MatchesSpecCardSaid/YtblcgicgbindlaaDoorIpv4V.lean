/- The walk of number of the reference of layer 10, its cases joined. Conditions: strings are of bounded length. -/
import Derived.Test.YtblcgicgbindlaaDoorIpv4U
namespace Go.Proofs.YtblcgicgbindlaaDoor
open Go.RowKit Hs
set_option linter.unusedSimpArgs false
set_option linter.unusedVariables false

theorem r10_number (s : ByteArray) (w : World) (hs : s.size ≤ 100000000) : Calls Tryd.prog 37 #[.string s] w fun e w' => e = .returned (.tuple #[.int .i64 (numP (un s)).1, .bool (numP (un s)).2]) ∧ Below w.heap.size w w' := by
  by_cases h0 : s.size = 0
  · have hun : un s = [] := List.eq_nil_of_length_eq_zero (by rw [length_un]; exact h0)
    have h1 : s.toList.isEmpty = true := by rw [toList_un, hun]; rfl
    have ep : numP (un s) = (0, false) := by rw [hun]; rfl
    rw [ep]
    clear hun ep
    go_enter Tryd.func37, Tryd.ntmps37
    go_wp2
    go_ret2
    exact ⟨rfl, Below.refl _ _⟩
  · by_cases h1 : s.size = 1
    · exact r10_number_one s w hs h1
    · have h2 : 2 ≤ s.size := by omega
      by_cases a : s[0]'(by omega) = 48
      · by_cases b : s[1]'(by omega) = 120
        · exact r10_number_hexx s w hs h2 a b
        · by_cases c : s[1]'(by omega) = 88
          · exact r10_number_hexX s w hs h2 a c
          · exact r10_number_oct s w hs h2 a b c
      · exact r10_number_ten s w hs h2 a
end Go.Proofs.YtblcgicgbindlaaDoor
