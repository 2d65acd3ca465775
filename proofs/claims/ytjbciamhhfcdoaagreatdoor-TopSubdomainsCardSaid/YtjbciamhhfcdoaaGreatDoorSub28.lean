/- The walk of Numeric of ipv4. Conditions: strings are of bounded length; the library's tables stand. -/
import Derived.Test.YtjbciamhhfcdoaaGreatDoorSub16
namespace Go.Proofs.YtjbciamhhfcdoaaGreatDoor
open Go.RowKit Hs
set_option linter.unusedSimpArgs false
set_option linter.unusedVariables false

set_option maxHeartbeats 800000 in
theorem i4_numeric (s : ByteArray) (w : World) (hB : Base w) (hs : s.size ≤ 100000000) : Calls Tryz.prog 80 #[.string s] w fun e w' => e = .returned (.bool (numericV (un s))) ∧ Below w.heap.size w w' := by
  have HS := Lib.hid (i4_parts s w hB hs)
  have hlen := partsD_len (un s)
  have hpos := partsD_pos (un s)
  have hpv : Hid (numericV (un s) = let p := ((partsD (un s)).getLast?).getD []; if hexP p then (numP p).2 else (numB 10 p).2 && !p.isEmpty) := Lib.hid rfl
  obtain ⟨R, hR⟩ : ∃ R, R = numericV (un s) := ⟨_, rfl⟩
  rw [← hR] at hpv ⊢
  clear hR
  obtain ⟨L, hL⟩ : ∃ L, L = partsD (un s) := ⟨_, rfl⟩
  rw [← hL] at hpv HS hlen hpos
  clear hL
  rw [length_un] at hlen
  obtain ⟨n, hn0⟩ : ∃ n, L.length = n + 1 := ⟨L.length - 1, by omega⟩
  have hxl := hlen (L[n]'(by omega)) (List.getElem_mem _)
  have hlast : Hid (L.getLast? = some (L[n]'(by omega))) := Lib.hid (by rw [List.getLast?_eq_getElem?]; simp only [hn0, Nat.add_sub_cancel]; exact List.getElem?_eq_getElem _)
  have HN := Lib.hid hn0
  clear hlen hpos
  go_enter Tryz.func80, Tryz.ntmps80
  go_wp2_with fail
  refine HS.out.mono ?_
  rintro e w1 ⟨v, rfl, hst, hb⟩
  clear HS
  obtain ⟨a, c, rfl, hn, hm, hc⟩ := hst.open
  unfold maxLen at hm
  obtain ⟨b, off, rfl, hb1, hcell⟩ := hc (by rw [HN.out]; omega)
  have c0 := hcell n (by rw [HN.out]; omega)
  rw [HN.out] at hn ⊢
  obtain ⟨x, hx⟩ : ∃ x, x = L[n]'(by rw [HN.out]; omega) := ⟨_, rfl⟩
  rw [← hx] at c0 hxl hlast
  rw [hlast.out] at hpv
  simp only [Option.getD_some] at hpv
  clear hcell hc hst hx hn0 hlast HN
  have ch := fun W => i4_hex (mk x) W (by rw [size_mk]; omega)
  have cn := fun W => i4_number (mk x) W (by rw [size_mk]; omega)
  have cd := fun W => i4_digits10 (mk x) W (by rw [size_mk]; omega)
  simp only [un_mk] at ch cn cd
  cases hh : hexP x
  · rw [hh] at ch hpv
    have CH := Lib.hid ch; have CD := Lib.hid cd
    obtain ⟨m, hm2⟩ : ∃ m, m = numB 10 x := ⟨_, rfl⟩
    rw [← hm2] at CD hpv
    obtain ⟨y, ok⟩ := m
    simp only at CD
    cases ok
    · have hend : Hid (R = false) := Lib.hid (by rw [hpv.out]; rfl)
      clear ch cn cd hpv hm2 hh
      go_wp2_with fail
      refine (CH.out _).mono ?_; rintro e w2 ⟨rfl, rfl⟩
      go_wp2_with fail
      refine (CD.out _).mono ?_; rintro e w2 ⟨rfl, rfl⟩
      go_wp2_with fail
      go_ret
      rw [hend.out]
      exact ⟨rfl, hb⟩
    · cases hx0 : x.isEmpty
      · have hend : Hid (R = true) := Lib.hid (by rw [hpv.out, hx0]; rfl)
        have e1 : (mk x).toList.isEmpty = false := by rw [toList_un, un_mk]; exact hx0
        clear ch cn cd hpv hm2 hh hx0
        go_wp2_with fail
        refine (CH.out _).mono ?_; rintro e w2 ⟨rfl, rfl⟩
        go_wp2_with fail
        refine (CD.out _).mono ?_; rintro e w2 ⟨rfl, rfl⟩
        go_wp2_with fail
        go_ret
        rw [hend.out]
        exact ⟨rfl, hb⟩
      · have hend : Hid (R = false) := Lib.hid (by rw [hpv.out, hx0]; rfl)
        have e1 : (mk x).toList.isEmpty = true := by rw [toList_un, un_mk]; exact hx0
        clear ch cn cd hpv hm2 hh hx0
        go_wp2_with fail
        refine (CH.out _).mono ?_; rintro e w2 ⟨rfl, rfl⟩
        go_wp2_with fail
        refine (CD.out _).mono ?_; rintro e w2 ⟨rfl, rfl⟩
        go_wp2_with fail
        go_ret
        rw [hend.out]
        exact ⟨rfl, hb⟩
  · rw [hh] at ch hpv
    have CH := Lib.hid ch; have CN := Lib.hid cn
    have hend : Hid (R = (numP x).2) := Lib.hid (by rw [hpv.out]; rfl)
    clear ch cn cd hpv hh
    go_wp2_with fail
    refine (CH.out _).mono ?_; rintro e w2 ⟨rfl, rfl⟩
    go_wp2_with fail
    refine (CN.out _).mono ?_; rintro e w2 ⟨rfl, rfl⟩
    go_wp2_with fail
    go_ret
    rw [hend.out]
    exact ⟨rfl, hb⟩
end Go.Proofs.YtjbciamhhfcdoaaGreatDoor
