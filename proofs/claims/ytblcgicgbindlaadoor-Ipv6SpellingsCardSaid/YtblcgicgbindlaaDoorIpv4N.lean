/- The walk of number of ipv4. Conditions: strings are of bounded length. -/
import Derived.Test.YtblcgicgbindlaaDoorIpv4
import Derived.Test.YtblcgicgbindlaaDoorIpv4E
namespace Go.Proofs.YtblcgicgbindlaaDoor
open Go.RowKit Hs
set_option linter.unusedSimpArgs false
set_option linter.unusedVariables false

theorem un_tail (s : ByteArray) (k : Nat) : un (s.extract k s.size) = (un s).drop k := by
  rw [un_extract, List.take_of_length_le (by rw [List.length_drop, length_un]; omega)]
set_option maxHeartbeats 800000 in
theorem i4_number (s : ByteArray) (w : World) (hs : s.size ≤ 100000000) : Calls Tryd.prog 35 #[.string s] w fun e w' => e = .returned (.tuple #[.int .i64 (numP (un s)).1, .bool (numP (un s)).2]) ∧ w = w' := by
  have c16 := fun w => i4_digits16 (s.extract 2 s.size) w (by rw [ByteArray.size_extract]; omega)
  have c8 := fun w => i4_digits8 (s.extract 1 s.size) w (by rw [ByteArray.size_extract]; omega)
  have c10 := fun w => i4_digits10 s w hs
  have ch := fun w => i4_hex s w hs
  simp only [un_tail] at c16 c8
  have hlen : s.size = (un s).length := (length_un s).symm
  cases he : (un s).isEmpty
  · have h1 : s.toList.isEmpty = false := by rw [toList_un]; exact he
    have hne : un s ≠ [] := fun e => by rw [e] at he; cases he
    have hpos : 0 < s.size := by rw [hlen]; exact List.length_pos_iff.2 hne
    cases hx : hexP (un s)
    · rw [hx] at ch
      by_cases h8 : 1 < s.size ∧ (un s)[0]? = some 48
      · have ep : numP (un s) = numB 8 ((un s).drop 1) := by
          unfold numP; rw [if_neg hne, hx, if_neg (by decide), if_pos (by rw [← hlen]; exact h8)]
        rw [ep]
        have h0 : (s[0]'hpos).toNat = 48 := by
          have := h8.2
          rw [List.getElem?_eq_getElem (by rw [← hlen]; exact hpos)] at this
          have h := Option.some.inj this
          show ((un s)[0]'(by rw [← hlen]; exact hpos)).toNat = 48
          rw [h]; rfl
        have hgt := h8.1
        have C8 := Lib.hid c8; have CH := Lib.hid ch
        clear c16 c8 c10 ch he hne hx h8 ep hlen
        go_enter Tryd.func35, Tryd.ntmps35
        go_wp2_with fail
        refine (CH.out _).mono ?_; rintro e w1 ⟨rfl, rfl⟩
        go_wp2_with fail
        all_goals (try (exfalso; omega))
        refine (C8.out _).mono ?_; rintro e w1 ⟨rfl, rfl⟩
        go_wp2_with fail
        go_ret2
        exact ⟨by rw [List.drop_one]; rfl, rfl⟩
      · have ep : numP (un s) = numB 10 (un s) := by
          unfold numP; rw [if_neg hne, hx, if_neg (by decide), if_neg (by rw [← hlen]; exact h8)]
        rw [ep]
        have h0 : 1 < s.size → (s[0]'hpos).toNat ≠ 48 := by
          intro hgt h
          refine h8 ⟨hgt, ?_⟩
          rw [List.getElem?_eq_getElem (by rw [← hlen]; exact hpos)]
          congr 1
          exact UInt8.toNat_inj.1 h
        have C10 := Lib.hid c10; have CH := Lib.hid ch
        clear c16 c8 c10 ch he hne hx h8 ep hlen
        by_cases hgt : 1 < s.size
        · have h0' := h0 hgt
          clear h0
          go_enter Tryd.func35, Tryd.ntmps35
          go_wp2_with fail
          refine (CH.out _).mono ?_; rintro e w1 ⟨rfl, rfl⟩
          go_wp2_with fail
          all_goals (try (exfalso; omega))
          refine (C10.out _).mono ?_; rintro e w1 ⟨rfl, rfl⟩
          go_wp2_with fail
          go_ret2
          exact ⟨rfl, rfl⟩
        · clear h0
          go_enter Tryd.func35, Tryd.ntmps35
          go_wp2_with fail
          refine (CH.out _).mono ?_; rintro e w1 ⟨rfl, rfl⟩
          go_wp2_with fail
          refine (C10.out _).mono ?_; rintro e w1 ⟨rfl, rfl⟩
          go_wp2_with fail
          go_ret2
          exact ⟨rfl, rfl⟩
    · rw [hx] at ch
      have ep : numP (un s) = numB 16 ((un s).drop 2) := by
        unfold numP; rw [if_neg hne, hx, if_pos rfl]
      rw [ep]
      have hgt : 2 ≤ s.size := by
        rw [hlen]
        match h : un s, hx with
        | a :: b :: r, _ => simp
      have C16 := Lib.hid c16; have CH := Lib.hid ch
      clear c16 c8 c10 ch he hne hx ep hlen
      go_enter Tryd.func35, Tryd.ntmps35
      go_wp2_with fail
      refine (CH.out _).mono ?_; rintro e w1 ⟨rfl, rfl⟩
      go_wp2_with fail
      refine (C16.out _).mono ?_; rintro e w1 ⟨rfl, rfl⟩
      go_wp2_with fail
      go_ret2
      exact ⟨rfl, rfl⟩
  · have h1 : s.toList.isEmpty = true := by rw [toList_un]; exact he
    have ep : numP (un s) = (0, false) := by unfold numP; rw [if_pos (by simpa using he)]
    rw [ep]
    clear c16 c8 c10 ch ep hlen he
    go_enter Tryd.func35, Tryd.ntmps35
    go_wp2
    go_ret2
    exact ⟨rfl, rfl⟩
end Go.Proofs.YtblcgicgbindlaaDoor
