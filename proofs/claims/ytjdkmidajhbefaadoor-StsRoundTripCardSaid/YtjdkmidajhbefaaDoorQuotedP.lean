/- The walks of the layer quoted (program and reference): they return the plain functions' answers. Conditions: strings are of bounded length. -/
import Derived.Test.YtjdkmidajhbefaaDoorQuoted
import Derived.WalkMore
import Derived.Test.YtjdkmidajhbefaaDoorBuilder
namespace Go.Proofs.YtjdkmidajhbefaaDoor
open Go.RowKit Hs
set_option linter.unusedSimpArgs false
set_option linter.unusedVariables false


theorem q_parse_range (s : ByteArray) (i : Int) (w : World) (hs : s.size ≤ 100000000) (hi : i < 0 ∨ (s.size : Int) < i) : Calls Tryd.prog 25 #[.string s, .int .i64 i] w fun e w' => e = .returned (qval (parseQ (un s) i)) ∧ Below w.heap.size w w' := by
  have hr : Hid (parseQ (un s) i = ⟨[], 0, 2⟩) := if_pos (by rw [length_un]; exact hi)
  rcases hi with hi | hi
  all_goals
    go_enter Tryd.func25, Tryd.ntmps25
    go_wp2
    go_step3
    go_wp2
    all_goals (try (exfalso; omega))
    (try rw [Exit.noGoto_ret])
    go_ret3
    exact ⟨by rw [hr.out]; rfl, Below.refl _ _⟩
theorem q_parse_not (s : ByteArray) (i : Nat) (w : World) (hs : s.size ≤ 100000000) (hi : i ≤ s.size) (hq : ∀ h : i < s.size, (s[i]'h).toNat ≠ 34) : Calls Tryd.prog 25 #[.string s, .int .i64 i] w fun e w' => e = .returned (qval (parseQ (un s) i)) ∧ Below w.heap.size w w' := by
  have hr : Hid (parseQ (un s) i = ⟨[], 0, 4⟩) := parseQ_not _ _ (by rw [length_un]; exact hi) (fun h => hq (by rw [length_un] at h; exact h))
  by_cases he : i < s.size
  · have hn := hq he
    have hn' : ((s[i]'he).toNat : Int) ≠ 34 := by omega
    clear hq hn
    go_enter Tryd.func25, Tryd.ntmps25
    go_wp2
    go_step3
    go_wp2
    all_goals (try (exfalso; omega))
    (try rw [Exit.noGoto_ret])
    go_ret3
    exact ⟨by rw [hr.out]; rfl, Below.refl _ _⟩
  · clear hq
    obtain rfl : i = s.size := by omega
    go_enter Tryd.func25, Tryd.ntmps25
    go_wp2
    go_step3
    go_wp2
    all_goals (try (exfalso; omega))
    (try rw [Exit.noGoto_ret])
    go_ret3
    exact ⟨by rw [hr.out]; rfl, Below.refl _ _⟩

set_option maxHeartbeats 4000000 in
theorem q_parse_quote (s : ByteArray) (i : Nat) (w : World) (hs : s.size ≤ 100000000) (hi : i < s.size) (hq : (s[i]'hi).toNat = 34) : Calls Tryd.prog 25 #[.string s, .int .i64 i] w fun e w' => e = .returned (qval (parseQ (un s) i)) ∧ Below w.heap.size w w' := by
  have hr := parseQ_start (un s) i (by rw [length_un]; exact hi) hq
  obtain ⟨R, hR⟩ : ∃ R, R = parseQ (un s) i := ⟨_, rfl⟩
  rw [← hR] at hr ⊢
  have HR := Lib.hid hr.symm
  have hq' : (((s[i]'hi).toNat : Int) != 34) = false := by simp; omega
  clear hr hR hq
  go_enter Tryd.func25, Tryd.ntmps25
  go_wp2
  go_step3
  go_wp2
  all_goals (try (exfalso; omega))
  go_step3
  go_wp2
  go_loopw [8, 9] (fun ev kv wr => ∃ (k : Nat) (acc : Bs) (esc : Bool), ev = .bool esc ∧ kv = .int .i64 k ∧ k ≤ s.size ∧ acc.length ≤ k ∧ Lib.IsBuilder 63 5 w.heap.size w.heap.size (Lib.byteCells acc) wr ∧ Below w.heap.size w wr ∧ Hid (scanQ ((un s).drop k) esc acc k = R)) (fun _ kv _ => s.size - (intOf kv).toNat)
  case atStart => exact ⟨i + 1, [], false, rfl, by go_num, by omega, by simp, Lib.fresh_isBuilder _ _ _, (Below.refl _ _).alloc (Nat.le_refl _) _, HR.out⟩
  case round =>
    obtain ⟨k, acc, esc, rfl, rfl, hk, hacc, hbu, hnx, hsc⟩ := hrel
    have hsize := hnx.size
    by_cases hlt : k < s.size
    · have hd : (un s).drop k = s[k]'hlt :: (un s).drop (k + 1) := List.drop_eq_getElem_cons (by rw [length_un]; exact hlt)
      have hsc' : Hid (scanQ (s[k]'hlt :: (un s).drop (k + 1)) esc acc k = R) := by
        have e := hsc.out
        rw [hd] at e
        exact e
      clear hsc hd
      cases ht : isTxt (s[k]'hlt)
      · have hfin : Hid (R = ⟨[], 0, 4⟩) := by rw [← hsc'.out, scanQ_bad _ _ _ _ _ ht]; rfl
        go_wp2_with (go_at_call 31; refine (q_text _ _ rfl _).mono ?_; rintro e w' ⟨rfl, rfl⟩)
        (try rw [Exit.noGoto_ret])
        go_ret3
        exact ⟨by rw [hfin.out]; rfl, hnx⟩
      · cases esc
        · by_cases h92 : ((s[k]'hlt).toNat : Int) = 92
          · have hst : Hid (scanQ ((un s).drop (k + 1)) true acc (k + 1) = R) := by rw [← hsc'.out, scanQ_back _ _ _ _ (by omega)]; rfl
            have h92' : (((s[k]'hlt).toNat : Int) == 92) = true := by simp; omega
            clear h92
            go_wp2_with (go_at_call 31; refine (q_text _ _ rfl _).mono ?_; rintro e w' ⟨rfl, rfl⟩)
            go_roundw
            case rel => exact ⟨k + 1, acc, true, rfl, by go_num, by omega, by omega, hbu, hnx, hst⟩
            case measure => simp [intOf]; omega
          · by_cases h34 : ((s[k]'hlt).toNat : Int) = 34
            · have hfin : Hid (R = ⟨acc, k + 1, 0⟩) := by rw [← hsc'.out, scanQ_end _ _ _ _ (by omega)]; rfl
              have h34' : (((s[k]'hlt).toNat : Int) == 34) = true := by simp; omega
              clear h34
              go_wp2_with (first | (go_at_call 31; refine (q_text _ _ rfl _).mono ?_; rintro e w' ⟨rfl, rfl⟩) | (go_at_call 32; refine (Tryd.Builder_String_any w.heap.size w.heap.size acc _ hbu (by omega)).mono ?_; rintro e w1 ⟨rfl, hb1⟩))
              (try rw [Exit.noGoto_ret])
              go_ret3
              exact ⟨by rw [hfin.out]; rfl, hnx.trans hb1⟩
            · have hst : Hid (scanQ ((un s).drop (k + 1)) false (acc ++ [s[k]'hlt]) (k + 1) = R) := by rw [← hsc'.out, scanQ_char _ _ _ _ ht (by omega) (by omega)]; rfl
              skip
              go_wp2_with (first | (go_at_call 31; refine (q_text _ _ rfl _).mono ?_; rintro e w' ⟨rfl, rfl⟩) | (go_at_call 33; refine (b_writeByte w.heap.size w.heap.size (Lib.byteCells acc) _ _ hbu (by simp [Lib.byteCells]; omega) (by have := hnx.size; omega)).mono ?_; rintro e w1 ⟨rfl, hbu1, hb1⟩))
              go_roundw
              case rel =>
                refine ⟨k + 1, acc ++ [s[k]'hlt], false, rfl, by go_num, by omega, by simp; omega, ?_, hnx.trans hb1, hst⟩
                rw [← byteCells_snoc]
                exact .inr hbu1
              case measure => simp [intOf]; omega
        · have hst : Hid (scanQ ((un s).drop (k + 1)) false (acc ++ [s[k]'hlt]) (k + 1) = R) := by rw [← hsc'.out, scanQ_esc _ _ _ _ ht]; rfl
          skip
          go_wp2_with (first | (go_at_call 31; refine (q_text _ _ rfl _).mono ?_; rintro e w' ⟨rfl, rfl⟩) | (go_at_call 33; refine (b_writeByte w.heap.size w.heap.size (Lib.byteCells acc) _ _ hbu (by simp [Lib.byteCells]; omega) (by have := hnx.size; omega)).mono ?_; rintro e w1 ⟨rfl, hbu1, hb1⟩))
          go_roundw
          case rel =>
            refine ⟨k + 1, acc ++ [s[k]'hlt], false, rfl, by go_num, by omega, by simp; omega, ?_, hnx.trans hb1, hst⟩
            rw [← byteCells_snoc]
            exact .inr hbu1
          case measure => simp [intOf]; omega
    · have hfin : Hid (R = ⟨[], 0, 5⟩) := by
        have e := hsc.out
        rw [List.drop_eq_nil_of_le (by rw [length_un]; omega)] at e
        rw [← e]; rfl
      go_wp2
      (try rw [Exit.noGoto_ret])
      go_ret3
      exact ⟨by rw [hfin.out]; rfl, hnx⟩
theorem q_parse (s : ByteArray) (i : Int) (w : World) (hs : s.size ≤ 100000000) : Calls Tryd.prog 25 #[.string s, .int .i64 i] w fun e w' => e = .returned (qval (parseQ (un s) i)) ∧ Below w.heap.size w w' := by
  by_cases hr : i < 0 ∨ (s.size : Int) < i
  · exact q_parse_range s i w hs hr
  · obtain ⟨n, rfl⟩ := Int.eq_ofNat_of_zero_le (show 0 ≤ i by omega)
    by_cases hq : ∃ h : n < s.size, (s[n]'h).toNat = 34
    · obtain ⟨h, hq⟩ := hq
      exact q_parse_quote s n w hs h hq
    · exact q_parse_not s n w hs (by omega) (fun h e => hq ⟨h, e⟩)
end Go.Proofs.YtjdkmidajhbefaaDoor
