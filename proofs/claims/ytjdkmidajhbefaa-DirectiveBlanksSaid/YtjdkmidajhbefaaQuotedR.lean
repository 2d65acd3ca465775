/- The walks of the layer quoted (program and reference): they return the plain functions' answers. Conditions: strings are of bounded length. -/
import Derived.Test.YtjdkmidajhbefaaQuoted
import Derived.Test.YtjdkmidajhbefaaBuilder
namespace Go.Proofs.Ytjdkmidajhbefaa
open Go.RowKit Hs
set_option linter.unusedSimpArgs false
set_option linter.unusedVariables false


theorem r_parse_range (s : ByteArray) (i : Int) (w : World) (hs : s.size ≤ 100000000) (hi : i < 0 ∨ (s.size : Int) < i) : Calls Try.prog 19 #[.string s, .int .i64 i] w fun e w' => e = .returned (qval (parseQ (un s) i)) ∧ Below w.heap.size w w' := by
  have hr : Hid (parseQ (un s) i = ⟨[], 0, 2⟩) := if_pos (by rw [length_un]; exact hi)
  rcases hi with hi | hi
  all_goals
    go_enter Try.func19, Try.ntmps19
    go_wp2
    all_goals (try (exfalso; omega))
    go_ret3
    exact ⟨by rw [hr.out]; rfl, Below.refl _ _⟩
theorem r_parse_not (s : ByteArray) (i : Nat) (w : World) (hs : s.size ≤ 100000000) (hi : i ≤ s.size) (hq : ∀ h : i < s.size, (s[i]'h).toNat ≠ 34) : Calls Try.prog 19 #[.string s, .int .i64 i] w fun e w' => e = .returned (qval (parseQ (un s) i)) ∧ Below w.heap.size w w' := by
  have hr : Hid (parseQ (un s) i = ⟨[], 0, 4⟩) := parseQ_not _ _ (by rw [length_un]; exact hi) (fun h => hq (by rw [length_un] at h; exact h))
  by_cases he : i < s.size
  · have hn := hq he
    have hn' : ((s[i]'he).toNat : Int) ≠ 34 := by omega
    clear hq hn
    go_enter Try.func19, Try.ntmps19
    go_wp2
    all_goals (try (exfalso; omega))
    go_ret3
    exact ⟨by rw [hr.out]; rfl, Below.refl _ _⟩
  · clear hq
    obtain rfl : i = s.size := by omega
    go_enter Try.func19, Try.ntmps19
    go_wp2
    all_goals (try (exfalso; omega))
    go_ret3
    exact ⟨by rw [hr.out]; rfl, Below.refl _ _⟩

set_option maxHeartbeats 4000000 in
theorem r_parse_quote (s : ByteArray) (i : Nat) (w : World) (hs : s.size ≤ 100000000) (hi : i < s.size) (hq : (s[i]'hi).toNat = 34) : Calls Try.prog 19 #[.string s, .int .i64 i] w fun e w' => e = .returned (qval (parseQ (un s) i)) ∧ Below w.heap.size w w' := by
  obtain ⟨iB0, iB⟩ := info_parts infoByte
  have hr := parseQ_start (un s) i (by rw [length_un]; exact hi) hq
  obtain ⟨R, hR⟩ : ∃ R, R = parseQ (un s) i := ⟨_, rfl⟩
  rw [← hR] at hr ⊢
  have HR := Lib.hid hr.symm
  have hq' : (((s[i]'hi).toNat : Int) != 34) = false := by simp; omega
  clear hr hR hq
  go_enter Try.func19, Try.ntmps19
  go_wp2
  all_goals (try (exfalso; omega))
  go_loopw [1, 7] (fun kv ov wr => ∃ (k : Nat) (acc : Bs), kv = .int .i64 k ∧ k ≤ s.size ∧ acc.length ≤ k ∧ wr.ownsRow w.heap.size 5 1 ov acc.length (bcells acc) ∧ Below w.heap.size w wr ∧ Hid (scanQ ((un s).drop k) false acc k = R)) (fun kv _ _ => s.size - (intOf kv).toNat)
  case atStart => exact ⟨i + 1, [], by go_num, by omega, by simp, World.ownsRow_nil _ _ _ _, Below.refl _ _, HR.out⟩
  case round =>
    obtain ⟨k, acc, rfl, hk, hacc, hown, hnx, hsc⟩ := hrel
    have hsize := hnx.size
    by_cases hlt : k < s.size
    · have hd : (un s).drop k = s[k]'hlt :: (un s).drop (k + 1) := List.drop_eq_getElem_cons (by rw [length_un]; exact hlt)
      have hsc' : Hid (scanQ (s[k]'hlt :: (un s).drop (k + 1)) false acc k = R) := by
        have e := hsc.out
        rw [hd] at e
        exact e
      clear hsc hd
      by_cases h34 : ((s[k]'hlt).toNat : Int) = 34
      · have hfin : Hid (R = ⟨acc, k + 1, 0⟩) := by rw [← hsc'.out, scanQ_end _ _ _ _ (by omega)]; rfl
        have h34' : (((s[k]'hlt).toNat : Int) == 34) = true := by simp; omega
        clear h34
        have hcv := string_of_row (P := Try.prog) (Row.owned hown) (src := 55) (dst := 9) Try.underlying55 Try.underlying5 Try.underlying9
        go_wp2
        go_ret3
        exact ⟨by rw [hfin.out]; rfl, hnx⟩
      · by_cases h92 : ((s[k]'hlt).toNat : Int) = 92
        · have hst := scanQ_back (s[k]'hlt) ((un s).drop (k + 1)) acc k (by omega)
          have hst' : Hid (scanQ ((un s).drop (k + 1)) true acc (k + 1) = R) := by rw [← hsc'.out, hst]; rfl
          have h92' : (((s[k]'hlt).toNat : Int) == 92) = true := by simp; omega
          clear h92 hst
          by_cases hlt2 : k + 1 < s.size
          · have hd2 : (un s).drop (k + 1) = s[k + 1]'hlt2 :: (un s).drop (k + 1 + 1) := List.drop_eq_getElem_cons (by rw [length_un]; exact hlt2)
            have hs2 : Hid (scanQ (s[k + 1]'hlt2 :: (un s).drop (k + 1 + 1)) true acc (k + 1) = R) := by
              have e := hst'.out
              rw [hd2] at e
              exact e
            clear hst' hd2
            cases ht : isTxt (s[k + 1]'hlt2)
            · have hfin : Hid (R = ⟨[], 0, 4⟩) := by rw [← hs2.out, scanQ_bad _ _ _ _ _ ht]; rfl
              go_wp2_with (go_at_call 42; refine (r_text _ _ rfl _).mono ?_; rintro e w' ⟨rfl, rfl⟩)
              go_ret3
              exact ⟨by rw [hfin.out]; rfl, hnx⟩
            · have hst : Hid (scanQ ((un s).drop (k + 1 + 1)) false (acc ++ [s[k + 1]'hlt2]) (k + 1 + 1) = R) := by rw [← hs2.out, scanQ_esc _ _ _ _ ht]; rfl
              go_wp2_with (first | (at_builtin; refine wpList_append_own _ rfl (.tmp 58) (.tmp 60) 55 rfl (w.heap.size) 5 iB0 (.int .u8 0) 1 1 Try.underlying55 iB.1 iB.2.1 iB.2.2.1 iB.2.2.2 rfl (by decide) _ _ _ rfl (hown.alloc _) ⟨wr.heap.size, 0, none⟩ 1 1 [_] rfl rfl (cell_one_new _ _ _) (by intro u hu; simp at hu; subst hu; rfl) (by unfold maxLen; omega) (by omega) (by simp; omega) ?_; intro v1 w1 hown1 hgrow1 hnil1) | (go_at_call 42; refine (r_text _ _ rfl _).mono ?_; rintro e w' ⟨rfl, rfl⟩))
              go_roundw
              case rel =>
                refine ⟨k + 1 + 1, acc ++ [s[k + 1]'hlt2], by go_num, by omega, by simp; omega, ?_, (hnx.alloc (by omega) _).grown hgrow1 (by simp; omega) (fun j hj => (hown.lt j hj).1), hst⟩
                have e := hown1
                rw [bcells_append, List.length_append]
                exact e
              case measure => simp [intOf]; omega
          · have hfin : Hid (R = ⟨[], 0, 5⟩) := by
              have e := hst'.out
              rw [List.drop_eq_nil_of_le (by rw [length_un]; omega)] at e
              rw [← e]; rfl
            go_wp2_with (go_at_call 42; refine (r_text _ _ rfl _).mono ?_; rintro e w' ⟨rfl, rfl⟩)
            go_ret3
            exact ⟨by rw [hfin.out]; rfl, hnx⟩
        · cases ht : isTxt (s[k]'hlt)
          · have hfin : Hid (R = ⟨[], 0, 4⟩) := by rw [← hsc'.out, scanQ_bad _ _ _ _ _ ht]; rfl
            go_wp2_with (go_at_call 42; refine (r_text _ _ rfl _).mono ?_; rintro e w' ⟨rfl, rfl⟩)
            go_ret3
            exact ⟨by rw [hfin.out]; rfl, hnx⟩
          · have hst : Hid (scanQ ((un s).drop (k + 1)) false (acc ++ [s[k]'hlt]) (k + 1) = R) := by rw [← hsc'.out, scanQ_char _ _ _ _ ht (by omega) (by omega)]; rfl
            go_wp2_with (first | (at_builtin; refine wpList_append_own _ rfl (.tmp 58) (.tmp 60) 55 rfl (w.heap.size) 5 iB0 (.int .u8 0) 1 1 Try.underlying55 iB.1 iB.2.1 iB.2.2.1 iB.2.2.2 rfl (by decide) _ _ _ rfl (hown.alloc _) ⟨wr.heap.size, 0, none⟩ 1 1 [_] rfl rfl (cell_one_new _ _ _) (by intro u hu; simp at hu; subst hu; rfl) (by unfold maxLen; omega) (by omega) (by simp; omega) ?_; intro v1 w1 hown1 hgrow1 hnil1) | (go_at_call 42; refine (r_text _ _ rfl _).mono ?_; rintro e w' ⟨rfl, rfl⟩))
            go_roundw
            case rel =>
              refine ⟨k + 1, acc ++ [s[k]'hlt], by go_num, by omega, by simp; omega, ?_, (hnx.alloc (by omega) _).grown hgrow1 (by simp; omega) (fun j hj => (hown.lt j hj).1), hst⟩
              have e := hown1
              rw [bcells_append, List.length_append]
              exact e
            case measure => simp [intOf]; omega
    · have hfin : Hid (R = ⟨[], 0, 5⟩) := by
        have e := hsc.out
        rw [List.drop_eq_nil_of_le (by rw [length_un]; omega)] at e
        rw [← e]; rfl
      go_wp2
      go_ret3
      exact ⟨by rw [hfin.out]; rfl, hnx⟩
theorem r_parse (s : ByteArray) (i : Int) (w : World) (hs : s.size ≤ 100000000) : Calls Try.prog 19 #[.string s, .int .i64 i] w fun e w' => e = .returned (qval (parseQ (un s) i)) ∧ Below w.heap.size w w' := by
  by_cases hr : i < 0 ∨ (s.size : Int) < i
  · exact r_parse_range s i w hs hr
  · obtain ⟨n, rfl⟩ := Int.eq_ofNat_of_zero_le (show 0 ≤ i by omega)
    by_cases hq : ∃ h : n < s.size, (s[n]'h).toNat = 34
    · obtain ⟨h, hq⟩ := hq
      exact r_parse_quote s n w hs h hq
    · exact r_parse_not s n w hs (by omega) (fun h e => hq ⟨h, e⟩)
end Go.Proofs.Ytjdkmidajhbefaa
