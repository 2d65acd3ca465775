/- The walk of the law FieldsLineEnds (layer 21): it returns true; memory that existed is unchanged. Conditions: internal/bytealg.MaxLen holds some number. -/
import Derived.Test.YtimfngfimnapoaaLaw21
import Derived.Test.YtimfngfimnapoaaAppendB
import Derived.Test.YtimfngfimnapoaaLater
namespace Go.Proofs.Ytimfngfimnapoaa
open Go.RowKit Hs
set_option linter.unusedSimpArgs false
set_option linter.unusedVariables false

/-- The texts of the first j lines, and that these are plain. -/
def EndsTo (l : List Bs) (A B : Bs) (j : Nat) : Prop := A = linesText [10] (l.take j) ∧ B = linesText [13, 10] (l.take j) ∧ ∀ x ∈ l.take j, plainLine x
theorem EndsTo.start (l : List Bs) : EndsTo l [] [] 0 := ⟨rfl, rfl, fun x hx => by simp at hx⟩
theorem EndsTo.snoc {l : List Bs} {A B : Bs} {j : Nat} (h : EndsTo l A B j) (hj : j < l.length) (hp : plainLine l[j]) : EndsTo l (A ++ (l[j] ++ [10])) (B ++ (l[j] ++ [13, 10])) (j + 1) := by
  obtain ⟨h1, h2, h3⟩ := h
  refine ⟨by rw [List.take_succ_eq_append_getElem hj, linesText_snoc, h1], by rw [List.take_succ_eq_append_getElem hj, linesText_snoc, h2], fun x hx => ?_⟩
  rw [List.take_succ_eq_append_getElem hj] at hx
  rcases List.mem_append.1 hx with h | h
  · exact h3 x h
  · rw [List.mem_singleton.1 h]; exact hp
theorem EndsTo.fin {l : List Bs} {A B : Bs} (h : EndsTo l A B l.length) (r : Bs) (hA : A.length ≤ 5000) (hB : B.length ≤ 5000) (hr : r.length ≤ 1000) : parseF B = parseF A ∧ parseF (A ++ ([13, 10] ++ r)) = parseF A := by
  obtain ⟨h1, h2, h3⟩ := h
  rw [List.take_length] at h1 h2 h3
  rw [parseF_short A (by omega), parseF_short B (by omega), parseF_short _ (by simp; omega), h1, h2, linesL_lf l h3, linesL_crlf l h3, linesL_stop l r h3]
  exact ⟨rfl, rfl⟩
theorem notin_of (S : ByteArray) (c : UInt8) (n : Nat) (hc : c.toNat = n) (h : ∀ j (hj : j < S.size), (S[j]'hj).toNat ≠ n) : c ∉ un S := by
  intro hm
  obtain ⟨j, hj, e⟩ := List.getElem_of_mem hm
  rw [length_un] at hj
  exact h j hj (by rw [← hc, ← e]; rfl)

set_option maxRecDepth 20000 in
set_option maxHeartbeats 4000000 in
theorem lineEnds_walk21 (v0 : Value) (l : List Bs) (v1 : Value) (r : Bs) (w : World) (hmax : MaxOk w) (hv : Strs w v0 l) (hs : ∀ x ∈ l, x.length ≤ maxLen) (hv1 : Byts w v1 r) : Calls Try.prog 4 #[v0, v1] w fun e w' => e = .returned (.bool true) ∧ Below w.heap.size w w' := by
  have AW := Lib.hid (fun W hW => law21_awake W hW)
  obtain ⟨a0, cap, rfl, hn, hmx, hc⟩ := hv.open
  obtain ⟨a1, cap1, rfl, hn1, hmx1, _⟩ := hv1.open
  unfold maxLen at hmx hmx1
  have HC := Lib.hid hc
  have HS := Lib.hid hs
  have HV1 := Lib.hid hv1
  clear hc hv hs hv1
  by_cases hlen : l.length ≤ 40 ∧ r.length ≤ 1000
  · obtain ⟨hlen, hlen2⟩ := hlen
    have hlen' : ((l.length : Int) ≤ 40) := by omega
    have hlen2' : ((r.length : Int) ≤ 1000) := by omega
    go_enter Try.func4, Try.ntmps4
    go_wp2_with fail
    go_loopw [5, 6, 7] (fun av bv iv wr => ∃ (j : Nat) (A B : ByteArray), av = .string A ∧ bv = .string B ∧ iv = .int .i64 j ∧ j ≤ l.length ∧ A.size ≤ 101 * j ∧ B.size ≤ 102 * j ∧ Below w.heap.size w wr ∧ Hid (EndsTo l (un A) (un B) j)) (fun _ _ iv _ => l.length - (intOf iv).toNat)
    case atStart => exact ⟨0, ⟨#[]⟩, ⟨#[]⟩, rfl, rfl, rfl, by omega, by decide, by decide, Below.refl _ _, Lib.hid (EndsTo.start l)⟩
    case round =>
      obtain ⟨j, A, B, rfl, rfl, rfl, hj, hA, hB, hnx, hto⟩ := hrel
      have hM := hmax.below hnx hmax.lt
      by_cases hlt : j < l.length
      · obtain ⟨b, off, rfl, hb1, hcell⟩ := HC.out (by omega)
        have c0 := (hnx.cell (p := ⟨b, off + j, none⟩) hb1).trans (hcell j hlt)
        have hsz := HS.out l[j] (List.getElem_mem hlt)
        clear hcell
        obtain ⟨S, hS⟩ : ∃ S, S = mk l[j] := ⟨_, rfl⟩
        have hSz : S.size ≤ maxLen := by rw [hS, size_mk]; exact hsz
        have hSu : Hid (un S = l[j]) := Lib.hid (by rw [hS, un_mk])
        unfold maxLen at hSz
        rw [← hS] at c0
        clear hS hsz
        rcases Nat.eq_zero_or_pos S.size with h0 | hpos
        · have hE : S.toList.isEmpty = true := by rw [toList_un]; simpa using List.eq_nil_of_length_eq_zero (show (un S).length = 0 by rw [length_un]; exact h0)
          go_wp2_with fail
          refine (AW.out _ hM).mono ?_; rintro e wz ⟨rfl, hbz⟩
          go_wp2_with fail
          go_ret
          exact ⟨rfl, hnx.trans (hbz.mono hnx.size)⟩
        · have hE : S.toList.isEmpty = false := by
            rw [toList_un]
            cases hq : un S with
            | nil => have := congrArg List.length hq; rw [length_un, List.length_nil] at this; omega
            | cons => rfl
          by_cases h100 : S.size ≤ 100
          · go_wp2_with fail
            go_loop [8] (fun kv => ∃ k : Nat, kv = .int .i64 k ∧ k ≤ S.size ∧ Hid (∀ j (hj : j < S.size), j < k → (S[j]'hj).toNat ≠ 10 ∧ (S[j]'hj).toNat ≠ 13)) (fun kv => S.size - (intOf kv).toNat)
            case atStart => exact ⟨0, rfl, by omega, Lib.hid (fun j hj h => by omega)⟩
            case round =>
              obtain ⟨k, rfl, hk, hno⟩ := hrel
              by_cases hks : k < S.size
              · obtain ⟨c, hcc⟩ : ∃ c, c = (S[k]'hks) := ⟨_, rfl⟩
                have hst : Hid (c.toNat ≠ 10 → c.toNat ≠ 13 → ∀ j (hj : j < S.size), j < k + 1 → (S[j]'hj).toNat ≠ 10 ∧ (S[j]'hj).toNat ≠ 13) := Lib.hid (fun e1 e2 j hj h => by
                  by_cases e : j = k
                  · subst e; rw [← hcc]; exact ⟨e1, e2⟩
                  · exact hno.out j hj (by omega))
                clear hno
                have hcase : c.toNat = 10 ∨ (c.toNat ≠ 10 ∧ c.toNat = 13) ∨ (c.toNat ≠ 10 ∧ c.toNat ≠ 13) := by omega
                rw [hcc] at hcase
                rcases hcase with h | ⟨h, h'⟩ | ⟨h, h'⟩
                · have h1 : (((S[k]'hks).toNat : Int) == 10) = true := by simp; omega
                  clear hcc hst
                  go_wp2_with fail
                  all_goals (try (exfalso; omega))
                  refine (AW.out _ hM).mono ?_; rintro e wz ⟨rfl, hbz⟩
                  go_wp2_with fail
                  go_ret
                  exact ⟨rfl, hnx.trans (hbz.mono hnx.size)⟩
                · have h1 : (((S[k]'hks).toNat : Int) == 10) = false := by simp; omega
                  have h2 : (((S[k]'hks).toNat : Int) == 13) = true := by simp; omega
                  clear hcc hst
                  go_wp2_with fail
                  all_goals (try (exfalso; omega))
                  refine (AW.out _ hM).mono ?_; rintro e wz ⟨rfl, hbz⟩
                  go_wp2_with fail
                  go_ret
                  exact ⟨rfl, hnx.trans (hbz.mono hnx.size)⟩
                · have h1 : (((S[k]'hks).toNat : Int) == 10) = false := by simp; omega
                  have h2 : (((S[k]'hks).toNat : Int) == 13) = false := by simp; omega
                  rw [← hcc] at h h'
                  have hst2 := Lib.hid (hst.out h h')
                  clear hst hcc h h'
                  go_wp2_with fail
                  all_goals (try (exfalso; omega))
                  go_round
                  case rel => exact ⟨k + 1, by go_num, by omega, hst2⟩
                  case measure => simp [intOf]; omega
              · obtain rfl : k = S.size := by omega
                have hto2 : Hid (EndsTo l (un A ++ (un S ++ [10])) (un B ++ (un S ++ [13, 10])) (j + 1)) := Lib.hid (by
                  have hp : plainLine l[j] := by
                    rw [← hSu.out]
                    refine ⟨fun e => ?_, notin_of S 10 10 rfl (fun i hi => (hno.out i hi hi).1), notin_of S 13 13 rfl (fun i hi => (hno.out i hi hi).2)⟩
                    have := congrArg List.length e
                    rw [length_un, List.length_nil] at this; omega
                  have := hto.out.snoc hlt hp
                  rwa [← hSu.out] at this)
                have hl1 : Hid (A.size + S.size + 1 ≤ 101 * (j + 1)) := Lib.hid (by omega)
                have hl2 : Hid (B.size + S.size + 2 ≤ 102 * (j + 1)) := Lib.hid (by omega)
                have hAb : A.size ≤ 4040 := by omega
                have hBb : B.size ≤ 4080 := by omega
                have hAH := Lib.hid hA; have hBH := Lib.hid hB
                clear hA hB
                clear hno hto
                have q0 : ∀ x : Later wr, x.1.cell? ⟨b, off + j, none⟩ = some (.string S) := fun x => ((bcell x.2).1 b _ (by have := hnx.size; omega)).trans c0
                go_wp2_with fail
                clear c0
                refine wp_region_later wr (by kernel_rfl) (by kernel_rfl) (Below.refl _ _) ?_
                repeat (go_big_quiet_step (fail))
                refine wpQuiet_nil ?_
                intro _ hw'
                obtain ⟨⟨w5, hb5⟩, rfl⟩ := hw'
                have B5 := hnx.trans (hb5.mono hnx.size)
                clear q0
                go_wp2_with fail
                go_roundw
                case rel => exact ⟨j + 1, A ++ S ++ (⟨#[10]⟩ : ByteArray), B ++ S ++ (⟨#[13, 10]⟩ : ByteArray), rfl, rfl, by go_num, by omega, by rw [ByteArray.size_append, ByteArray.size_append]; exact hl1.out, by rw [ByteArray.size_append, ByteArray.size_append]; exact hl2.out, B5, Lib.hid (by rw [un_append, un_append, un_append, un_append, List.append_assoc, List.append_assoc]; exact hto2.out)⟩
                case measure => simp [intOf]; omega
          · have h100' : ((100 : Int) < (S.size : Int)) := by omega
            go_wp2_with fail
            refine (AW.out _ hM).mono ?_; rintro e wz ⟨rfl, hbz⟩
            go_wp2_with fail
            go_ret
            exact ⟨rfl, hnx.trans (hbz.mono hnx.size)⟩
      · obtain rfl : j = l.length := by omega
        have hAs : A.size ≤ 4040 := by omega
        have hBs : B.size ≤ 4080 := by omega
        have hfin := hto.out.fin r (by rw [length_un]; omega) (by rw [length_un]; omega) hlen2
        obtain ⟨hfB, hfY⟩ := hfin
        obtain ⟨Y, hY⟩ : ∃ Y, A ++ (⟨#[13, 10]⟩ : ByteArray) = Y := ⟨_, rfl⟩
        have hYs : Y.size ≤ 4042 := by rw [← hY, ByteArray.size_append]; show A.size + 2 ≤ 4042; omega
        have hfY2 : parseF (un Y ++ r) = parseF (un A) := by rw [← hY, un_append, List.append_assoc]; exact hfY
        have HFB := Lib.hid hfB
        have HFY := Lib.hid hfY2
        clear hto hfB hfY hfY2 hA hB
        obtain ⟨R, hR⟩ : ∃ R, R = parseF (un A) := ⟨_, rfl⟩
        rw [← hR] at HFB HFY
        have HR := Lib.hid hR
        clear hR
        have K := run_bytes_of_string (P := Try.prog) wr 9 22 5 A Try.underlying9 Try.underlying22 Try.underlying5
        have HB1 := Lib.hid (byts_conv wr A (un A) rfl (by unfold maxLen; omega))
        have B1 := hnx.trans ((below_conv wr A).mono hnx.size)
        go_wp2_with fail
        clear K
        refine (f_parse _ (un A) _ HB1.out (by rw [length_un]; omega) (hmax.below B1 hmax.lt)).mono ?_; rintro e w1 ⟨u1, rfl, hown1, hb1⟩
        rw [← HR.out] at hown1 ⊢
        have hf1 := Flds.owned hown1
        have B2 := B1.trans (hb1.mono B1.size)
        clear hown1 hb1 B1 HB1
        have K := run_bytes_of_string (P := Try.prog) w1 9 22 5 B Try.underlying9 Try.underlying22 Try.underlying5
        have HB1 := Lib.hid (byts_conv w1 B (un B) rfl (by unfold maxLen; omega))
        have B3 := B2.trans ((below_conv w1 B).mono B2.size)
        have hf1' := hf1.below (below_conv w1 B)
        go_wp2_with fail
        clear K
        refine (f_parse _ (un B) _ HB1.out (by rw [length_un]; omega) (hmax.below B3 hmax.lt)).mono ?_; rintro e w2 ⟨u2, rfl, hown2, hb2⟩
        rw [HFB.out] at hown2 ⊢
        have hf2 := Flds.owned hown2
        have hf12 := hf1'.below hb2
        have B4 := B3.trans (hb2.mono B3.size)
        clear hown2 hb2 B3 HB1 hf1 hf1' B2
        have K := run_bytes_of_string (P := Try.prog) w2 9 22 5 Y Try.underlying9 Try.underlying22 Try.underlying5
        have hbc := below_conv w2 Y
        have B5 := B4.trans (hbc.mono B4.size)
        have hv5 := HV1.out.below B5
        have hs4 := B4.size
        go_wp2_with (at_builtin; refine wpList_append_conv_new w2 Y rfl (.tmp 99) (.tmp 100) rfl rfl _ rfl r hv5 (by omega) ?_; intro v6 w6 hd6 hgrow6; have D6 := hbc.grown hgrow6 hbc.size (fun k hk => by cases hk; exact Nat.le_refl _); have B6 := B4.trans (D6.mono hs4); have hf16 := hf12.below D6; have hf26 := hf2.below D6; clear K hgrow6)
        refine (f_parse v6 (un Y ++ r) _ hd6 (by rw [List.length_append, length_un]; omega) (hmax.below B6 hmax.lt)).mono ?_; rintro e w7 ⟨u7, rfl, hown7, hb7⟩
        rw [HFY.out] at hown7 ⊢
        have hf7 := Flds.owned hown7
        have hf17 := hf16.below hb7
        have hf27 := hf26.below hb7
        have B7 := B6.trans (hb7.mono B6.size)
        clear hown7 hb7
        go_wp2_with fail
        refine (keep_fields u1 u2 R.1 R.1 _ hf17 hf27).mono ?_; rintro e w8 ⟨rfl, hb8⟩
        rw [decide_eq_true rfl]
        have hf18 := hf17.below hb8
        have hf78 := hf7.below hb8
        have B8 := B7.trans (hb8.mono B7.size)
        go_wp2_with fail
        refine (keep_fields u1 u7 R.1 R.1 _ hf18 hf78).mono ?_; rintro e w9 ⟨rfl, hb9⟩
        rw [decide_eq_true rfl]
        have B9 := B8.trans (hb9.mono B8.size)
        go_wp2_with fail
        refine (AW.out _ (hmax.below B9 hmax.lt)).mono ?_; rintro e wz ⟨rfl, hbz⟩
        go_wp2_with fail
        go_ret
        exact ⟨rfl, B9.trans (hbz.mono B9.size)⟩
  · have hor : (40 : Int) < (l.length : Int) ∨ ((l.length : Int) ≤ 40 ∧ (1000 : Int) < (r.length : Int)) := by omega
    rcases hor with h | ⟨h, h'⟩
    all_goals
      go_enter Try.func4, Try.ntmps4
      go_wp2_with fail
      refine (AW.out _ hmax).mono ?_; rintro e wz ⟨rfl, hbz⟩
      go_wp2_with fail
      go_ret
      exact ⟨rfl, hbz⟩
end Go.Proofs.Ytimfngfimnapoaa
