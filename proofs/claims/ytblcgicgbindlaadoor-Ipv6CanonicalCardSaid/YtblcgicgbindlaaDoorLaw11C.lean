/- The walk of the law Ipv6Canonical (layer 11): it returns true; memory that existed is unchanged. Conditions: the library's tables stand. -/
import Derived.Test.YtblcgicgbindlaaDoorLaw11
import Derived.Test.YtblcgicgbindlaaDoorArr8
import Derived.Test.YtblcgicgbindlaaDoorPlainIpv6C
namespace Hs
open Go
/-- Whether a colon stands before place k, or the text begins there. -/
def prevC (t : Bs) (k : Nat) : Bool := decide (0 < k ∧ t[k - 1]? = some 58)
def leadC (t : Bs) (k : Nat) : Bool := decide (k = 0 ∨ (0 < k ∧ t[k - 1]? = some 58))
theorem prevC_succ (t : Bs) (k : Nat) (h : k < t.length) : prevC t (k + 1) = decide (t[k] = 58) := by
  unfold prevC
  rw [decide_eq_decide, Nat.add_sub_cancel, List.getElem?_eq_getElem h]
  exact ⟨fun e => Option.some.inj e.2, fun e => ⟨Nat.succ_pos _, by rw [e]⟩⟩
theorem leadC_succ (t : Bs) (k : Nat) (h : k < t.length) : leadC t (k + 1) = decide (t[k] = 58) := by
  unfold leadC
  rw [decide_eq_decide, Nat.add_sub_cancel, List.getElem?_eq_getElem h]
  constructor
  · rintro (e | e)
    · omega
    · exact Option.some.inj e.2
  · intro e
    exact .inr ⟨Nat.succ_pos _, by rw [e]⟩
end Hs
namespace Go.Proofs.YtblcgicgbindlaaDoor
open Go.RowKit Hs
set_option linter.unusedSimpArgs false
set_option linter.unusedVariables false

set_option maxRecDepth 20000 in
set_option maxHeartbeats 8000000 in
theorem canonical_walk11 (a : List Nat) (w : World) (hB : Base6 w) (h8 : a.length = 8) (hl : ∀ x ∈ a, x < 65536) : Calls Tryd.prog 10 #[.agg ((a.map Int.ofNat).map (Value.int .u16)).toArray] w fun e w' => e = .returned (.bool true) ∧ Below w.heap.size w w' := by
  rw [agg_groups]
  have AW := Lib.hid (fun W h => law11_awake W h)
  have hbd := fmt6_bounds a ⟨h8, hl⟩
  have hdb := dbl_fmt6 a
  have hno := noLead_fmt6 a
  have hok := okB_fmt6 a
  have C1 := fun W h => i6_format a W h h8 hl
  obtain ⟨T, hT⟩ : ∃ T, T = mk (fmt6 a) := ⟨_, rfl⟩
  have hTu : un T = fmt6 a := by rw [hT, un_mk]
  rw [← hTu] at hbd hdb hno hok
  rw [length_un] at hbd
  simp only [← hT] at C1
  have H1 := Lib.hid C1
  have HBLK := Lib.hid (BlkN.new w 39 (gcells a).toArray)
  have hbA : Below w.heap.size w (w.alloc (.cells (gcells a).toArray 39)) := (Below.refl _ w).alloc (Nat.le_refl _) _
  have B0 := hB.below hbA
  have HA := Lib.hid hbA
  have HNO := Lib.hid hno
  have HOK := Lib.hid hok
  clear C1 hT hTu hbA hB hno hok
  go_enter Tryd.func10, Tryd.ntmps10
  go_wp2_with ((with_reducible show wpList _ _ _ _ _ _); refine wpList_load_row rfl 39 (.tmp 1) rfl w.heap.size rfl 39 _ _ _ HBLK.out Tryd.underlying39 rfl (by rw [infoArr8]; simp; omega) ?_)
  refine (H1.out _ B0).mono ?_; rintro e w2 ⟨rfl, hb2⟩
  have B2 := B0.below hb2
  have hall := HA.out.trans (hb2.mono HA.out.size)
  clear B0 hb2 HBLK HA H1
  go_wp2
  go_loop [4, 5] (fun dv iv => ∃ d k : Nat, dv = .int .i64 d ∧ iv = .int .i64 k ∧ k ≤ T.size ∧ d ≤ 1 ∧ Hid (d + dbl (prevC (un T) k) ((un T).drop k) = dbl false (un T)) ∧ Hid (noLead (leadC (un T) k) ((un T).drop k) = true)) (fun _ iv => T.size - (intOf iv).toNat)
  case atStart => exact ⟨0, 0, rfl, rfl, by omega, by omega, Lib.hid (by rw [List.drop_zero]; show 0 + dbl false _ = _; omega), Lib.hid (by rw [List.drop_zero]; exact HNO.out)⟩
  case round =>
    obtain ⟨d, k, rfl, rfl, hk, hd, hst, hld⟩ := hrel
    by_cases hlt : k < T.size
    · have hku : k < (un T).length := by rw [length_un]; exact hlt
      have hdrop : (un T).drop k = T[k]'hlt :: (un T).drop (k + 1) := List.drop_eq_getElem_cons hku
      have h1 := hst.out
      have h2 := hld.out
      rw [hdrop, dbl] at h1
      rw [hdrop, noLead, Bool.and_eq_true] at h2
      have e1 : prevC (un T) (k + 1) = decide (T[k]'hlt = 58) := prevC_succ (un T) k hku
      have e2 : leadC (un T) (k + 1) = decide (T[k]'hlt = 58) := leadC_succ (un T) k hku
      rw [← e1] at h1
      have HN : Hid (noLead (leadC (un T) (k + 1)) ((un T).drop (k + 1)) = true) := Lib.hid (by rw [e2]; exact h2.2)
      have HL := Lib.hid h2.1
      have H1 := Lib.hid h1
      have hx := HOK.out (T[k]'hlt) (List.getElem_mem hku)
      have hx2 : (48 ≤ (T[k]'hlt).toNat ∧ (T[k]'hlt).toNat ≤ 57) ∨ (97 ≤ (T[k]'hlt).toNat ∧ (T[k]'hlt).toNat ≤ 102) ∨ (T[k]'hlt).toNat = 58 := of_decide_eq_true hx
      have H58 : Hid ((T[k]'hlt).toNat = 58 → T[k]'hlt = 58) := Lib.hid fun h => UInt8.toNat_inj.1 (by rw [h]; rfl)
      have H48 : Hid ((T[k]'hlt).toNat = 48 → T[k]'hlt = 48) := Lib.hid fun h => UInt8.toNat_inj.1 (by rw [h]; rfl)
      have hnil : Hid ((un T).drop (k + 1) = [] → k + 1 = T.size) := Lib.hid fun h => by rw [List.drop_eq_nil_iff, length_un] at h; omega
      have hhead : Hid ((un T).drop (k + 1) ≠ [] → ∃ h : k + 1 < T.size, ((un T).drop (k + 1)).head? = some (T[k + 1]'h)) := Lib.hid fun h => by
        have hlt2 : k + 1 < T.size := by
          have h3 : (un T).drop (k + 1) ≠ [] := h
          rw [ne_eq, List.drop_eq_nil_iff, length_un] at h3
          omega
        have hlu2 : k + 1 < (un T).length := by rw [length_un]; exact hlt2
        exact ⟨hlt2, by rw [List.drop_eq_getElem_cons hlu2]; rfl⟩
      clear hst hld h1 h2 e1 e2 hdrop hx
      rcases hx2 with ⟨hx1, hx2⟩ | ⟨hx1, hx2⟩ | hx
      · have n58 : (T[k]'hlt).toNat ≠ 58 := by omega
        have HD : Hid (d + dbl (prevC (un T) (k + 1)) ((un T).drop (k + 1)) = dbl false (un T)) := Lib.hid (by
          have := H1.out
          rw [if_neg (fun h => n58 (by rw [h.2]; rfl))] at this
          omega)
        clear H1
        by_cases h48 : (T[k]'hlt).toNat = 48
        · have hb48 := H48.out h48
          have hcs : (k = 0 ∨ ∃ j, ∃ hj : j < T.size, k = j + 1 ∧ (T[j]'hj).toNat = 58) ∨ ∃ j, ∃ hj : j < T.size, k = j + 1 ∧ (T[j]'hj).toNat ≠ 58 := by
            rcases Nat.eq_zero_or_pos k with h0 | h0
            · exact .inl (.inl h0)
            · have hj : k - 1 < T.size := by omega
              by_cases h5 : (T[k - 1]'hj).toNat = 58
              · exact .inl (.inr ⟨k - 1, hj, by omega, h5⟩)
              · exact .inr ⟨k - 1, hj, by omega, h5⟩
          have hnext : (k = 0 ∨ ∃ j, ∃ hj : j < T.size, k = j + 1 ∧ (T[j]'hj).toNat = 58) → k + 1 = T.size ∨ ∃ h : k + 1 < T.size, (T[k + 1]'h).toNat = 58 := by
            intro hc
            have hlead : leadC (un T) k = true := by
              unfold leadC
              apply decide_eq_true
              rcases hc with h0 | ⟨j, hj, h0, h5⟩
              · exact .inl h0
              · refine .inr ⟨by omega, ?_⟩
                have hju : j < (un T).length := by rw [length_un]; exact hj
                subst h0
                rw [Nat.add_sub_cancel, List.getElem?_eq_getElem hju]
                exact congrArg some (UInt8.toNat_inj.1 (by show (T[j]'hj).toNat = _; rw [h5]; rfl))
            by_cases hd0 : (un T).drop (k + 1) = []
            · exact .inl (hnil.out hd0)
            · obtain ⟨hh1, hh2⟩ := hhead.out hd0
              refine .inr ⟨hh1, ?_⟩
              have h3 := HL.out
              rw [hlead] at h3
              simp only [Bool.not_eq_true', decide_eq_false_iff_not] at h3
              by_cases h5 : ((un T).drop (k + 1)).head? = some 58
              · rw [hh2] at h5
                rw [Option.some.inj h5]; rfl
              · exact absurd ⟨trivial, hb48, hd0, h5⟩ h3
          clear HL hb48 hnil hhead H58 H48
          rcases hcs with hc | ⟨j, hj, rfl, h5⟩
          · have hn2 := hnext hc
            clear hnext
            rcases hc with rfl | ⟨j, hj, rfl, h5⟩
            · rcases hn2 with h6 | ⟨h6, h7⟩
              · exfalso; omega
              · go_wp2
                all_goals (try (exfalso; omega))
                go_round
                case rel => exact ⟨d, 0 + 1, rfl, by go_num, by omega, by omega, HD, HN⟩
                case measure => simp [intOf]; omega
            · rcases hn2 with h6 | ⟨h6, h7⟩
              all_goals
                go_wp2
                all_goals (try (exfalso; omega))
                go_round
                case rel => exact ⟨d, j + 1 + 1, rfl, by go_num, by omega, by omega, HD, HN⟩
                case measure => simp [intOf]; omega
          · clear hnext
            have g5 : (((T[j]'hj).toNat : Int) == 58) = false := by simp; omega
            go_wp2
            all_goals (try (exfalso; omega))
            go_round
            case rel => exact ⟨d, j + 1 + 1, rfl, by go_num, by omega, by omega, HD, HN⟩
            case measure => simp [intOf]; omega
        · have g5 : (((T[k]'hlt).toNat : Int) == 48) = false := by simp; omega
          have g6 : (((T[k]'hlt).toNat : Int) == 58) = false := by simp; omega
          clear HL hnil hhead H58 H48
          go_wp2
          all_goals (try (exfalso; omega))
          go_round
          case rel => exact ⟨d, k + 1, rfl, by go_num, by omega, by omega, HD, HN⟩
          case measure => simp [intOf]; omega
      · have n58 : (T[k]'hlt).toNat ≠ 58 := by omega
        have HD : Hid (d + dbl (prevC (un T) (k + 1)) ((un T).drop (k + 1)) = dbl false (un T)) := Lib.hid (by
          have := H1.out
          rw [if_neg (fun h => n58 (by rw [h.2]; rfl))] at this
          omega)
        have g5 : (((T[k]'hlt).toNat : Int) == 48) = false := by simp; omega
        have g6 : (((T[k]'hlt).toNat : Int) == 58) = false := by simp; omega
        clear H1 HL hnil hhead H58 H48
        go_wp2
        all_goals (try (exfalso; omega))
        go_round
        case rel => exact ⟨d, k + 1, rfl, by go_num, by omega, by omega, HD, HN⟩
        case measure => simp [intOf]; omega
      · have hb58 := H58.out hx
        rcases Nat.eq_zero_or_pos k with rfl | h0
        · have HD : Hid (d + dbl (prevC (un T) (0 + 1)) ((un T).drop (0 + 1)) = dbl false (un T)) := Lib.hid (by
            have := H1.out
            rw [if_neg (fun h => by have h4 := of_decide_eq_true h.1; omega)] at this
            omega)
          clear H1 HL hnil hhead H58 H48 hb58
          go_wp2
          all_goals (try (exfalso; omega))
          go_round
          case rel => exact ⟨d, 0 + 1, rfl, by go_num, by omega, by omega, HD, HN⟩
          case measure => simp [intOf]; omega
        · obtain ⟨j, rfl⟩ : ∃ j, k = j + 1 := ⟨k - 1, by omega⟩
          have hj : j < T.size := by omega
          have hju : j < (un T).length := by rw [length_un]; exact hj
          have hpc : prevC (un T) (j + 1) = decide (T[j]'hj = 58) := prevC_succ (un T) j hju
          by_cases h5 : (T[j]'hj).toNat = 58
          · have HD : Hid (d + 1 + dbl (prevC (un T) (j + 1 + 1)) ((un T).drop (j + 1 + 1)) = dbl false (un T)) := Lib.hid (by
              have := H1.out
              rw [if_pos ⟨by rw [hpc]; exact decide_eq_true (UInt8.toNat_inj.1 (by rw [h5]; rfl)), hb58⟩] at this
              omega)
            have hd1 : d + 1 ≤ 1 := by have := HD.out; omega
            clear H1 HL hnil hhead H58 H48 hb58 hpc
            go_wp2
            all_goals (try (exfalso; omega))
            go_round
            case rel => exact ⟨d + 1, j + 1 + 1, by go_num, by go_num, by omega, hd1, HD, HN⟩
            case measure => simp [intOf]; omega
          · have HD : Hid (d + dbl (prevC (un T) (j + 1 + 1)) ((un T).drop (j + 1 + 1)) = dbl false (un T)) := Lib.hid (by
              have := H1.out
              rw [if_neg (fun h => by
                have h4 := h.1
                rw [hpc] at h4
                exact h5 (by rw [of_decide_eq_true h4]; rfl))] at this
              omega)
            have g5 : (((T[j]'hj).toNat : Int) == 58) = false := by simp; omega
            clear H1 HL hnil hhead H58 H48 hb58 hpc
            go_wp2
            all_goals (try (exfalso; omega))
            go_round
            case rel => exact ⟨d, j + 1 + 1, rfl, by go_num, by omega, by omega, HD, HN⟩
            case measure => simp [intOf]; omega
    · obtain rfl : k = T.size := by omega
      clear hst hld HNO HOK
      have g1 : (2 : Int) ≤ (T.size : Int) := by omega
      have g2 : (T.size : Int) ≤ 39 := by omega
      have g3 : (d : Int) ≤ 1 := by omega
      go_wp2_with fail
      all_goals (try (exfalso; omega))
      refine (AW.out _ B2).mono ?_; rintro e w3 ⟨rfl, hx⟩
      go_wp2_with fail
      go_ret
      exact ⟨rfl, hall.trans (hx.mono hall.size)⟩
end Go.Proofs.YtblcgicgbindlaaDoor
