/- The walk of Format of the reference of layer 11. Conditions: eight groups. -/
import Derived.Test.YtblcgicgbindlaaDoorIpv6H
import Derived.Test.YtblcgicgbindlaaDoorIpv6Z
import Derived.Test.YtblcgicgbindlaaDoorPlainIpv6R
namespace Go.Proofs.YtblcgicgbindlaaDoor
open Go.RowKit Hs
set_option linter.unusedSimpArgs false
set_option linter.unusedVariables false

theorem bestR_drop {l : List Nat} {k : Nat} (h : k < l.length) (b : Int × Nat) : bestR (l.drop k) k b = bestR (l.drop (k + 1)) (k + 1) (if b.2 < runZ (l.drop k) then ((k : Int), runZ (l.drop k)) else b) := by
  rw [List.drop_eq_getElem_cons h, bestR]
/-- How a text ends: it is empty, or its last byte is a colon, or not. -/
theorem ends_cases (S : ByteArray) : S.size = 0 ∨ ∃ h : S.size - 1 < S.size, (S[S.size - 1]'h = 58 ∧ (un S).getLast? = some 58) ∨ (S[S.size - 1]'h ≠ 58 ∧ un S ≠ [] ∧ (un S).getLast? ≠ some 58) := by
  by_cases h0 : S.size = 0
  · exact .inl h0
  · refine .inr ⟨by omega, ?_⟩
    have hl : (un S).getLast? = some (S[S.size - 1]'(by omega)) := by
      rw [List.getLast?_eq_getElem?, length_un, List.getElem?_eq_getElem (by rw [length_un]; omega)]
      rfl
    by_cases h : S[S.size - 1]'(by omega) = 58
    · exact .inl ⟨h, by rw [hl, h]⟩
    · refine .inr ⟨h, ?_, ?_⟩
      · intro e
        have := length_un S
        rw [e] at this
        exact h0 this.symm
      · rw [hl]
        exact fun e => h (Option.some.inj e)

set_option maxRecDepth 20000 in
set_option maxHeartbeats 8000000 in
theorem r11_format (l : List Nat) (w : World) (h8 : l.length = 8) (hl : ∀ x ∈ l, x < 65536) : Calls Tryd.prog 27 #[.agg (gcells l).toArray] w fun e w' => e = .returned (.string (mk (fmt6 l))) ∧ Below w.heap.size w w' := by
  have hcell := grp_new w 39 l
  have hbA : Below w.heap.size w (w.alloc (.cells (gcells l).toArray 39)) := (Below.refl _ w).alloc (Nat.le_refl _) _
  have hszA : w.heap.size < (w.alloc (.cells (gcells l).toArray 39)).heap.size := by simp
  have HA := Lib.hid (And.intro hbA (And.intro hszA hcell))
  have H8 := Lib.hid h8
  obtain ⟨fr, n, at', hbest, hn1, hn8, hfr8, hcase, hout⟩ := outR_fmt l h8
  have HBEST := Lib.hid hbest
  have HOUT := Lib.hid hout
  have HT := Lib.hid (fun g W hg => r11_hexText g W hg)
  clear hcell hbA hszA hbest hout
  go_enter Tryd.func27, Tryd.ntmps27
  go_wp2
  go_loopw [3, 4, 5] (fun av mv iv wr => ∃ (k m : Nat) (a : Int), iv = .int .i64 k ∧ k ≤ 8 ∧ av = .int .i64 a ∧ mv = .int .i64 m ∧ -1 ≤ a ∧ a ≤ 8 ∧ m ≤ 8 ∧ Hid (bestR l 0 (-1, 1) = bestR (l.drop k) k (a, m)) ∧ Below (w.alloc (.cells (gcells l).toArray 39)).heap.size (w.alloc (.cells (gcells l).toArray 39)) wr) (fun _ _ iv _ => 8 - (intOf iv).toNat)
  case atStart => exact ⟨0, 1, -1, rfl, by omega, rfl, rfl, by omega, by omega, by omega, Lib.hid rfl, Below.refl _ _⟩
  case round =>
    obtain ⟨k, m, a, rfl, hk, rfl, rfl, ha0, ha, hm, hst, hnx⟩ := hrel
    by_cases hlt : k < 8
    · have hkl : k < l.length := by rw [H8.out]; exact hlt
      have hst2 : Hid (bestR l 0 (-1, 1) = bestR (l.drop (k + 1)) (k + 1) (if m < runZ (l.drop k) then ((k : Int), runZ (l.drop k)) else (a, m))) := Lib.hid (by rw [hst.out, bestR_drop hkl])
      have hw1 : w.heap.size < wr.heap.size := Nat.lt_of_lt_of_le HA.out.2.1 hnx.size
      have HCR : Hid (∀ j (hj : j < l.length), wr.cell? ⟨w.heap.size, j, none⟩ = some (.int .u16 (l[j] : Int))) := Lib.hid (fun j hj => ((bcell hnx).1 w.heap.size j HA.out.2.1).trans (HA.out.2.2 j hj))
      clear hst
      go_wp2
      go_loopw [6] (fun nv wq => ∃ (j : Nat), nv = .int .i64 j ∧ k + j ≤ 8 ∧ Hid (runZ (l.drop k) = j + runZ (l.drop (k + j))) ∧ Below wr.heap.size wr wq) (fun nv _ => 8 - (intOf nv).toNat)
      case atStart => exact ⟨0, rfl, by omega, Lib.hid (by simp), Below.refl _ _⟩
      case round =>
        obtain ⟨j, rfl, hj, hrun, hnq⟩ := hrel
        by_cases hjl : k + j < 8
        · have hjl2 : k + j < l.length := by rw [H8.out]; exact hjl
          have g1 : decide ((k : Int) + (j : Int) < 8) = true := decide_eq_true (by omega)
          have c0 := ((bcell hnq).1 w.heap.size (k + j) hw1).trans (HCR.out (k + j) hjl2)
          have hx := hl l[k + j] (List.getElem_mem hjl2)
          by_cases h0 : l[k + j] = 0
          · have hr2 : Hid (runZ (l.drop k) = (j + 1) + runZ (l.drop (k + (j + 1)))) := Lib.hid (by rw [hrun.out, runZ_drop_zero hjl2 h0]; simp only [← Nat.add_assoc]; omega)
            rw [h0] at c0
            clear hrun h0 hx
            go_wp2
            all_goals (try (exfalso; omega))
            go_roundw
            case rel => exact ⟨j + 1, by go_num, by omega, hr2, hnq⟩
            case measure => simp [intOf]; omega
          · obtain ⟨x, hxx⟩ : ∃ x, x = l[k + j] := ⟨_, rfl⟩
            have hfin : Hid (runZ (l.drop k) = j) := Lib.hid (by rw [hrun.out, runZ_drop_not hjl2 h0, Nat.add_zero])
            rw [← hxx] at c0 h0 hx
            have g2 : ((x : Int) == 0) = false := by simp; omega
            clear hrun hxx
            by_cases hmj : m < j
            · have hst3 : Hid (bestR l 0 (-1, 1) = bestR (l.drop (k + 1)) (k + 1) ((k : Int), j)) := Lib.hid (by rw [hst2.out, hfin.out, if_pos hmj])
              clear hst2 hfin
              have g3 : decide ((m : Int) < (j : Int)) = true := decide_eq_true (by omega)
              go_wp2
              all_goals (try (exfalso; omega))
              go_roundw
              case rel => exact ⟨k + 1, j, (k : Int), by go_num, by omega, rfl, rfl, by omega, by omega, by omega, hst3, hnx.trans (hnq.mono hnx.size)⟩
              case measure => simp [intOf]; omega
            · have hst3 : Hid (bestR l 0 (-1, 1) = bestR (l.drop (k + 1)) (k + 1) (a, m)) := Lib.hid (by rw [hst2.out, hfin.out, if_neg hmj])
              clear hst2 hfin
              have g3 : decide ((m : Int) < (j : Int)) = false := decide_eq_false (by omega)
              go_wp2
              all_goals (try (exfalso; omega))
              go_roundw
              case rel => exact ⟨k + 1, m, a, by go_num, by omega, rfl, rfl, by omega, by omega, by omega, hst3, hnx.trans (hnq.mono hnx.size)⟩
              case measure => simp [intOf]; omega
        · have hfin : Hid (runZ (l.drop k) = j) := Lib.hid (by rw [hrun.out, List.drop_of_length_le (by rw [H8.out]; omega)]; rfl)
          have g1 : decide ((k : Int) + (j : Int) < 8) = false := decide_eq_false (by omega)
          clear hrun
          by_cases hmj : m < j
          · have hst3 : Hid (bestR l 0 (-1, 1) = bestR (l.drop (k + 1)) (k + 1) ((k : Int), j)) := Lib.hid (by rw [hst2.out, hfin.out, if_pos hmj])
            clear hst2 hfin
            have g3 : decide ((m : Int) < (j : Int)) = true := decide_eq_true (by omega)
            go_wp2
            all_goals (try (exfalso; omega))
            go_roundw
            case rel => exact ⟨k + 1, j, (k : Int), by go_num, by omega, rfl, rfl, by omega, by omega, by omega, hst3, hnx.trans (hnq.mono hnx.size)⟩
            case measure => simp [intOf]; omega
          · have hst3 : Hid (bestR l 0 (-1, 1) = bestR (l.drop (k + 1)) (k + 1) (a, m)) := Lib.hid (by rw [hst2.out, hfin.out, if_neg hmj])
            clear hst2 hfin
            have g3 : decide ((m : Int) < (j : Int)) = false := decide_eq_false (by omega)
            go_wp2
            all_goals (try (exfalso; omega))
            go_roundw
            case rel => exact ⟨k + 1, m, a, by go_num, by omega, rfl, rfl, by omega, by omega, by omega, hst3, hnx.trans (hnq.mono hnx.size)⟩
            case measure => simp [intOf]; omega
    · have hend : (at', n) = (a, m) := by rw [← HBEST.out, hst.out, List.drop_of_length_le (by rw [H8.out]; omega)]; rfl
      injection hend with e1 e2
      subst e1
      subst e2
      have HCR : Hid (∀ j (hj : j < l.length), wr.cell? ⟨w.heap.size, j, none⟩ = some (.int .u16 (l[j] : Int))) := Lib.hid (fun j hj => ((bcell hnx).1 w.heap.size j HA.out.2.1).trans (HA.out.2.2 j hj))
      have hall := HA.out.1.trans (hnx.mono HA.out.1.size)
      have hw1 : w.heap.size < wr.heap.size := Nat.lt_of_lt_of_le HA.out.2.1 hnx.size
      have HALL := Lib.hid hall
      have HL := Lib.hid hl
      clear hst hnx hall HBEST hl
      go_wp2
      go_loop [7, 8] (fun sv iv => ∃ (S : ByteArray) (k : Nat), sv = .string S ∧ iv = .int .i64 k ∧ k ≤ 8 ∧ S.size ≤ 82 ∧ (k ≤ fr ∨ fr + n ≤ k) ∧ Hid (un S = outR l fr n k)) (fun _ iv => 8 - (intOf iv).toNat)
      case atStart => exact ⟨⟨#[]⟩, 0, rfl, rfl, by omega, by decide, .inl (by omega), Lib.hid (by rw [outR_zero]; rfl)⟩
      case round =>
        obtain ⟨S, j, rfl, rfl, hj, hS, hkf, hst⟩ := hrel
        by_cases hlt2 : j < 8
        · by_cases hgap : j = fr
          · have hfr : at' = (fr : Int) ∧ fr + n ≤ 8 := by
              rcases hcase with ⟨h1, h2⟩ | h
              · omega
              · exact h
            have g1 : ((j : Int) == at') = true := by simp; omega
            have hlen := outR_len l fr n (fr + n) HL.out H8.out
            have hnx2 : Hid (un (S ++ (⟨#[58, 58]⟩ : ByteArray)) = outR l fr n (fr + n)) := Lib.hid (by rw [un_append, hst.out, outR_gap l fr n (by omega), hgap]; rfl)
            have hsz : (S ++ (⟨#[58, 58]⟩ : ByteArray)).size ≤ 82 := by rw [← length_un, hnx2.out]; exact hlen
            have hw : (j : Int) + ((n : Int) - 1) = ((fr + n - 1 : Nat) : Int) := by omega
            clear hlen hst
            go_wp2
            all_goals (try (exfalso; omega))
            go_round
            case rel => exact ⟨_, fr + n, rfl, by go_num, by omega, hsz, .inr (by omega), hnx2⟩
            case measure => simp [intOf]; omega
          · have g1 : ((j : Int) == at') = false := by
              simp
              rcases hcase with ⟨h1, h2⟩ | ⟨h1, h2⟩ <;> omega
            have hkl : j < l.length := by rw [H8.out]; exact hlt2
            have c0 := HCR.out j hkl
            have hx := HL.out l[j] (List.getElem_mem hkl)
            have hstep := outR_step l fr n j hkl (by omega)
            have hlen := outR_len l fr n (j + 1) HL.out H8.out
            rw [hstep] at hlen
            obtain ⟨x, hxx⟩ : ∃ x, x = l[j] := ⟨_, rfl⟩
            rw [← hxx] at c0 hx hstep hlen
            rw [← hst.out] at hstep hlen
            have HX := Lib.hid (fun W => HT.out x W hx)
            have hlx : (hexT x).length ≤ 4 := hexT_len x hx
            rcases ends_cases S with h0 | ⟨hlast, ⟨h58, hl58⟩ | ⟨h58, hne, hl58⟩⟩
            · have hun : un S = [] := List.eq_nil_of_length_eq_zero (by rw [length_un]; exact h0)
              have g2 : S.toList.isEmpty = true := by rw [toList_un, hun]; rfl
              rw [if_neg (fun h => h.1 hun)] at hstep hlen
              have hnx2 : Hid (un (S ++ mk (hexT x)) = outR l fr n (j + 1)) := Lib.hid (by rw [un_append, un_mk, hstep]; rfl)
              have hsz : (S ++ mk (hexT x)).size ≤ 82 := by rw [ByteArray.size_append, size_mk]; simp at hlen; omega
              clear hstep hlen hst hxx hun
              go_wp2_with fail
              all_goals (try (exfalso; omega))
              refine (HX.out _).mono ?_; rintro e w2 ⟨rfl, rfl⟩
              go_wp2
              all_goals (try (exfalso; omega))
              go_round
              case rel => exact ⟨_, j + 1, rfl, by go_num, by omega, hsz, by omega, hnx2⟩
              case measure => simp [intOf]; omega
            · have hun : un S ≠ [] := by intro e; rw [e] at hl58; cases hl58
              have g2 : S.toList.isEmpty = false := by
                rw [toList_un]
                cases hu : un S with
                | nil => exact absurd hu hun
                | cons a b => rfl
              have hS0 : 0 < S.size := by omega
              have g3 : (((S[S.size - 1]'hlast).toNat : Int) != 58) = false := by rw [h58]; rfl
              rw [if_neg (fun h => h.2 hl58)] at hstep hlen
              have hnx2 : Hid (un (S ++ mk (hexT x)) = outR l fr n (j + 1)) := Lib.hid (by rw [un_append, un_mk, hstep]; rfl)
              have hsz : (S ++ mk (hexT x)).size ≤ 82 := by rw [ByteArray.size_append, size_mk]; simp at hlen; omega
              clear hstep hlen hst hxx hun hl58 h58
              go_wp2_with fail
              all_goals (try (exfalso; omega))
              refine (HX.out _).mono ?_; rintro e w2 ⟨rfl, rfl⟩
              go_wp2
              all_goals (try (exfalso; omega))
              go_round
              case rel => exact ⟨_, j + 1, rfl, by go_num, by omega, hsz, by omega, hnx2⟩
              case measure => simp [intOf]; omega
            · have g2 : S.toList.isEmpty = false := by
                rw [toList_un]
                cases hu : un S with
                | nil => exact absurd hu hne
                | cons a b => rfl
              have hS0 : 0 < S.size := by omega
              have g3 : (((S[S.size - 1]'hlast).toNat : Int) != 58) = true := by
                have : (S[S.size - 1]'hlast).toNat ≠ 58 := fun e => h58 (UInt8.toNat_inj.1 (by rw [e]; rfl))
                simp; omega
              rw [if_pos ⟨hne, hl58⟩] at hstep hlen
              have hnx2 : Hid (un (S ++ (⟨#[58]⟩ : ByteArray) ++ mk (hexT x)) = outR l fr n (j + 1)) := Lib.hid (by rw [un_append, un_append, un_mk, hstep, List.append_assoc]; rfl)
              have hsz : (S ++ (⟨#[58]⟩ : ByteArray) ++ mk (hexT x)).size ≤ 82 := by rw [← length_un, hnx2.out, hstep]; exact hlen
              clear hstep hlen hst hxx hne hl58 h58
              go_wp2_with fail
              all_goals (try (exfalso; omega))
              refine (HX.out _).mono ?_; rintro e w2 ⟨rfl, rfl⟩
              go_wp2
              all_goals (try (exfalso; omega))
              go_round
              case rel => exact ⟨_, j + 1, rfl, by go_num, by omega, hsz, by omega, hnx2⟩
              case measure => simp [intOf]; omega
        · obtain rfl : j = 8 := by omega
          have hfin : Hid (S = mk (fmt6 l)) := Lib.hid (un_inj (by rw [un_mk, hst.out, HOUT.out]))
          clear hst
          go_wp2
          all_goals (try (exfalso; omega))
          go_ret
          rw [hfin.out]
          exact ⟨rfl, HALL.out⟩
end Go.Proofs.YtblcgicgbindlaaDoor
