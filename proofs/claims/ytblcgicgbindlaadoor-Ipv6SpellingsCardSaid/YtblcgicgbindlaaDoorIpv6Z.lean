/- The walk of zeros of ipv6. Conditions: eight groups. -/
import Derived.Test.YtblcgicgbindlaaDoorIpv6P
namespace Go.Proofs.YtblcgicgbindlaaDoor
open Go.RowKit Hs
set_option linter.unusedSimpArgs false
set_option linter.unusedVariables false

/-- The cells of a new block of groups. -/
theorem grp_new (w : World) (T : TypeId) (l : List Nat) : ∀ j (hj : j < l.length), (w.alloc (.cells (gcells l).toArray T)).cell? ⟨w.heap.size, j, none⟩ = some (.int .u16 (l[j] : Int)) := by
  intro j hj
  rw [World.cell?_alloc_mark]
  simp [gcells, List.getElem?_eq_getElem hj]
theorem runZ_drop_zero {l : List Nat} {k : Nat} (h : k < l.length) (h0 : l[k] = 0) : runZ (l.drop k) = runZ (l.drop (k + 1)) + 1 := by
  rw [List.drop_eq_getElem_cons h, runZ, if_pos h0]
theorem runZ_drop_not {l : List Nat} {k : Nat} (h : k < l.length) (h0 : l[k] ≠ 0) : runZ (l.drop k) = 0 := by
  rw [List.drop_eq_getElem_cons h, runZ, if_neg h0]
theorem bestZ_drop {l : List Nat} {k : Nat} (h : k < l.length) (b : Nat × Nat) : bestZ (l.drop k) k b = bestZ (l.drop (k + 1)) (k + 1) (if b.2 < runZ (l.drop k) then (k, runZ (l.drop k)) else b) := by
  rw [List.drop_eq_getElem_cons h, bestZ]

set_option maxHeartbeats 4000000 in
theorem i6_zeros (l : List Nat) (w : World) (h8 : l.length = 8) (hl : ∀ x ∈ l, x < 65536) : Calls Tryd.prog 45 #[.agg (gcells l).toArray] w fun e w' => e = .returned (.tuple #[.int .i64 (bestZ l 0 (0, 0)).1, .int .i64 (bestZ l 0 (0, 0)).2]) ∧ Below w.heap.size w w' := by
  have hcell := grp_new w 39 l
  have hbA : Below w.heap.size w (w.alloc (.cells (gcells l).toArray 39)) := (Below.refl _ w).alloc (Nat.le_refl _) _
  have hszA : w.heap.size < (w.alloc (.cells (gcells l).toArray 39)).heap.size := by simp
  have HA := Lib.hid (And.intro hbA (And.intro hszA hcell))
  have H8 := Lib.hid h8
  clear hcell hbA hszA
  go_enter Tryd.func45, Tryd.ntmps45
  go_wp2
  go_loopw [4, 5, 8] (fun av mv iv wr => ∃ (k a m : Nat), iv = .int .i64 k ∧ k ≤ 8 ∧ av = .int .i64 a ∧ mv = .int .i64 m ∧ a ≤ 8 ∧ m ≤ 8 ∧ Hid (bestZ l 0 (0, 0) = bestZ (l.drop k) k (a, m)) ∧ Below (w.alloc (.cells (gcells l).toArray 39)).heap.size (w.alloc (.cells (gcells l).toArray 39)) wr) (fun _ _ iv _ => 8 - (intOf iv).toNat)
  case atStart => exact ⟨0, 0, 0, rfl, by omega, rfl, rfl, by omega, by omega, Lib.hid rfl, Below.refl _ _⟩
  case round =>
    obtain ⟨k, a, m, rfl, hk, rfl, rfl, ha, hm, hst, hnx⟩ := hrel
    by_cases hlt : k < 8
    · have hkl : k < l.length := by rw [H8.out]; exact hlt
      have hst2 : Hid (bestZ l 0 (0, 0) = bestZ (l.drop (k + 1)) (k + 1) (if m < runZ (l.drop k) then (k, runZ (l.drop k)) else (a, m))) := Lib.hid (by rw [hst.out, bestZ_drop hkl])
      have hw1 : w.heap.size < wr.heap.size := Nat.lt_of_lt_of_le HA.out.2.1 hnx.size
      have HCR : Hid (∀ j (hj : j < l.length), wr.cell? ⟨w.heap.size, j, none⟩ = some (.int .u16 (l[j] : Int))) := Lib.hid (fun j hj => ((bcell hnx).1 w.heap.size j HA.out.2.1).trans (HA.out.2.2 j hj))
      clear hst
      go_wp2
      go_loopw [7] (fun nv wq => ∃ (j : Nat), nv = .int .i64 j ∧ k + j ≤ 8 ∧ Hid (runZ (l.drop k) = j + runZ (l.drop (k + j))) ∧ Below wr.heap.size wr wq) (fun nv _ => 8 - (intOf nv).toNat)
      case atStart => exact ⟨0, rfl, by omega, Lib.hid (by simp), Below.refl _ _⟩
      case round =>
        obtain ⟨j, rfl, hj, hrun, hnq⟩ := hrel
        by_cases hjl : k + j < 8
        · have hjl2 : k + j < l.length := by rw [H8.out]; exact hjl
          have g1 : decide ((k : Int) + (j : Int) < 8) = true := decide_eq_true (by omega)
          have c0 := ((bcell hnq).1 w.heap.size (k + j) hw1).trans (HCR.out (k + j) hjl2)
          have hx := hl l[k + j] (List.getElem_mem hjl2)
          by_cases h0 : l[k + j] = 0
          · have hr2 : Hid (runZ (l.drop k) = (j + 1) + runZ (l.drop (k + (j + 1)))) := Lib.hid (by rw [hrun.out, runZ_drop_zero hjl2 h0]; simp only [← Nat.add_assoc]; omega)
            rw [h0] at c0
            clear hrun h0 hx
            go_wp2
            all_goals (try (exfalso; omega))
            go_roundw
            case rel => exact ⟨j + 1, by go_num, by omega, hr2, hnq⟩
            case measure => simp [intOf]; omega
          · obtain ⟨x, hxx⟩ : ∃ x, x = l[k + j] := ⟨_, rfl⟩
            have hfin : Hid (runZ (l.drop k) = j) := Lib.hid (by rw [hrun.out, runZ_drop_not hjl2 h0, Nat.add_zero])
            rw [← hxx] at c0 h0 hx
            have g2 : ((x : Int) == 0) = false := by simp; omega
            clear hrun hxx
            by_cases hmj : m < j
            · have hst3 : Hid (bestZ l 0 (0, 0) = bestZ (l.drop (k + 1)) (k + 1) (k, j)) := Lib.hid (by rw [hst2.out, hfin.out, if_pos hmj])
              clear hst2 hfin
              have g3 : decide ((m : Int) < (j : Int)) = true := decide_eq_true (by omega)
              go_wp2
              all_goals (try (exfalso; omega))
              go_roundw
              case rel => exact ⟨k + 1, k, j, by go_num, by omega, rfl, rfl, by omega, by omega, hst3, hnx.trans (hnq.mono hnx.size)⟩
              case measure => simp [intOf]; omega
            · have hst3 : Hid (bestZ l 0 (0, 0) = bestZ (l.drop (k + 1)) (k + 1) (a, m)) := Lib.hid (by rw [hst2.out, hfin.out, if_neg hmj])
              clear hst2 hfin
              have g3 : decide ((m : Int) < (j : Int)) = false := decide_eq_false (by omega)
              go_wp2
              all_goals (try (exfalso; omega))
              go_roundw
              case rel => exact ⟨k + 1, a, m, by go_num, by omega, rfl, rfl, by omega, by omega, hst3, hnx.trans (hnq.mono hnx.size)⟩
              case measure => simp [intOf]; omega
        · have hfin : Hid (runZ (l.drop k) = j) := Lib.hid (by rw [hrun.out, List.drop_of_length_le (by rw [H8.out]; omega)]; rfl)
          have g1 : decide ((k : Int) + (j : Int) < 8) = false := decide_eq_false (by omega)
          clear hrun
          by_cases hmj : m < j
          · have hst3 : Hid (bestZ l 0 (0, 0) = bestZ (l.drop (k + 1)) (k + 1) (k, j)) := Lib.hid (by rw [hst2.out, hfin.out, if_pos hmj])
            clear hst2 hfin
            have g3 : decide ((m : Int) < (j : Int)) = true := decide_eq_true (by omega)
            go_wp2
            all_goals (try (exfalso; omega))
            go_roundw
            case rel => exact ⟨k + 1, k, j, by go_num, by omega, rfl, rfl, by omega, by omega, hst3, hnx.trans (hnq.mono hnx.size)⟩
            case measure => simp [intOf]; omega
          · have hst3 : Hid (bestZ l 0 (0, 0) = bestZ (l.drop (k + 1)) (k + 1) (a, m)) := Lib.hid (by rw [hst2.out, hfin.out, if_neg hmj])
            clear hst2 hfin
            have g3 : decide ((m : Int) < (j : Int)) = false := decide_eq_false (by omega)
            go_wp2
            all_goals (try (exfalso; omega))
            go_roundw
            case rel => exact ⟨k + 1, a, m, by go_num, by omega, rfl, rfl, by omega, by omega, hst3, hnx.trans (hnq.mono hnx.size)⟩
            case measure => simp [intOf]; omega
    · obtain rfl : k = 8 := by omega
      have hend : Hid (bestZ l 0 (0, 0) = (a, m)) := Lib.hid (by rw [hst.out, List.drop_of_length_le (by rw [H8.out]; omega)]; rfl)
      clear hst
      go_wp2
      go_ret2
      rw [hend.out]
      exact ⟨rfl, HA.out.1.trans (hnx.mono HA.out.1.size)⟩
end Go.Proofs.YtblcgicgbindlaaDoor
