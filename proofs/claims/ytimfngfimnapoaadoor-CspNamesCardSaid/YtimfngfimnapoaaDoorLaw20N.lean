/- The walk of the law CspNames (layer 20): it returns true; memory that existed is unchanged. Conditions: none. -/
import Derived.Test.YtimfngfimnapoaaDoorLaw20
import Derived.Test.YtimfngfimnapoaaDoorCspF
namespace Go.Proofs.YtimfngfimnapoaaDoor
open Go.RowKit Hs
set_option linter.unusedSimpArgs false
set_option linter.unusedVariables false

theorem names_one (v : Bs) (h : v.length ≤ 4096) : cspM [v] = (uniqN [] (headsV v), 0) := by
  unfold cspM
  rw [mergeN_short _ _ _ (by omega), mergeN_nil]
theorem names_long (v : Bs) (h : 4096 < v.length) : cspM [v] = ([], 3) := by
  unfold cspM
  rw [mergeN_long _ _ _ h]
theorem names_law (v : Bs) : (uniqN [] (headsV v)).Nodup ∧ ∀ n ∈ uniqN [] (headsV v), (lower n = n ∧ n ≠ []) ∧ n.length ≤ v.length := by
  refine ⟨nodup_uniqN _ _ List.nodup_nil, fun n hn => ?_⟩
  rcases (mem_uniqN _ _ n).1 hn with h | h
  · cases h
  · exact ⟨headsV_lower v n h, headsV_len v n h⟩
theorem take_flag (N : List Bs) (i : Nat) (h : i < N.length) (u : Bs) : decide (u ∈ N.take (i + 1)) = (decide (u ∈ N.take i) || decide (N[i] = u)) := by
  rw [List.take_succ_eq_append_getElem h, Bool.eq_iff_iff]
  simp only [List.mem_append, List.mem_singleton, Bool.or_eq_true, decide_eq_true_eq]
  exact ⟨fun h => h.imp id Eq.symm, fun h => h.imp id Eq.symm⟩
theorem nodup_ne (N : List Bs) (h : N.Nodup) (q i : Nat) (hi : i < N.length) (hq : q < i) : N[q]'(by omega) ≠ N[i] := fun e => by
  have := (List.getElem_inj (h₀ := by omega) (h₁ := hi) h).1 e
  omega

set_option maxHeartbeats 4000000 in
theorem names_walk20 (s : ByteArray) (w : World) (hs : s.size ≤ maxLen) : Calls Tryd.prog 5 #[.string s] w fun e w' => e = .returned (.bool true) ∧ Below w.heap.size w w' := by
  have AW := Lib.hid (fun W => law20_awake W)
  have hP := parse_flags s w hs
  unfold maxLen at hs
  by_cases hlong : 4096 < s.size
  · rw [names_long _ (by rw [length_un]; exact hlong)] at hP
    have HP := Lib.hid hP
    have hlong' : (4096 : Int) < (s.size : Int) := by omega
    clear hP hlong
    go_enter Tryd.func5, Tryd.ntmps5
    go_wp2_with fail
    refine HP.out.mono ?_; rintro e w1 ⟨u, b1, b2, rfl, h1, h2, h3, h4⟩
    obtain ⟨a1, c1, rfl, _⟩ := h3.open
    have r1 := Blk3.new w1 26 (.bool b1) (.bool b2) (.slice a1 0 c1)
    have z2 := r1.c2
    have B1 := h4.alloc h4.size (.cells #[.bool b1, .bool b2, .slice a1 0 c1] 26)
    clear h1 h2 h3 h4
    go_wp2_with fail
    refine (AW.out _).mono ?_; rintro e w2 ⟨rfl, hb2⟩
    go_wp2_with fail
    go_ret
    exact ⟨rfl, B1.trans (hb2.mono B1.size)⟩
  · rw [names_one _ (by rw [length_un]; omega)] at hP
    have HLAW := Lib.hid (names_law (un s))
    have HL := Lib.hid (length_uniqN (headsV (un s)) [])
    have HL2 := Lib.hid (length_headsV (un s) (by rw [length_un]; omega))
    obtain ⟨N, hN⟩ : ∃ N, N = uniqN [] (headsV (un s)) := ⟨_, rfl⟩
    rw [← hN] at hP HLAW HL
    have HP := Lib.hid hP
    have hlong' : ((s.size : Int) ≤ 4096) := by omega
    have hNl : N.length ≤ 20259001 := by have h1 := HL.out; have h2 := HL2.out; simp at h1; omega
    clear hP hlong hN HL HL2
    go_enter Tryd.func5, Tryd.ntmps5
    go_wp2_with fail
    refine HP.out.mono ?_; rintro e w1 ⟨u, b1, b2, rfl, h1, h2, h3, h4⟩
    obtain ⟨a1, c1, rfl, hn1, hm1, hc1⟩ := h3.open
    unfold maxLen at hm1
    have HB1 := Lib.hid h1
    have HB2 := Lib.hid h2
    have r1 := Blk3.new w1 26 (.bool b1) (.bool b2) (.slice a1 N.length c1)
    have D1 := (Below.refl _ w1).alloc (Nat.le_refl _) (.cells #[.bool b1, .bool b2, .slice a1 N.length c1] 26)
    have B1 := h4.trans (D1.mono h4.size)
    have hc2 : ∀ (hn : 0 < N.length), ∃ b off, a1 = some ⟨b, off, none⟩ ∧ b < w1.heap.size ∧ ∀ j (hj : j < N.length), (w1.alloc (.cells #[.bool b1, .bool b2, .slice a1 N.length c1] 26)).cell? ⟨b, off + j, none⟩ = some (.string (mk N[j])) := fun hn => by
      obtain ⟨b, off, e, hb, hcell⟩ := hc1 hn
      exact ⟨b, off, e, hb, fun j hj => ((bcell D1).1 b (off + j) hb).trans (hcell j hj)⟩
    have HC := Lib.hid hc2
    clear h1 h2 h3 h4 hc1 hc2 D1 HP
    obtain ⟨g, hg⟩ : ∃ g, g = w1.heap.size := ⟨_, rfl⟩
    go_wp2
    rw [← hg] at r1 HC ⊢
    have HG := Lib.hid hg
    have hgs : g < (w1.alloc (.cells #[.bool b1, .bool b2, .slice a1 N.length c1] 26)).heap.size := by simp; omega
    clear hg
    generalize w1.alloc (.cells #[.bool b1, .bool b2, .slice a1 N.length c1] 26) = W1 at *
    go_loopw [5, 6, 7] (fun uv bv iv wr => ∃ i : Nat, iv = .int .i64 i ∧ i ≤ N.length ∧ uv = .bool (decide (un upB ∈ N.take i)) ∧ bv = .bool (decide (un blB ∈ N.take i)) ∧ Below W1.heap.size W1 wr) (fun _ _ iv _ => N.length - (intOf iv).toNat)
    case atStart => exact ⟨0, rfl, by omega, by simp, by simp, Below.refl _ _⟩
    case round =>
      obtain ⟨i, rfl, hi, rfl, rfl, hnx⟩ := hrel
      have hws := hnx.size
      have r2 := r1.below hnx
      have z0 := r2.c0; have z1 := r2.c1; have z2 := r2.c2
      by_cases hlt : i < N.length
      · obtain ⟨b, off, rfl, hb, hcell⟩ := HC.out (by omega)
        have hcw : ∀ j (hj : j < N.length), wr.cell? ⟨b, off + j, none⟩ = some (.string (mk N[j])) := fun j hj => ((bcell hnx).1 b (off + j) (by omega)).trans (hcell j hj)
        have c0 := hcw i hlt
        have HCW := Lib.hid hcw
        obtain ⟨⟨hlow, hne⟩, hnl⟩ := HLAW.out.2 N[i] (List.getElem_mem hlt)
        rw [length_un] at hnl
        have HND := Lib.hid (fun q hq => nodup_ne N HLAW.out.1 q i hlt hq)
        have F1 := Lib.hid (take_flag N i hlt (un upB))
        have F2 := Lib.hid (take_flag N i hlt (un blB))
        obtain ⟨n, hn⟩ : ∃ n, n = N[i] := ⟨_, rfl⟩
        rw [← hn] at c0 hlow hne F1 F2 hnl
        simp only [← hn] at HND
        clear hcell hcw hn
        obtain ⟨B1f, hB1f⟩ : ∃ B1f, B1f = decide (un upB ∈ N.take i) := ⟨_, rfl⟩
        obtain ⟨B2f, hB2f⟩ : ∃ B2f, B2f = decide (un blB ∈ N.take i) := ⟨_, rfl⟩
        rw [← hB1f] at F1 ⊢
        rw [← hB2f] at F2 ⊢
        clear hB1f hB2f
        have hnE : (mk n).toList.isEmpty = false := by rw [toList_mk']; simpa using hne
        · have hL := ref01_lower (mk n) wr (by rw [size_mk]; omega)
          rw [un_mk, hlow] at hL
          have HLO := Lib.hid hL
          clear hL hlow hne
          go_wp2_with fail
          refine HLO.out.mono ?_; rintro e w3 ⟨rfl, hb3⟩
          have hnx3 := hnx.trans (hb3.mono hws)
          have r3 := r2.below hb3
          have y0 := r3.c0; have y1 := r3.c1; have y2 := r3.c2
          have HCX : Hid (∀ j (hj : j < N.length), w3.cell? ⟨b, off + j, none⟩ = some (.string (mk N[j]))) := Lib.hid (fun j hj => ((bcell hb3).1 b (off + j) (by omega)).trans (HCW.out j hj))
          clear hb3 HCW c0 z0 z1 z2 r2 hnx
          go_wp2
          go_loop [9] (fun qv => ∃ q : Nat, qv = .int .i64 q ∧ q ≤ i) (fun qv => i - (intOf qv).toNat)
          case atStart => exact ⟨0, rfl, by omega⟩
          case round =>
            obtain ⟨q, rfl, hq⟩ := hrel
            by_cases hqi : q < i
            · have d0 := HCX.out q (by omega)
              have hqn := HND.out q hqi
              have hql : q < N.length := by omega
              obtain ⟨y, hy⟩ : ∃ y, y = N[q]'hql := ⟨_, rfl⟩
              rw [← hy] at d0 hqn
              have hb : ((mk y).toList == (mk n).toList) = false := by rw [beq_eq_false_iff_ne, toList_mk', toList_mk']; exact hqn
              have hb2 : ¬ (mk y).toList = (mk n).toList := by rw [toList_mk', toList_mk']; exact hqn
              clear hy hqn
              go_wp2
              go_round
              case rel => exact ⟨q + 1, by go_num, by omega⟩
              case measure => simp [intOf]; omega
            · obtain rfl : q = i := by omega
              cases B1f
              · cases B2f
                · go_wp2
                  go_roundw
                  case rel => exact ⟨q + 1, by go_num, by omega, by rw [F1.out, Bool.false_or]; exact congrArg Value.bool (eq_flag n upB), by rw [F2.out, Bool.false_or]; exact congrArg Value.bool (eq_flag n blB), hnx3⟩
                  case measure => simp [intOf]; omega
                · go_wp2
                  go_roundw
                  case rel => exact ⟨q + 1, by go_num, by omega, by rw [F1.out, Bool.false_or]; exact congrArg Value.bool (eq_flag n upB), by rw [F2.out, Bool.true_or], hnx3⟩
                  case measure => simp [intOf]; omega
              · cases B2f
                · go_wp2
                  go_roundw
                  case rel => exact ⟨q + 1, by go_num, by omega, by rw [F1.out, Bool.true_or], by rw [F2.out, Bool.false_or]; exact congrArg Value.bool (eq_flag n blB), hnx3⟩
                  case measure => simp [intOf]; omega
                · go_wp2
                  go_roundw
                  case rel => exact ⟨q + 1, by go_num, by omega, by rw [F1.out, Bool.true_or], by rw [F2.out, Bool.true_or], hnx3⟩
                  case measure => simp [intOf]; omega
      · obtain rfl : i = N.length := by omega
        rw [List.take_length, ← HB1.out, ← HB2.out]
        go_wp2_with fail
        refine (AW.out _).mono ?_; rintro e w2 ⟨rfl, hb2⟩
        have B2 := B1.trans (hnx.mono B1.size)
        go_wp2_with fail
        go_ret
        exact ⟨rfl, B2.trans (hb2.mono B2.size)⟩
end Go.Proofs.YtimfngfimnapoaaDoor
