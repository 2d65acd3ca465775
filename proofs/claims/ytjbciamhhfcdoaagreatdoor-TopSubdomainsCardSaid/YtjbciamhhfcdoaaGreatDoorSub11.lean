/- The walk of decoder.step of Punycode of the program. Conditions: the decoder's block is known whole; the numbers are bounded. -/
import Derived.Test.YtjbciamhhfcdoaaGreatDoorSub10
import Derived.Deep.RegionHeld3
import Derived.StillTailTactics
import Derived.Deep.DeepCutAuto
namespace Go.Proofs.YtjbciamhhfcdoaaGreatDoor
open Go.RowKit Hs
set_option linter.unusedSimpArgs false
set_option linter.unusedVariables false

set_option maxRecDepth 20000 in
set_option maxHeartbeats 16000000 in
theorem d_step (g : Nat) (l : Bs) (v : Value) (pts : List Nat) (nn ii bi : Nat) (st : Bool) (w : World) (hd : BlkL w g 220 [.string (mk l), v, .int .i64 (nn : Int), .int .i64 (ii : Int), .int .i64 (bi : Int), .bool st]) (hown : w.ownsRow (g + 1) 3 1 v pts.length (ncells pts))
    (h0 : l ≠ []) (hl : l.length ≤ 100000) (hnn : nn ≤ 1114111) (hii : ii ≤ 257) (hbi : bi ≤ 324) (hpl : pts.length ≤ 256) :
    Calls Tryz.prog 216 #[.pointer (some ⟨g, 0, none⟩)] w fun e w' => (∃ c, e = .returned (.int .i64 c) ∧ ((c = 0 ∧ ∃ (l2 : Bs) (v2 : Value) (pts2 : List Nat) (nn2 ii2 bi2 : Nat), decL l nn ii bi (!st) pts = decL l2 nn2 ii2 bi2 false pts2 ∧ l2.length < l.length ∧ nn2 ≤ 1114111 ∧ ii2 ≤ 257 ∧ bi2 ≤ 324 ∧ pts2.length ≤ 256 ∧ BlkL w' g 220 [.string (mk l2), v2, .int .i64 (nn2 : Int), .int .i64 (ii2 : Int), .int .i64 (bi2 : Int), .bool true] ∧ w'.ownsRow (g + 1) 3 1 v2 pts2.length (ncells pts2)) ∨ (c ≠ 0 ∧ decL l nn ii bi (!st) pts = none))) ∧ Below g w w' := by
  have hnum := d_number g l v nn ii bi st w hd hl hii hbi
  have HNUM := Lib.hid hnum
  have c3 := hd.c 3 _ rfl
  have hgl := hd.lt
  have HD := Lib.hid hd
  have HDL : Hid (∃ x, x = decL l nn ii bi (!st) pts) := Lib.hid ⟨_, rfl⟩
  obtain ⟨R, hR⟩ := HDL.out
  have HR := Lib.hid hR
  rw [← hR]
  have HOWN := Lib.hid hown
  obtain ⟨m, hm⟩ : ∃ m, m = pts.length := ⟨_, rfl⟩
  rw [← hm] at hpl hown
  have HM := Lib.hid hm
  obtain ⟨a, cp, rfl⟩ := own_sliceN hown
  clear hR hown hm hnum hd HDL
  go_enter Tryz.func216, Tryz.ntmps216
  go_wp2_with fail
  all_goals (try (exfalso; omega))
  refine (HNUM.out).mono ?_; rintro e w2 ⟨⟨c, rfl, hres⟩, hg2⟩
  have HG2 := Lib.hid hg2
  clear hg2 HNUM c3
  rcases hres with ⟨rfl, p, hp, hd2⟩ | ⟨hc, hnone⟩
  · have hps := numD_short l ii 1 0 bi p hp
    have hdl := decL_some (n := nn) (first := !st) (pts := pts) hp
    rw [← HR.out, ← HM.out] at hdl
    obtain ⟨I, l2⟩ := p
    simp only at hps hdl hd2
    have HO2 := Lib.hid (HOWN.out.kept HG2.out (own_far HOWN.out (Nat.lt_succ_self g)))
    have q1 := hd2.c 1 _ rfl
    have q3 := hd2.c 3 _ rfl
    have q5 := hd2.c 5 _ rfl
    have k4 := hd2.f 4
    have q4 := hd2.c 4 _ rfl
    obtain ⟨D, hD⟩ : ∃ D, D = I - ii := ⟨_, rfl⟩
    rw [← hD] at hdl
    have hDi : (I : Int) - (ii : Int) = (D : Int) := by omega
    have hDb : D ≤ 1099511627776 := by omega
    have had := fun W => py_adapt D (m + 1) (!st) W hDb (by omega) (by omega)
    have hadb := adaptN_le D (m + 1) (!st) hDb
    obtain ⟨bi2, hbi2⟩ : ∃ b2, b2 = adaptN D (m + 1) (!st) := ⟨_, rfl⟩
    rw [← hbi2] at hadb hdl
    simp only [← hbi2] at had
    push_cast at had
    have had2 : ∀ (W : World) (x y : Int), x = (D : Int) → y = (m : Int) + 1 → Calls Tryz.prog 219 #[.int .i64 x, .int .i64 y, .bool (!st)] W fun e w' => e = .returned (.int .i64 (bi2 : Int)) ∧ W = w' := by rintro W x y rfl rfl; exact had W
    have HAD := Lib.hid had2
    obtain ⟨q, hq⟩ : ∃ q, q = I / (m + 1) := ⟨_, rfl⟩
    obtain ⟨r, hr⟩ : ∃ r, r = I % (m + 1) := ⟨_, rfl⟩
    rw [← hq, ← hr] at hdl
    have hrm : r ≤ m := by have := Nat.mod_lt I (show 0 < m + 1 by omega); omega
    have hqb : q ≤ 1099511627776 := by have := Nat.div_le_self I (m + 1); omega
    have e2 : (m : Int) + 1 = ((m + 1 : Nat) : Int) := by omega
    have HQI : Hid ((I : Int) / ((m : Int) + 1) = (q : Int)) := Lib.hid (by rw [e2, hq]; rfl)
    have HQT : Hid ((I : Int).tdiv ((m : Int) + 1) = (q : Int)) := Lib.hid (by rw [Int.tdiv_eq_ediv_of_nonneg (by omega)]; exact HQI.out)
    have HRI : Hid ((I : Int) % ((m : Int) + 1) = (r : Int)) := Lib.hid (by rw [e2, hr]; rfl)
    have HRT : Hid ((I : Int).tmod ((m : Int) + 1) = (r : Int)) := Lib.hid (by rw [Int.tmod_eq_emod_of_nonneg (by omega)]; exact HRI.out)
    have hpt := fun W => py_point (nn + q) W (by omega)
    obtain ⟨ok, hok⟩ : ∃ ok, ok = ptOk (nn + q) := ⟨_, rfl⟩
    have hokb : Hid (ok = true → nn + q ≤ 1114111) := Lib.hid (fun h => by rw [hok] at h; exact (of_decide_eq_true h).1)
    rw [← hok] at hdl
    simp only [← hok] at hpt
    push_cast at hpt
    have HPT := Lib.hid hpt
    have HDL2 := Lib.hid hdl
    have HD2 := Lib.hid hd2
    have hI0 : I ≤ 1099511627776 := hps.2.2
    have HLS := Lib.hid hps.1
    clear hdl hD had had2 hbi2 hq hr e2 hpt hok hd2 hps hp
    go_upto_region 6 with fail
    all_goals (try (exfalso; omega))
    go_cut [] (fun wx => BlkL wx g 220 [.string (mk l2), .slice a m cp, .int .i64 (nn : Int), .int .i64 (I : Int), .int .i64 (bi2 : Int), .bool st] ∧ w2.grownBy wx (some g))
    case first =>
      go_still_tail 16, (by kernel_rfl)
      still_call ((HAD.out _ _ _ (by first | exact hDi | (rw [IntKind.wrap_i64] <;> omega) | omega) (by first | rfl | (rw [IntKind.wrap_i64] <;> omega) | omega)).mono (fun _ _ h => ⟨h.1, h.2.symm⟩))
      repeat still_step
      refine wpStill_nil ?_
      change wpList _ _ _ _ _ w2.drew
      all_goals (go_wp2; go_meet; exact ⟨HD2.out.drew.set 4 (by simp) (.int .i64 (bi2 : Int)), gb_trans (gb_drew (gb_refl _ _)) (gb_set _ g 4 (.int .i64 (bi2 : Int)))⟩)
    case rest =>
    obtain ⟨hd3, hg3⟩ := hcut
    clear q1 q3 q5 k4 q4 HD2 HAD
    have p5 := hd3.c 5 _ rfl
    have g5 := hd3.f 5
    have HD3 := Lib.hid hd3
    have HG3 := Lib.hid hg3
    clear hd3 hg3
    have hb5 : BlkL (wc.setCell ⟨g, 5, none⟩ (.bool true)) g 220 [.string (mk l2), .slice a m cp, .int .i64 (nn : Int), .int .i64 (I : Int), .int .i64 (bi2 : Int), .bool true] := HD3.out.set 5 (by simp) (.bool true)
    have hg5 := gb_trans HG3.out (gb_set wc g 5 (.bool true))
    obtain ⟨w5, hw5⟩ : ∃ w5, w5 = wc.setCell ⟨g, 5, none⟩ (.bool true) := ⟨_, rfl⟩
    rw [← hw5] at hb5 hg5
    have HW5 := Lib.hid hw5
    have HB5 := Lib.hid hb5
    have HG5 := Lib.hid hg5
    clear hw5 hb5 hg5
    go_upto_region 8 with fail
    all_goals (try (exfalso; omega))
    go_cut [] (fun wx => BlkL wx g 220 [.string (mk l2), .slice a m cp, .int .i64 ((nn : Int) + (q : Int)), .int .i64 (I : Int), .int .i64 (bi2 : Int), .bool true] ∧ w2.grownBy wx (some g))
    case first =>
      rw [← HW5.out]
      have p2 := HB5.out.c 2 _ rfl
      have p3 := HB5.out.c 3 _ rfl
      have k2 := HB5.out.f 2
      have hqi := HQI.out
      have hqt := HQT.out
      have hmz : (m : Int) + 1 ≠ 0 := by omega
      clear p5 g5
      go_still_tail 13, (by kernel_rfl)
      all_goals (change wpList _ _ _ _ _ w5.drew)
      go_wp2
      all_goals (go_meet; exact ⟨HB5.out.drew.set 2 (by simp) (.int .i64 ((nn : Int) + (q : Int))), gb_trans (gb_drew HG5.out) (gb_set _ g 2 (.int .i64 ((nn : Int) + (q : Int))))⟩)
    case rest =>
    obtain ⟨hd6, hg6⟩ := hcut
    clear p5 g5 HD3 HG3 HB5 HG5 HW5
    have p3 := hd6.c 3 _ rfl
    have k3 := hd6.f 3
    have b7 : BlkL (wc.setCell ⟨g, 3, none⟩ (.int .i64 (r : Int))) g 220 [.string (mk l2), .slice a m cp, .int .i64 ((nn : Int) + (q : Int)), .int .i64 (r : Int), .int .i64 (bi2 : Int), .bool true] := hd6.set 3 (by simp) (.int .i64 (r : Int))
    have p2 := b7.c 2 _ rfl
    have HG7 := Lib.hid (gb_trans hg6 (gb_set wc g 3 (.int .i64 (r : Int))))
    have HB7 := Lib.hid b7
    have hri := HRI.out
    have hrt := HRT.out
    have hmz : (m : Int) + 1 ≠ 0 := by omega
    obtain ⟨w7, hw7⟩ : ∃ w7, w7 = wc.setCell ⟨g, 3, none⟩ (.int .i64 (r : Int)) := ⟨_, rfl⟩
    rw [← hw7] at HG7 HB7
    have HW7 := Lib.hid hw7
    have HO7 := Lib.hid (HO2.out.kept HG7.out (own_far HO2.out (Nat.lt_succ_self g)))
    have HBEL := Lib.hid (below_gb (gb_trans HG2.out HG7.out) (Nat.le_refl _) (by omega))
    clear b7 hd6 hg6 hw7
    cases ok
    · have HN := Lib.hid (HDL2.out.trans (if_pos rfl))
      clear HDL2
      go_wp2_with fail
      all_goals (try (exfalso; omega))
      refine (HPT.out _).mono ?_; rintro e w6 ⟨rfl, rfl⟩
      go_wp2
      all_goals (try (exfalso; omega))
      go_ret
      rw [← HW7.out]
      exact ⟨⟨_, rfl, .inr ⟨by decide, HN.out⟩⟩, HBEL.out⟩
    · have hN1 := hokb.out rfl
      have HDL3 := Lib.hid (HDL2.out.trans (if_neg (by simp)))
      clear HDL2
      by_cases h256 : 256 < m + 1
      · have HN := Lib.hid (HDL3.out.trans (if_pos h256))
        have g8 : decide ((256 : Int) < (m : Int) + 1) = true := decide_eq_true (by omega)
        clear HDL3
        go_wp2_with fail
        all_goals (try (exfalso; omega))
        refine (HPT.out _).mono ?_; rintro e w6 ⟨rfl, rfl⟩
        go_wp2
        all_goals (try (exfalso; omega))
        go_ret
        rw [← HW7.out]
        exact ⟨⟨_, rfl, .inr ⟨by decide, HN.out⟩⟩, HBEL.out⟩
      · have HDL4 := Lib.hid (HDL3.out.trans (if_neg h256))
        have g8 : decide ((256 : Int) < (m : Int) + 1) = false := decide_eq_false (by omega)
        clear HDL3
        go_wp2_with fail
        all_goals (try (exfalso; omega))
        refine (HPT.out _).mono ?_; rintro e w6 ⟨rfl, rfl⟩
        go_upto_region 14 with fail
        all_goals (try (exfalso; omega))
        go_cut [] (fun wx => ∃ v2, BlkL wx g 220 [.string (mk l2), v2, .int .i64 ((nn : Int) + (q : Int)), .int .i64 (r : Int), .int .i64 (bi2 : Int), .bool true] ∧ wx.ownsRow (g + 1) 3 1 v2 (m + 1) (ncells (putIn pts r (nn + q))) ∧ Below g w wx)
        case first =>
          rw [← HW7.out]
          clear p3 k3 p2 hri hrt hmz
          have y1 := HB7.out.c 1 _ rfl
          have y2 := HB7.out.c 2 _ rfl
          have y3 := HB7.out.c 3 _ rfl
          have hx7 : BlkL ((w7.alloc (.cells #[.int .i64 ((nn : Int) + (q : Int))] 3)).drew) w7.heap.size 3 [.int .i64 ((nn + q : Nat) : Int)] := by
            rw [Int.natCast_add]
            exact (BlkL.new w7 3 [.int .i64 ((nn : Int) + (q : Int))]).drew
          have ho7 : ((w7.alloc (.cells #[.int .i64 ((nn : Int) + (q : Int))] 3)).drew).ownsRow (g + 1) 3 1 (.slice a m cp) pts.length (ncells pts) := (HO7.out.alloc _).drew
          have hins := ins_nums (.slice a m cp) pts r (nn + q) (g + 1) w7.heap.size _ ho7 (by simp; have := HB7.out.lt; omega) (by rw [← HM.out]; exact hrm) (by rw [← HM.out]; omega) hx7 (by intro e; have := (HO7.out.lt _ e).2; omega)
          rw [← HM.out] at hins
          have HINS := Lib.hid hins
          have HBX := Lib.hid (HB7.out.alloc (.cells #[.int .i64 ((nn : Int) + (q : Int))] 3)).drew
          have hgw := HB7.out.lt
          have z1 : ∀ o, (w7.alloc o).cell? ⟨g, 1, none⟩ = some (.slice a m cp) := fun o => (HB7.out.alloc o).c 1 _ rfl
          have z3 : ∀ o, (w7.alloc o).cell? ⟨g, 3, none⟩ = some (.int .i64 (r : Int)) := fun o => (HB7.out.alloc o).c 3 _ rfl
          clear hins hx7 ho7
          go_region_with (go_at_call 241; refine HINS.out.mono ?_; rintro e w' ⟨⟨v', rfl, hown'⟩, hg'⟩; obtain ⟨a', c', rfl⟩ := own_sliceN hown'; have hB' := HBX.out.grown hg' (fun e => by have := (HO7.out.lt g e.symm).1; omega); have u1 := hB'.c 1 _ rfl; have t1 := hB'.f 1)
          all_goals (go_wp2; go_meet; exact ⟨_, hB'.set 1 (by simp) _, by
            have h9 := hown'.kept (gb_set w' g 1 (.slice a' (m + 1) c')) (own_far hown' (Nat.lt_succ_self g))
            exact h9, ((((HBEL.out.alloc (by have := HBEL.out.size; omega) _).drew).grown hg' (by simp; have := HBEL.out.size; omega) (fun k hk => by have := (HO7.out.lt k hk).1; omega)).setCell (p := ⟨g, 1, none⟩) (Nat.le_refl _) _)⟩)
        case rest =>
          obtain ⟨v2, hb2, ho2, hbel2⟩ := hcut
          clear p3 k3 p2 hri hrt hmz
          have y3 := hb2.c 3 _ rfl
          have f3 := hb2.f 3
          have HFB := Lib.hid (hb2.set 3 (by simp) (.int .i64 ((r : Int) + 1)))
          have HFO := Lib.hid (ho2.kept (gb_set _ g 3 (.int .i64 ((r : Int) + 1))) (own_far ho2 (Nat.lt_succ_self g)))
          have HFL := Lib.hid (hbel2.setCell (p := ⟨g, 3, none⟩) (Nat.le_refl _) (.int .i64 ((r : Int) + 1)))
          clear hb2 ho2 hbel2
          go_wp2
          all_goals (try (exfalso; omega))
          go_ret
          refine ⟨⟨_, rfl, .inl ⟨rfl, l2, v2, putIn pts r (nn + q), nn + q, r + 1, bi2, HDL4.out, HLS.out, hN1, by omega, hadb, by rw [length_putIn, ← HM.out]; omega, ?_, ?_⟩⟩, HFL.out⟩
          · have h9 := HFB.out
            rw [Int.natCast_add, Int.natCast_add]
            exact h9
          · rw [length_putIn, ← HM.out]
            exact HFO.out
  · have HN := Lib.hid (HR.out.trans (decL_none h0 hnone))
    have hcb : (c != 0) = true := by simpa using hc
    have hcd : Hid (c ≠ 0) := Lib.hid hc
    clear hnone hc
    go_wp2
    all_goals (try (exfalso; omega))
    go_ret
    exact ⟨⟨_, rfl, .inr ⟨hcd.out, HN.out⟩⟩, below_gb HG2.out (Nat.le_refl _) (by omega)⟩
end Go.Proofs.YtjbciamhhfcdoaaGreatDoor
