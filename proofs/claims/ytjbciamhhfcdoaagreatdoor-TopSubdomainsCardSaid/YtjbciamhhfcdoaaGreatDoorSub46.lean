/- The walk of rule of the layer mixed, where the context does not upgrade. Conditions: lengths are bounded, texts are ASCII without percent signs; the library's tables stand.
   The walk of Classify of the layer mixed at valid arguments, where the context does not upgrade. Conditions: lengths are bounded, texts are ASCII without percent signs; the library's tables stand. -/
import Derived.Test.YtjbciamhhfcdoaaGreatDoorSub41
import Derived.Test.YtjbciamhhfcdoaaGreatDoorSub45
import Derived.Test.YtjbciamhhfcdoaaGreatDoorSub27
namespace Hs
open Go
theorem ruleV_b (u : UrlP) (d : Int) (img : Bool) (c : CtxP) (v : CovP) (ins sb tr dat doc cat kd : Bool) (hup : c.upgrade = false) (h1 : ins = decide (portD u.scheme = 80)) (h2 : sb = ((v.source : Int) != 0)) (h3 : tr = trustV u) (h4 : dat = decide (u.scheme = bData)) (h5 : doc = (d == 4)) (h6 : cat = (catOf d img == 2)) (h7 : kd = ((u.host.kind : Int) == 1)) :
    ruleV u d img c v = if (ins && sb) = true then ⟨2, 2, formatU (upgradeU u)⟩ else if (tr || dat) = true then ⟨1, 1, formatU u⟩ else if (doc || !c.prohibits) = true then ⟨1, 6, formatU u⟩ else if (ins && (cat && (kd && !c.blockAll))) = true then ⟨2, 4, formatU (upgradeU u)⟩ else ⟨3, 5, []⟩ := by
  have k1 : ((u.host.kind : Int) == 1) = decide (u.host.kind = 1) := by rw [Bool.eq_iff_iff]; simp; omega
  have k2 : ((v.source : Int) != 0) = decide (v.source ≠ 0) := by rw [Bool.eq_iff_iff]; simp
  unfold ruleV
  subst h1 h2 h3 h4 h5 h6 h7
  rw [hup, k1, k2]
  simp
end Hs
namespace Go.Proofs.YtjbciamhhfcdoaaGreatDoor
open Go.RowKit Hs
set_option linter.unusedSimpArgs false
set_option linter.unusedVariables false
def xcells (c : CtxP) (hv : Value) : List Value := [.bool c.secure, .bool c.prohibits, .bool c.upgrade, .bool c.blockAll, hv]
def decells (d : DecP) : List Value := [.int .i64 (d.action : Int), .int .i64 (d.reason : Int), .string (mk d.url)]
theorem infoDec : (Tryz.prog.info? 34).map (·.size) = some 3 := by kernel_rfl
theorem infoCtx : (Tryz.prog.info? 41).map (·.size) = some 5 := by kernel_rfl

set_option maxRecDepth 20000 in
set_option maxHeartbeats 8000000 in
theorem m_rule (u : UrlP) (d : Int) (img : Bool) (c : CtxP) (hv : Value) (v : CovP) (w : World) (hB : Base6 w) (hw : HostW u.host) (hb : UrlB u) (hT : okT (textU u)) (hw' : HostW (upgradeU u).host) (hb' : UrlB (upgradeU u)) (hT' : okT (textU (upgradeU u))) (hup : c.upgrade = false) :
    Calls Tryz.prog 73 #[.agg (ucells u).toArray, .int .i64 d, .bool img, .agg (xcells c hv).toArray, .agg (vcells v).toArray] w fun e w' => e = .returned (.agg (decells (ruleV u d img c v)).toArray) ∧ Below w.heap.size w w' := by
  obtain ⟨z, hz⟩ : ∃ z, z = w.heap.size := ⟨_, rfl⟩
  obtain ⟨W0, hW0⟩ : ∃ W0, W0 = (((w.alloc (.cells (ucells u).toArray 62)).alloc (.cells (xcells c hv).toArray 41)).alloc (.cells (vcells v).toArray 67)).alloc (.cells #[.int .i64 0, .int .i64 0, .string ⟨#[]⟩] 34) := ⟨_, rfl⟩
  have hbA : Below z w W0 := by rw [hW0, hz]; exact ((((Below.refl _ w).alloc (Nat.le_refl _) _).alloc (by simp) _).alloc (by simp; omega) _).alloc (by simp; omega) _
  have b0 : BlkL W0 z 62 (ucells u) := by rw [hW0, hz]; exact (((BlkL.new w _ _).alloc _).alloc _).alloc _
  have b1 : BlkL W0 (z + 1) 41 (xcells c hv) := by
    rw [hW0, hz]
    have := ((BlkL.new (w.alloc (.cells (ucells u).toArray 62)) 41 (xcells c hv)).alloc (.cells (vcells v).toArray 67)).alloc (.cells #[.int .i64 0, .int .i64 0, .string ⟨#[]⟩] 34)
    simp only [World.size_alloc] at this
    exact this
  have b2 : BlkL W0 (z + 2) 67 (vcells v) := by
    rw [hW0, hz]
    have := (BlkL.new ((w.alloc (.cells (ucells u).toArray 62)).alloc (.cells (xcells c hv).toArray 41)) 67 (vcells v)).alloc (.cells #[.int .i64 0, .int .i64 0, .string ⟨#[]⟩] 34)
    simp only [World.size_alloc] at this
    exact this
  have b3 : BlkL W0 (z + 3) 34 (decells ⟨0, 0, []⟩) := by
    rw [hW0, hz]
    have := BlkL.new (((w.alloc (.cells (ucells u).toArray 62)).alloc (.cells (xcells c hv).toArray 41)).alloc (.cells (vcells v).toArray 67)) 34 (decells ⟨0, 0, []⟩)
    simp only [World.size_alloc] at this
    exact this
  have HW0 := Lib.hid hW0.symm
  have hsz : W0.heap.size = z + 4 := by rw [hW0, hz]; simp
  have HI0 := Lib.hid (infoUrlOf hw.1)
  have HW8 := Lib.hid hw
  have HB0 := Lib.hid b0
  have HBA := Lib.hid hbA
  have HBB := Lib.hid hB
  have HZ := Lib.hid hz
  have hz' := Nat.le_of_eq hz
  have HIN := Lib.hid (u_insecure u W0)
  have hB0 : Base6 W0 := hB.below (hz ▸ hbA)
  have FM := Lib.hid (fun (W1 : World) (h1 : Below W0.heap.size W0 W1) => u_format u W1 (hB0.below h1) hw hb hT)
  have UP := Lib.hid (fun (W1 : World) => u_upgrade u W1 hw)
  have FM2 := Lib.hid (fun (W1 : World) (h1 : Below W0.heap.size W0 W1) => u_format (upgradeU u) W1 (hB0.below h1) hw' hb' hT')
  have OT := Lib.hid (fun (W1 : World) (h1 : Below W0.heap.size W0 W1) => o_trust u W1 (hB0.below h1) hw hb hT)
  have DC := Lib.hid (fun (W1 : World) => dest_category d img W1)
  obtain ⟨xs, xp, xu, xb, xh⟩ := c
  simp only at hup
  subst hup
  have hdef := ruleV_b u d img ⟨xs, xp, false, xb, xh⟩ v _ _ _ _ _ _ _ rfl rfl rfl rfl rfl rfl rfl rfl
  obtain ⟨ins, hins⟩ : ∃ ins, ins = decide (portD u.scheme = 80) := ⟨_, rfl⟩
  rw [← hins] at hdef HIN
  obtain ⟨tr, htr⟩ : ∃ tr, tr = trustV u := ⟨_, rfl⟩
  simp only [← htr] at hdef OT
  obtain ⟨fa, hfa⟩ : ∃ fa, fa = formatU u := ⟨_, rfl⟩
  simp only [← hfa] at hdef FM
  obtain ⟨fu, hfu⟩ : ∃ fu, fu = formatU (upgradeU u) := ⟨_, rfl⟩
  simp only [← hfu] at hdef FM2
  obtain ⟨ct, hct⟩ : ∃ ct, ct = catOf d img := ⟨_, rfl⟩
  simp only [← hct] at hdef DC
  obtain ⟨ca, hca⟩ : ∃ ca, ca = (ct == 2) := ⟨_, rfl⟩
  obtain ⟨ki, hki⟩ : ∃ ki, ki = ((u.host.kind : Int) == 1) := ⟨_, rfl⟩
  obtain ⟨dc, hdc⟩ : ∃ dc, dc = (d == 4) := ⟨_, rfl⟩
  obtain ⟨da, hda⟩ : ∃ da, da = decide (u.scheme = bData) := ⟨_, rfl⟩
  obtain ⟨sb, hsb⟩ : ∃ sb, sb = ((v.source : Int) != 0) := ⟨_, rfl⟩
  rw [← hca, ← hki, ← hdc, ← hda, ← hsb] at hdef
  have g1 : (d == 4) = dc := hdc.symm
  have g2 : ((v.source : Int) != 0) = sb := hsb.symm
  have g3 : (ct == 2) = ca := hca.symm
  have G4 := Lib.hid hki
  have g5 : ((mk u.scheme).toList == ([100, 97, 116, 97] : Bs)) = da := by rw [toList_mk', list_beq]; exact hda.symm
  clear hca hki hdc hda hsb
  generalize ruleV u d img ⟨xs, xp, false, xb, xh⟩ v = rv at hdef ⊢
  have HDEF := Lib.hid hdef
  clear hW0 b0 hbA hB hT hb hb' hT' hw' hz hB0 hins htr hfa hfu hct hdef
  go_enter Tryz.func73, Tryz.ntmps73
  go_upto_region 1 with fail
  rw [HW0.out, ← HZ.out]
  clear HW0
  rw [show z + 1 + 1 + 1 = z + 3 from rfl, show z + 1 + 1 = z + 2 from rfl]
  go_upto_region 2 with (refine wpList_load_row rfl 62 (.tmp 5) rfl z rfl 62 _ _ _ HB0.out Tryz.underlying62 rfl HI0.out ?_)
  all_goals (try (exfalso; omega))
  refine HIN.out.mono ?_; rintro e w1 ⟨rfl, hb1⟩
  go_upto_region 2 with fail
  have hs1 := hb1.size
  have B0 := HB0.out.below (by omega) hb1
  have B1 := b1.below (by omega) hb1
  have B2 := b2.below (by omega) hb1
  have B3 := b3.below (by omega) hb1
  have HA1 := Lib.hid (HBA.out.trans (hb1.mono (by omega)))
  have F1 := Lib.hid (fun x : Later w1 => FM.out x.1 (hb1.trans (x.2.mono hs1)))
  have F2 := Lib.hid (fun x : Later w1 => FM2.out x.1 (hb1.trans (x.2.mono hs1)))
  have F3 := Lib.hid (fun x : Later w1 => UP.out x.1)
  have OT1 := Lib.hid (fun (W1 : World) (h1 : Below w1.heap.size w1 W1) => OT.out W1 (hb1.trans (h1.mono hs1)))
  clear b1 b2 b3 HB0 HBA hb1 FM FM2 UP OT HIN HI0 HBB
  obtain ⟨sc, us, ⟨kd, nm, va, v6⟩, pt, rs⟩ := u
  obtain ⟨a0, a1, a2, a3, a4, a5, a6, a7, rfl⟩ := len8 HW8.out.1
  have q0 := fun x : Later w1 => (B0.below (by omega) x.2).c 0 _ rfl
  have q1 := fun x : Later w1 => (B0.below (by omega) x.2).c 1 _ rfl
  have q2 := fun x : Later w1 => (B0.below (by omega) x.2).c 2 _ rfl
  have q3 := fun x : Later w1 => (B0.below (by omega) x.2).c 3 _ rfl
  have q4 := fun x : Later w1 => (B0.below (by omega) x.2).c 4 _ rfl
  have q5 := fun x : Later w1 => (B0.below (by omega) x.2).c 5 _ rfl
  have q6 := fun x : Later w1 => (B0.below (by omega) x.2).c 6 _ rfl
  have q7 := fun x : Later w1 => (B0.below (by omega) x.2).c 7 _ rfl
  have q8 := fun x : Later w1 => (B0.below (by omega) x.2).c 8 _ rfl
  have q9 := fun x : Later w1 => (B0.below (by omega) x.2).c 9 _ rfl
  have q10 := fun x : Later w1 => (B0.below (by omega) x.2).c 10 _ rfl
  have q11 := fun x : Later w1 => (B0.below (by omega) x.2).c 11 _ rfl
  have q12 := fun x : Later w1 => (B0.below (by omega) x.2).c 12 _ rfl
  have q13 := fun x : Later w1 => (B0.below (by omega) x.2).c 13 _ rfl
  have q14 := fun x : Later w1 => (B0.below (by omega) x.2).c 14 _ rfl
  refine wp_region_later w1 (by kernel_rfl) (by kernel_rfl) (Below.refl _ _) ?_
  repeat (go_big_quiet_step (fail))
  go_big_quiet_step (exact Calls.later (F1.out _))
  repeat (go_big_quiet_step (fail))
  go_big_quiet_step (exact Calls.later (F3.out _))
  repeat (go_big_quiet_step (fail))
  go_big_quiet_step (exact Calls.later (F2.out _))
  repeat (go_big_quiet_step (fail))
  refine wpQuiet_nil ?_
  intro w5 hw'
  obtain ⟨⟨w6, hb6⟩, hw6⟩ := hw'
  have hb5 : Below w1.heap.size w1 w5 := hw6 ▸ hb6
  clear hw6 hb6
  have hs5 := hb5.size
  have C0 := B0.below (by omega) hb5
  have C1 := B1.below (by omega) hb5
  have C2 := B2.below (by omega) hb5
  have C3 := B3.below (by omega) hb5
  have HA5 := Lib.hid (HA1.out.trans (hb5.mono (by omega)))
  have OT5 := Lib.hid (OT1.out w5 hb5)
  clear q0 q1 q2 q3 q4 q5 q6 q7 q8 q9 q10 q11 q12 q13 q14 B0 B1 B2 B3 HA1 F1 F2 F3 OT1 hb5
  have v0 := C2.c 0 _ rfl
  have x1 := C1.c 1 _ rfl
  have x2 := C1.c 2 _ rfl
  have x3 := C1.c 3 _ rfl
  have r0 := C3.c 0 _ rfl
  have r1 := C3.c 1 _ rfl
  have r2 := C3.c 2 _ rfl
  have t0 := C3.f 0
  have t1 := C3.f 1
  have t2 := C3.f 2
  have y0 := C0.c 0 _ rfl
  have y1 := C0.c 1 _ rfl
  have y2 := C0.c 2 _ rfl
  have y3 := C0.c 3 _ rfl
  have y4 := C0.c 4 _ rfl
  have y5 := C0.c 5 _ rfl
  have y6 := C0.c 6 _ rfl
  have y7 := C0.c 7 _ rfl
  have y8 := C0.c 8 _ rfl
  have y9 := C0.c 9 _ rfl
  have y10 := C0.c 10 _ rfl
  have y11 := C0.c 11 _ rfl
  have y12 := C0.c 12 _ rfl
  have y13 := C0.c 13 _ rfl
  have y14 := C0.c 14 _ rfl
  cases ins
  · go_wp2_with fail
    all_goals (try (exfalso; omega))
    refine OT5.out.mono ?_; rintro e w6 ⟨rfl, hb6⟩
    have hs6 := hb6.size
    have D0 := C0.below (by omega) hb6
    have D1 := C1.below (by omega) hb6
    have HD3 := Lib.hid (C3.below (by omega) hb6)
    have HA6 := Lib.hid (HA5.out.trans (hb6.mono (by omega)))
    clear hb6 x1 x2 x3 v0 r0 r1 r2 t0 t1 t2 OT5 C0 C1 C2 C3 HA5 y0 y1 y2 y3 y4 y5 y6 y7 y8 y9 y10 y11 y12 y13 y14
    have r0 := HD3.out.c 0 _ rfl
    have r1 := HD3.out.c 1 _ rfl
    have r2 := HD3.out.c 2 _ rfl
    have t0 := HD3.out.f 0
    have t1 := HD3.out.f 1
    have t2 := HD3.out.f 2
    have x1 := D1.c 1 _ rfl
    have x2 := D1.c 2 _ rfl
    have x3 := D1.c 3 _ rfl
    have y0 := D0.c 0 _ rfl
    have y2 := D0.c 2 _ rfl
    clear D0 D1
    cases tr
    · cases da
      · cases dc
        · cases xp
          · have hfin : Hid (rv = ⟨1, 6, fa⟩) := Lib.hid HDEF.out
            go_wp2
            all_goals (try (exfalso; omega))
            refine bodyPost_ret (results_cell_row rfl _ _ (z + 3) 34 _ _ _ rfl (blk_three HD3.out rfl (.int .i64 ((1 : Nat) : Int)) (.int .i64 ((6 : Nat) : Int)) (.string (mk fa))) Tryz.underlying34 rfl infoDec) rfl ?_
            rw [hfin.out]
            exact ⟨rfl, HZ.out ▸ below_three HA6.out (by omega) _ _ _⟩
          · have hfin : Hid (rv = ⟨3, 5, []⟩) := Lib.hid HDEF.out
            go_wp2
            all_goals (try (exfalso; omega))
            refine bodyPost_ret (results_cell_row rfl _ _ (z + 3) 34 _ _ _ rfl (blk_three HD3.out rfl (.int .i64 ((3 : Nat) : Int)) (.int .i64 ((5 : Nat) : Int)) (.string (mk []))) Tryz.underlying34 rfl infoDec) rfl ?_
            rw [hfin.out]
            exact ⟨rfl, HZ.out ▸ below_three HA6.out (by omega) _ _ _⟩
        · have hfin : Hid (rv = ⟨1, 6, fa⟩) := Lib.hid HDEF.out
          go_wp2
          all_goals (try (exfalso; omega))
          refine bodyPost_ret (results_cell_row rfl _ _ (z + 3) 34 _ _ _ rfl (blk_three HD3.out rfl (.int .i64 ((1 : Nat) : Int)) (.int .i64 ((6 : Nat) : Int)) (.string (mk fa))) Tryz.underlying34 rfl infoDec) rfl ?_
          rw [hfin.out]
          exact ⟨rfl, HZ.out ▸ below_three HA6.out (by omega) _ _ _⟩
      · have hfin : Hid (rv = ⟨1, 1, fa⟩) := Lib.hid HDEF.out
        go_wp2
        all_goals (try (exfalso; omega))
        refine bodyPost_ret (results_cell_row rfl _ _ (z + 3) 34 _ _ _ rfl (blk_three HD3.out rfl (.int .i64 ((1 : Nat) : Int)) (.int .i64 ((1 : Nat) : Int)) (.string (mk fa))) Tryz.underlying34 rfl infoDec) rfl ?_
        rw [hfin.out]
        exact ⟨rfl, HZ.out ▸ below_three HA6.out (by omega) _ _ _⟩
    · have hfin : Hid (rv = ⟨1, 1, fa⟩) := Lib.hid HDEF.out
      go_wp2
      all_goals (try (exfalso; omega))
      refine bodyPost_ret (results_cell_row rfl _ _ (z + 3) 34 _ _ _ rfl (blk_three HD3.out rfl (.int .i64 ((1 : Nat) : Int)) (.int .i64 ((1 : Nat) : Int)) (.string (mk fa))) Tryz.underlying34 rfl infoDec) rfl ?_
      rw [hfin.out]
      exact ⟨rfl, HZ.out ▸ below_three HA6.out (by omega) _ _ _⟩
  · cases sb
    · go_wp2_with fail
      all_goals (try (exfalso; omega))
      refine OT5.out.mono ?_; rintro e w6 ⟨rfl, hb6⟩
      have hs6 := hb6.size
      have D0 := C0.below (by omega) hb6
      have D1 := C1.below (by omega) hb6
      have HD3 := Lib.hid (C3.below (by omega) hb6)
      have HA6 := Lib.hid (HA5.out.trans (hb6.mono (by omega)))
      clear hb6 x1 x2 x3 v0 r0 r1 r2 t0 t1 t2 OT5 C0 C1 C2 C3 HA5 y0 y1 y2 y3 y4 y5 y6 y7 y8 y9 y10 y11 y12 y13 y14
      have r0 := HD3.out.c 0 _ rfl
      have r1 := HD3.out.c 1 _ rfl
      have r2 := HD3.out.c 2 _ rfl
      have t0 := HD3.out.f 0
      have t1 := HD3.out.f 1
      have t2 := HD3.out.f 2
      have x1 := D1.c 1 _ rfl
      have x2 := D1.c 2 _ rfl
      have x3 := D1.c 3 _ rfl
      have y0 := D0.c 0 _ rfl
      have y2 := D0.c 2 _ rfl
      clear D0 D1
      cases tr
      · cases da
        · cases dc
          · cases xp
            · have hfin : Hid (rv = ⟨1, 6, fa⟩) := Lib.hid HDEF.out
              go_wp2
              all_goals (try (exfalso; omega))
              refine bodyPost_ret (results_cell_row rfl _ _ (z + 3) 34 _ _ _ rfl (blk_three HD3.out rfl (.int .i64 ((1 : Nat) : Int)) (.int .i64 ((6 : Nat) : Int)) (.string (mk fa))) Tryz.underlying34 rfl infoDec) rfl ?_
              rw [hfin.out]
              exact ⟨rfl, HZ.out ▸ below_three HA6.out (by omega) _ _ _⟩
            · go_wp2_with fail
              all_goals (try (exfalso; omega))
              refine (DC.out _).mono ?_; rintro e w7 ⟨rfl, rfl⟩
              cases ca
              · have hfin : Hid (rv = ⟨3, 5, []⟩) := Lib.hid HDEF.out
                go_wp2
                all_goals (try (exfalso; omega))
                refine bodyPost_ret (results_cell_row rfl _ _ (z + 3) 34 _ _ _ rfl (blk_three HD3.out rfl (.int .i64 ((3 : Nat) : Int)) (.int .i64 ((5 : Nat) : Int)) (.string (mk []))) Tryz.underlying34 rfl infoDec) rfl ?_
                rw [hfin.out]
                exact ⟨rfl, HZ.out ▸ below_three HA6.out (by omega) _ _ _⟩
              · cases ki
                · have g4 := G4.out.symm
                  have hfin : Hid (rv = ⟨3, 5, []⟩) := Lib.hid HDEF.out
                  go_wp2
                  all_goals (try (exfalso; omega))
                  refine bodyPost_ret (results_cell_row rfl _ _ (z + 3) 34 _ _ _ rfl (blk_three HD3.out rfl (.int .i64 ((3 : Nat) : Int)) (.int .i64 ((5 : Nat) : Int)) (.string (mk []))) Tryz.underlying34 rfl infoDec) rfl ?_
                  rw [hfin.out]
                  exact ⟨rfl, HZ.out ▸ below_three HA6.out (by omega) _ _ _⟩
                · have g4 := G4.out.symm
                  cases xb
                  · have hfin : Hid (rv = ⟨2, 4, fu⟩) := Lib.hid HDEF.out
                    go_wp2
                    all_goals (try (exfalso; omega))
                    refine bodyPost_ret (results_cell_row rfl _ _ (z + 3) 34 _ _ _ rfl (blk_three HD3.out rfl (.int .i64 ((2 : Nat) : Int)) (.int .i64 ((4 : Nat) : Int)) (.string (mk fu))) Tryz.underlying34 rfl infoDec) rfl ?_
                    rw [hfin.out]
                    exact ⟨rfl, HZ.out ▸ below_three HA6.out (by omega) _ _ _⟩
                  · have hfin : Hid (rv = ⟨3, 5, []⟩) := Lib.hid HDEF.out
                    go_wp2
                    all_goals (try (exfalso; omega))
                    refine bodyPost_ret (results_cell_row rfl _ _ (z + 3) 34 _ _ _ rfl (blk_three HD3.out rfl (.int .i64 ((3 : Nat) : Int)) (.int .i64 ((5 : Nat) : Int)) (.string (mk []))) Tryz.underlying34 rfl infoDec) rfl ?_
                    rw [hfin.out]
                    exact ⟨rfl, HZ.out ▸ below_three HA6.out (by omega) _ _ _⟩
          · have hfin : Hid (rv = ⟨1, 6, fa⟩) := Lib.hid HDEF.out
            go_wp2
            all_goals (try (exfalso; omega))
            refine bodyPost_ret (results_cell_row rfl _ _ (z + 3) 34 _ _ _ rfl (blk_three HD3.out rfl (.int .i64 ((1 : Nat) : Int)) (.int .i64 ((6 : Nat) : Int)) (.string (mk fa))) Tryz.underlying34 rfl infoDec) rfl ?_
            rw [hfin.out]
            exact ⟨rfl, HZ.out ▸ below_three HA6.out (by omega) _ _ _⟩
        · have hfin : Hid (rv = ⟨1, 1, fa⟩) := Lib.hid HDEF.out
          go_wp2
          all_goals (try (exfalso; omega))
          refine bodyPost_ret (results_cell_row rfl _ _ (z + 3) 34 _ _ _ rfl (blk_three HD3.out rfl (.int .i64 ((1 : Nat) : Int)) (.int .i64 ((1 : Nat) : Int)) (.string (mk fa))) Tryz.underlying34 rfl infoDec) rfl ?_
          rw [hfin.out]
          exact ⟨rfl, HZ.out ▸ below_three HA6.out (by omega) _ _ _⟩
      · have hfin : Hid (rv = ⟨1, 1, fa⟩) := Lib.hid HDEF.out
        go_wp2
        all_goals (try (exfalso; omega))
        refine bodyPost_ret (results_cell_row rfl _ _ (z + 3) 34 _ _ _ rfl (blk_three HD3.out rfl (.int .i64 ((1 : Nat) : Int)) (.int .i64 ((1 : Nat) : Int)) (.string (mk fa))) Tryz.underlying34 rfl infoDec) rfl ?_
        rw [hfin.out]
        exact ⟨rfl, HZ.out ▸ below_three HA6.out (by omega) _ _ _⟩
    · have HC3 := Lib.hid C3
      have hfin : Hid (rv = ⟨2, 2, fu⟩) := Lib.hid HDEF.out
      go_wp2
      all_goals (try (exfalso; omega))
      refine bodyPost_ret (results_cell_row rfl _ _ (z + 3) 34 _ _ _ rfl (blk_three HC3.out rfl (.int .i64 ((2 : Nat) : Int)) (.int .i64 ((2 : Nat) : Int)) (.string (mk fu))) Tryz.underlying34 rfl infoDec) rfl ?_
      rw [hfin.out]
      exact ⟨rfl, HZ.out ▸ below_three HA5.out (by omega) _ _ _⟩
end Go.Proofs.YtjbciamhhfcdoaaGreatDoor
namespace Go.Proofs.YtjbciamhhfcdoaaGreatDoor
open Go.RowKit Hs
set_option linter.unusedSimpArgs false
set_option linter.unusedVariables false
theorem dec_one (p : DecP) : ∀ v ∈ decells p, v.oneCell' = true := by
  intro v hv
  simp [decells] at hv
  rcases hv with rfl | rfl | rfl <;> rfl
set_option maxRecDepth 20000 in
set_option maxHeartbeats 8000000 in
theorem m_classify (u : UrlP) (d : Int) (img : Bool) (c : CtxP) (hv : Value) (v : CovP) (w : World) (hB : Base6 w) (hw : HostW u.host) (hb : UrlB u) (hT : okT (textU u)) (hw' : HostW (upgradeU u).host) (hb' : UrlB (upgradeU u)) (hT' : okT (textU (upgradeU u))) (hup : c.upgrade = false) (hvu : validU u = true) (hvd : validB d = true) :
    Calls Tryz.prog 36 #[.agg (ucells u).toArray, .int .i64 d, .bool img, .agg (xcells c hv).toArray, .agg (vcells v).toArray] w fun e w' => e = .returned (.tuple #[.agg (decells (ruleV u d img c v)).toArray, .int .i64 0]) ∧ Below w.heap.size w w' := by
  obtain ⟨z, hz⟩ : ∃ z, z = w.heap.size := ⟨_, rfl⟩
  obtain ⟨W0, hW0⟩ : ∃ W0, W0 = (((w.alloc (.cells (ucells u).toArray 62)).alloc (.cells (xcells c hv).toArray 41)).alloc (.cells (vcells v).toArray 67)).alloc (.cells #[.int .i64 0, .int .i64 0, .string ⟨#[]⟩] 34) := ⟨_, rfl⟩
  have hbA : Below z w W0 := by rw [hW0, hz]; exact ((((Below.refl _ w).alloc (Nat.le_refl _) _).alloc (by simp) _).alloc (by simp; omega) _).alloc (by simp; omega) _
  have b0 : BlkL W0 z 62 (ucells u) := by rw [hW0, hz]; exact (((BlkL.new w _ _).alloc _).alloc _).alloc _
  have b1 : BlkL W0 (z + 1) 41 (xcells c hv) := by
    rw [hW0, hz]
    have := ((BlkL.new (w.alloc (.cells (ucells u).toArray 62)) 41 (xcells c hv)).alloc (.cells (vcells v).toArray 67)).alloc (.cells #[.int .i64 0, .int .i64 0, .string ⟨#[]⟩] 34)
    simp only [World.size_alloc] at this
    exact this
  have b2 : BlkL W0 (z + 2) 67 (vcells v) := by
    rw [hW0, hz]
    have := (BlkL.new ((w.alloc (.cells (ucells u).toArray 62)).alloc (.cells (xcells c hv).toArray 41)) 67 (vcells v)).alloc (.cells #[.int .i64 0, .int .i64 0, .string ⟨#[]⟩] 34)
    simp only [World.size_alloc] at this
    exact this
  have b3 : BlkL W0 (z + 3) 34 (decells ⟨0, 0, []⟩) := by
    rw [hW0, hz]
    have := BlkL.new (((w.alloc (.cells (ucells u).toArray 62)).alloc (.cells (xcells c hv).toArray 41)).alloc (.cells (vcells v).toArray 67)) 34 (decells ⟨0, 0, []⟩)
    simp only [World.size_alloc] at this
    exact this
  have HW0 := Lib.hid hW0.symm
  have hsz : W0.heap.size = z + 4 := by rw [hW0, hz]; simp
  have HI0 := Lib.hid (infoUrlOf hw.1)
  have HB0 := Lib.hid b0
  have HBA := Lib.hid hbA
  have HZ := Lib.hid hz
  have hz' := Nat.le_of_eq hz
  have hB0 : Base6 W0 := hB.below (hz ▸ hbA)
  have hval := u_valid u W0 hB0 hw hb hT
  rw [hvu] at hval
  have HVAL := Lib.hid hval
  have hdv := fun W => dest_valid d W
  simp only [hvd] at hdv
  have HDV := Lib.hid hdv
  have HR := Lib.hid (fun (W1 : World) (h1 : Below W0.heap.size W0 W1) => m_rule u d img c hv v W1 (hB0.below h1) hw hb hT hw' hb' hT' hup)
  generalize ruleV u d img c v = rv at *
  clear hW0 b0 hbA hB hT hb hb' hT' hw' hz hB0 hvu hvd hval hdv hup
  go_enter Tryz.func36, Tryz.ntmps36
  go_upto_region 1 with fail
  rw [HW0.out, ← HZ.out]
  clear HW0
  rw [show z + 1 + 1 + 1 = z + 3 from rfl, show z + 1 + 1 = z + 2 from rfl]
  go_wp2_with (refine wpList_load_row rfl 62 (.tmp 5) rfl z rfl 62 _ _ _ HB0.out Tryz.underlying62 rfl HI0.out ?_)
  all_goals (try (exfalso; omega))
  refine HVAL.out.mono ?_; rintro e w1 ⟨rfl, hb1⟩
  have hs1 := hb1.size
  have B0 := Lib.hid (HB0.out.below (by omega) hb1)
  have B1 := Lib.hid (b1.below (by omega) hb1)
  have B2 := Lib.hid (b2.below (by omega) hb1)
  have B3 := Lib.hid (b3.below (by omega) hb1)
  have HA1 := Lib.hid (HBA.out.trans (hb1.mono (by omega)))
  have HR1 := Lib.hid (HR.out w1 hb1)
  clear HB0 b1 b2 b3 HBA hb1 HR HVAL
  go_wp2_with fail
  all_goals (try (exfalso; omega))
  refine (HDV.out _).mono ?_; rintro e w7 ⟨rfl, rfl⟩
  go_wp2_with (first
    | refine wpList_load_row rfl 62 (.tmp 5) rfl z rfl 62 _ _ _ B0.out Tryz.underlying62 rfl HI0.out ?_
    | refine wpList_load_row rfl 41 (.tmp 8) rfl (z + 1) rfl 41 _ _ _ B1.out Tryz.underlying41 rfl infoCtx ?_
    | refine wpList_load_row rfl 67 (.tmp 9) rfl (z + 2) rfl 67 _ _ _ B2.out Tryz.underlying67 rfl infoCov ?_)
  all_goals (try (exfalso; omega))
  refine HR1.out.mono ?_; rintro e w2 ⟨rfl, hb2⟩
  have hs2 := hb2.size
  have D3 := Lib.hid (B3.out.below (by omega) hb2)
  have HA2 := Lib.hid (HA1.out.trans (hb2.mono (by omega)))
  clear hb2 HR1 B0 B1 B2 B3 HA1
  go_wp2_with (refine wpList_store_row rfl 34 (.tmp 10) (.tmp 27) rfl (z + 3) (decells rv).toArray rfl rfl 34 _ D3.out infoDec rfl (all_one_of (dec_one _)) ?_)
  all_goals (try (exfalso; omega))
  refine bodyPost_ret (results_ct rfl _ _ (z + 3) 34 _ _ rfl (D3.out.setRow (decells rv)) Tryz.underlying34 rfl infoDec) rfl ?_
  exact ⟨rfl, HZ.out ▸ below_setRow HA2.out (by omega) _⟩
end Go.Proofs.YtjbciamhhfcdoaaGreatDoor
