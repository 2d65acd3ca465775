/- The walks of the laws of layer 27 (destination): each returns true; memory that existed is unchanged. Conditions: the variable of names holds the names. -/
import Derived.Test.YtpaodlhckpkmoaaDoorDest
import Derived.Test.YtpaodlhckpkmoaaDoorLaidKit
namespace Go.Proofs.YtpaodlhckpkmoaaDoor
open Go.RowKit Hs
set_option linter.unusedSimpArgs false
set_option linter.unusedVariables false

theorem gNames : (Rows.destinationMatchesSpecRow.laid.map fun x => Tryd.prog.globalNamed x.1) = [some 0] := by kernel_rfl
theorem tNames : (Tryd.prog.globals[0]?).map (·.type) = some 33 := by kernel_rfl
theorem cellsNames : Tryd.prog.cellsOf 33 = 23 := by kernel_rfl
theorem cellsString : Tryd.prog.cellsOf 9 = 1 := by kernel_rfl
/-- What the listed variable gives the walks. -/
theorem names_of_laid {W : World} (h : laidMetH Tryd.prog Rows.destinationMatchesSpecRow.laid W) : Names W := by
  rw [MakeChecks.laidMetH_plain _ _ _ (by kernel_rfl)] at h
  obtain ⟨ps, ⟨g0, t0, cs0, f0, p0, q0, hg0, ht0, hv0, hd0, _, _⟩, _, _⟩ := h
  have hg := hg0
  obtain rfl := Option.some.inj (hg0.symm.trans (List.cons.inj gNames).1)
  obtain rfl := Option.some.inj (ht0.symm.trans tNames)
  have e := cells_of_strs (ts := namesL) Tryd.underlying33 Tryd.underlying9 cellsString cellsNames hd0
  have hc := fun i => World.var?_cell hg hv0 i
  have hcell : ∀ k, k < 23 → W.cell? ⟨0, k, none⟩ = some (.string (mk (nameOf k))) := by
    intro k hk
    rw [hc k, ← Array.getElem?_toList, e]
    simp [scells, nameOf, List.getElem?_eq_getElem (show k < namesL.length by rw [length_namesL]; exact hk)]
  exact ⟨World.block_lt_of_cell? W _ (hcell 0 (by omega)), hcell⟩

theorem law27_awake (w : World) (hN : Names w) : Calls Tryd.prog 5 #[] w fun e w' => e = .returned (.bool true) ∧ Below w.heap.size w w' := by
  have e1 : destOf (un ⟨#[73, 109, 97, 103, 101]⟩) = 9 := by decide +kernel
  have e2 : destOf (un ⟨#[]⟩) = 1 := by decide +kernel
  have e3 : catOf 9 true = 3 := by decide
  have e4 : catOf 9 false = 2 := by decide
  have E1 := Lib.hid e1; have E2 := Lib.hid e2; have E3 := Lib.hid e3; have E4 := Lib.hid e4
  have HN := Lib.hid hN
  clear e1 e2 e3 e4 hN
  go_enter Tryd.func5, Tryd.ntmps5
  go_wp2_with fail
  refine (dest_parse _ _ (by decide) HN.out).mono ?_; rintro e w1 ⟨rfl, hb1⟩
  rw [E1.out]
  go_wp2_with fail
  refine (dest_parse _ _ (by decide) (HN.out.below hb1)).mono ?_; rintro e w2 ⟨rfl, hb2⟩
  rw [E2.out]
  go_wp2_with fail
  refine (dest_category 9 true _).mono ?_; rintro e w3 ⟨rfl, rfl⟩
  rw [E3.out]
  go_wp2_with fail
  refine (dest_category 9 false _).mono ?_; rintro e w3 ⟨rfl, rfl⟩
  rw [E4.out]
  go_wp2_with fail
  go_ret
  exact ⟨rfl, hb1.trans (hb2.mono hb1.size)⟩

set_option maxHeartbeats 1600000 in
theorem matches_walk (s : ByteArray) (d : Int) (b : Bool) (w : World) (hN : Names w) (hs : s.size ≤ maxLen) : Calls Tryd.prog 3 #[.string s, .int .i64 d, .bool b] w fun e w' => e = .returned (.bool true) ∧ Below w.heap.size w w' := by
  unfold maxLen at hs
  have HN := Lib.hid hN
  clear hN
  by_cases hl : s.size ≤ 300
  · clear hs
    cases hv : validB d
    · have HV := Lib.hid hv
      clear hv
      go_enter Tryd.func3, Tryd.ntmps3
      go_wp2_with fail
      refine (dest_parse s _ (by omega) HN.out).mono ?_; rintro e w1 ⟨rfl, hb1⟩
      go_wp2_with fail
      refine (ref27_parse s _ (by omega)).mono ?_; rintro e w2 ⟨rfl, hb2⟩
      go_wp2_with fail
      refine (dest_name_no d _ HV.out).mono ?_; rintro e w3 ⟨rfl, rfl⟩
      go_wp2_with fail
      refine (ref27_name_no d _ HV.out).mono ?_; rintro e w3 ⟨rfl, rfl⟩
      go_wp2_with fail
      refine (dest_valid d _).mono ?_; rintro e w3 ⟨rfl, rfl⟩
      go_wp2_with fail
      refine (ref27_valid d _).mono ?_; rintro e w3 ⟨rfl, rfl⟩
      go_wp2_with fail
      refine (dest_category d b _).mono ?_; rintro e w3 ⟨rfl, rfl⟩
      go_wp2_with fail
      refine (ref27_category d b _).mono ?_; rintro e w3 ⟨rfl, rfl⟩
      go_wp2_with fail
      refine (law27_awake _ ((HN.out.below hb1).below hb2)).mono ?_; rintro e w3 ⟨rfl, hb3⟩
      go_wp2_with fail
      go_ret
      refine ⟨rfl, ?_⟩
      exact by have c0 := Below.refl w.heap.size w; have c1 := c0.trans (hb1.mono c0.size); have c2 := c1.trans (hb2.mono c1.size); have c3 := c2.trans (hb3.mono c2.size); exact c3
    · have hr := of_decide_eq_true hv
      obtain ⟨n, rfl⟩ := Int.eq_ofNat_of_zero_le (show 0 ≤ d by omega)
      have h1 : 1 ≤ n := by omega
      have h2 : n ≤ 22 := by omega
      clear hv hr
      go_enter Tryd.func3, Tryd.ntmps3
      go_wp2_with fail
      refine (dest_parse s _ (by omega) HN.out).mono ?_; rintro e w1 ⟨rfl, hb1⟩
      go_wp2_with fail
      refine (ref27_parse s _ (by omega)).mono ?_; rintro e w2 ⟨rfl, hb2⟩
      go_wp2_with fail
      refine (dest_name_yes n _ h1 h2 ((HN.out.below hb1).below hb2)).mono ?_; rintro e w3 ⟨rfl, rfl⟩
      go_wp2_with fail
      refine (ref27_name_yes n _ h1 h2).mono ?_; rintro e w3 ⟨rfl, hb3⟩
      go_wp2_with fail
      refine (dest_valid _ _).mono ?_; rintro e w4 ⟨rfl, rfl⟩
      go_wp2_with fail
      refine (ref27_valid _ _).mono ?_; rintro e w4 ⟨rfl, rfl⟩
      go_wp2_with fail
      refine (dest_category _ b _).mono ?_; rintro e w4 ⟨rfl, rfl⟩
      go_wp2_with fail
      refine (ref27_category _ b _).mono ?_; rintro e w4 ⟨rfl, rfl⟩
      go_wp2_with fail
      refine (law27_awake _ (((HN.out.below hb1).below hb2).below hb3)).mono ?_; rintro e w4 ⟨rfl, hb4⟩
      go_wp2_with fail
      go_ret
      refine ⟨rfl, ?_⟩
      exact by have c0 := Below.refl w.heap.size w; have c1 := c0.trans (hb1.mono c0.size); have c2 := c1.trans (hb2.mono c1.size); have c3 := c2.trans (hb3.mono c2.size); have c4 := c3.trans (hb4.mono c3.size); exact c4
  · go_enter Tryd.func3, Tryd.ntmps3
    go_wp2_with fail
    refine (law27_awake _ HN.out).mono ?_; rintro e w1 ⟨rfl, hb1⟩
    go_wp2_with fail
    go_ret
    exact ⟨rfl, hb1⟩

set_option maxHeartbeats 3000000 in
theorem inverse_walk (s : ByteArray) (d : Int) (w : World) (hN : Names w) (hs : s.size ≤ maxLen) : Calls Tryd.prog 4 #[.string s, .int .i64 d] w fun e w' => e = .returned (.bool true) ∧ Below w.heap.size w w' := by
  unfold maxLen at hs
  have HN := Lib.hid hN
  clear hN
  by_cases hl : s.size ≤ 300
  · clear hs
    by_cases hz : destOf (un s) = 0
    · have hzb : (destOf (un s) != 0) = false := by simp [hz]
      have HZ := Lib.hid hzb
      clear hz hzb
      go_enter Tryd.func4, Tryd.ntmps4
      go_wp2_with fail
      refine (dest_parse s _ (by omega) HN.out).mono ?_; rintro e w1 ⟨rfl, hb1⟩
      rw [HZ.out]
      cases hv : validB d
      · have HV := Lib.hid hv
        clear hv
        go_wp2_with fail
        refine (dest_name_no d _ HV.out).mono ?_; rintro e w8 ⟨rfl, rfl⟩
        go_wp2_with fail
        refine (dest_valid d _).mono ?_; rintro e w8 ⟨rfl, rfl⟩
        rw [HV.out]
        go_wp2_with fail
        refine (dest_category d false _).mono ?_; rintro e w8 ⟨rfl, rfl⟩
        have hc1 : (catOf d false != 0) = false := (catOf_zero d false).trans HV.out
        go_wp2_with fail
        refine (dest_category d true _).mono ?_; rintro e w8 ⟨rfl, rfl⟩
        have hc2 : (catOf d true != 0) = false := (catOf_zero d true).trans HV.out
        go_wp2_with fail
        refine (dest_parse _ _ (by decide) (HN.out.below hb1)).mono ?_; rintro e w8 ⟨rfl, hb8⟩
        go_wp2_with fail
        refine (law27_awake _ ((HN.out.below hb1).below hb8)).mono ?_; rintro e w9 ⟨rfl, hb9⟩
        go_wp2_with fail
        go_ret
        refine ⟨rfl, ?_⟩
        exact by have c0 := Below.refl w.heap.size w; have c1 := c0.trans (hb1.mono c0.size); have c2 := c1.trans (hb8.mono c1.size); have c3 := c2.trans (hb9.mono c2.size); exact c3
      · have hr := of_decide_eq_true hv
        obtain ⟨n, rfl⟩ := Int.eq_ofNat_of_zero_le (show 0 ≤ d by omega)
        have h1 : 1 ≤ n := by omega
        have h2 : n ≤ 22 := by omega
        have HV := Lib.hid hv
        clear hv hr
        go_wp2_with fail
        refine (dest_name_yes n _ h1 h2 (HN.out.below hb1)).mono ?_; rintro e w8 ⟨rfl, rfl⟩
        go_wp2_with fail
        refine (dest_valid _ _).mono ?_; rintro e w8 ⟨rfl, rfl⟩
        rw [HV.out]
        go_wp2_with fail
        refine (dest_category _ false _).mono ?_; rintro e w8 ⟨rfl, rfl⟩
        have hc1 : (catOf n false != 0) = true := (catOf_zero n false).trans HV.out
        go_wp2_with fail
        refine (dest_category _ true _).mono ?_; rintro e w8 ⟨rfl, rfl⟩
        have hc2 : (catOf n true != 0) = true := (catOf_zero n true).trans HV.out
        go_wp2_with fail
        refine (dest_parse _ _ (by rw [size_mk]; have := length_nameOf n; omega) (HN.out.below hb1)).mono ?_; rintro e w8 ⟨rfl, hb8⟩
        rw [un_mk, destOf_nameOf n h1 h2, show (n != 0) = true from by simp; omega]
        go_wp2_with fail
        refine (law27_awake _ ((HN.out.below hb1).below hb8)).mono ?_; rintro e w9 ⟨rfl, hb9⟩
        go_wp2_with fail
        go_ret
        refine ⟨rfl, ?_⟩
        exact by have c0 := Below.refl w.heap.size w; have c1 := c0.trans (hb1.mono c0.size); have c2 := c1.trans (hb8.mono c1.size); have c3 := c2.trans (hb9.mono c2.size); exact c3
    · have hzb : (destOf (un s) != 0) = true := by simp [hz]
      have hnm := destOf_name (un s) hz
      have HZ := Lib.hid hzb
      clear hz hzb
      obtain ⟨g1, g2, g3⟩ := hnm
      have HG := Lib.hid g3
      clear g3
      have hvg : Hid (validB (destOf (un s) : Int) = true) := decide_eq_true (by omega)
      obtain ⟨m, hm⟩ : ∃ m, m = destOf (un s) := ⟨_, rfl⟩
      rw [← hm] at g1 g2 HG HZ hvg
      have HM := Lib.hid hm
      clear hm
      go_enter Tryd.func4, Tryd.ntmps4
      go_wp2_with fail
      refine (dest_parse s _ (by omega) HN.out).mono ?_; rintro e w1 ⟨rfl, hb1⟩
      rw [← HM.out, HZ.out]
      go_wp2_with fail
      refine (dest_name_yes m _ g1 g2 (HN.out.below hb1)).mono ?_; rintro e w2 ⟨rfl, rfl⟩
      rw [HG.out]
      go_wp2_with fail
      refine (ref01_lower s _ (by omega)).mono ?_; rintro e w2 ⟨rfl, hb2⟩
      go_wp2_with fail
      refine (dest_valid _ _).mono ?_; rintro e w3 ⟨rfl, rfl⟩
      rw [hvg.out]
      cases hv : validB d
      · have HV := Lib.hid hv
        clear hv
        go_wp2_with fail
        refine (dest_name_no d _ HV.out).mono ?_; rintro e w8 ⟨rfl, rfl⟩
        go_wp2_with fail
        refine (dest_valid d _).mono ?_; rintro e w8 ⟨rfl, rfl⟩
        rw [HV.out]
        go_wp2_with fail
        refine (dest_category d false _).mono ?_; rintro e w8 ⟨rfl, rfl⟩
        have hc1 : (catOf d false != 0) = false := (catOf_zero d false).trans HV.out
        go_wp2_with fail
        refine (dest_category d true _).mono ?_; rintro e w8 ⟨rfl, rfl⟩
        have hc2 : (catOf d true != 0) = false := (catOf_zero d true).trans HV.out
        go_wp2_with fail
        refine (dest_parse _ _ (by decide) ((HN.out.below hb1).below hb2)).mono ?_; rintro e w8 ⟨rfl, hb8⟩
        go_wp2_with fail
        refine (law27_awake _ (((HN.out.below hb1).below hb2).below hb8)).mono ?_; rintro e w9 ⟨rfl, hb9⟩
        go_wp2_with fail
        go_ret
        refine ⟨rfl, ?_⟩
        exact by have c0 := Below.refl w.heap.size w; have c1 := c0.trans (hb1.mono c0.size); have c2 := c1.trans (hb2.mono c1.size); have c3 := c2.trans (hb8.mono c2.size); have c4 := c3.trans (hb9.mono c3.size); exact c4
      · have hr := of_decide_eq_true hv
        obtain ⟨n, rfl⟩ := Int.eq_ofNat_of_zero_le (show 0 ≤ d by omega)
        have h1 : 1 ≤ n := by omega
        have h2 : n ≤ 22 := by omega
        have HV := Lib.hid hv
        clear hv hr
        go_wp2_with fail
        refine (dest_name_yes n _ h1 h2 ((HN.out.below hb1).below hb2)).mono ?_; rintro e w8 ⟨rfl, rfl⟩
        go_wp2_with fail
        refine (dest_valid _ _).mono ?_; rintro e w8 ⟨rfl, rfl⟩
        rw [HV.out]
        go_wp2_with fail
        refine (dest_category _ false _).mono ?_; rintro e w8 ⟨rfl, rfl⟩
        have hc1 : (catOf n false != 0) = true := (catOf_zero n false).trans HV.out
        go_wp2_with fail
        refine (dest_category _ true _).mono ?_; rintro e w8 ⟨rfl, rfl⟩
        have hc2 : (catOf n true != 0) = true := (catOf_zero n true).trans HV.out
        go_wp2_with fail
        refine (dest_parse _ _ (by rw [size_mk]; have := length_nameOf n; omega) ((HN.out.below hb1).below hb2)).mono ?_; rintro e w8 ⟨rfl, hb8⟩
        rw [un_mk, destOf_nameOf n h1 h2, show (n != 0) = true from by simp; omega]
        go_wp2_with fail
        refine (law27_awake _ (((HN.out.below hb1).below hb2).below hb8)).mono ?_; rintro e w9 ⟨rfl, hb9⟩
        go_wp2_with fail
        go_ret
        refine ⟨rfl, ?_⟩
        exact by have c0 := Below.refl w.heap.size w; have c1 := c0.trans (hb1.mono c0.size); have c2 := c1.trans (hb2.mono c1.size); have c3 := c2.trans (hb8.mono c2.size); have c4 := c3.trans (hb9.mono c3.size); exact c4
  · go_enter Tryd.func4, Tryd.ntmps4
    go_wp2_with fail
    refine (law27_awake _ HN.out).mono ?_; rintro e w1 ⟨rfl, hb1⟩
    go_wp2_with fail
    go_ret
    exact ⟨rfl, hb1⟩
end Go.Proofs.YtpaodlhckpkmoaaDoor
