/- The walks of small and of the law CspJoined (layer 20): it returns true; memory that existed is unchanged. Conditions: none. -/
import Derived.Test.YtimfngfimnapoaaDoorLaw20
namespace Go.Proofs.YtimfngfimnapoaaDoor
open Go.RowKit Hs
set_option linter.unusedSimpArgs false
set_option linter.unusedVariables false

/-- Whether values are small. -/
def smallV (l : List Bs) : Bool := decide (l.length ≤ 12) && l.all fun t => decide ((t.length : Int) ≤ 4500)
theorem smallV_yes (l : List Bs) (h : smallV l = true) : l.length ≤ 12 ∧ ∀ x ∈ l, x.length ≤ 4500 := by
  unfold smallV at h
  rw [Bool.and_eq_true, decide_eq_true_eq, List.all_eq_true] at h
  exact ⟨h.1, fun x hx => by have := of_decide_eq_true (h.2 x hx); omega⟩
theorem l20_small (v : Value) (l : List Bs) (w : World) (hv : Strs w v l) (hs : ∀ t ∈ l, t.length ≤ maxLen) : Calls Tryd.prog 7 #[v] w fun e w' => e = .returned (.bool (smallV l)) ∧ w = w' := by
  have hsh := keep_short 4500 v l w hv hs
  have HSH := Lib.hid hsh
  obtain ⟨a, cap, rfl, hn, hm, _⟩ := hv.open
  unfold maxLen at hm
  clear hsh hv
  by_cases h12 : l.length ≤ 12
  · have h12' : ((l.length : Int) ≤ 12) := by omega
    have hfin : Hid (smallV l = l.all fun t => decide ((t.length : Int) ≤ 4500)) := Lib.hid (by unfold smallV; rw [decide_eq_true h12, Bool.true_and])
    rw [← hfin.out] at HSH
    generalize smallV l = bs at *
    clear h12
    go_enter Tryd.func7, Tryd.ntmps7
    go_wp2_with fail
    refine HSH.out.mono ?_; rintro e w' ⟨rfl, rfl⟩
    go_wp2_with fail
    go_ret
    exact ⟨rfl, rfl⟩
  · have h12' : ((12 : Int) < (l.length : Int)) := by omega
    have hfin : Hid (smallV l = false) := Lib.hid (by unfold smallV; rw [decide_eq_false h12]; rfl)
    clear h12 HSH
    go_enter Tryd.func7, Tryd.ntmps7
    go_wp2_with fail
    go_ret
    exact ⟨ret_bool hfin.out.symm, rfl⟩

/-- Joined and merged is the same. -/
theorem joined_same (vs : List Bs) (h : (commaJ vs).length ≤ 4096) : cspM [commaJ vs] = cspM vs ∧ (cspM vs).2 = 0 := by
  have h1 : mergeN vs [] = some (uniqN [] (vs.flatMap headsV)) := mergeN_all vs [] (fun v hv => by have := commaJ_len vs v hv; omega)
  have h2 : mergeN [commaJ vs] [] = some (uniqN [] (vs.flatMap headsV)) := by rw [mergeN_short _ _ _ (by omega), mergeN_nil, headsV_commaJ]
  unfold cspM
  rw [h1, h2]
  exact ⟨rfl, rfl⟩

set_option maxHeartbeats 4000000 in
theorem joined_walk20 (v : Value) (l : List Bs) (w : World) (hv : Strs w v l) (hs : ∀ x ∈ l, x.length ≤ maxLen) : Calls Tryd.prog 4 #[v] w fun e w' => e = .returned (.bool true) ∧ Below w.heap.size w w' := by
  have AW := Lib.hid (fun W => law20_awake W)
  have hsm := l20_small v l w hv hs
  obtain ⟨a, cap, rfl, hn, hm, hc⟩ := hv.open
  unfold maxLen at hm
  have HV := Lib.hid hv
  have HS := Lib.hid hs
  have HC := Lib.hid hc
  cases hb : smallV l
  · rw [hb] at hsm
    have HSM := Lib.hid hsm
    clear hsm hb hs hv hc
    go_enter Tryd.func4, Tryd.ntmps4
    go_wp2_with fail
    refine HSM.out.mono ?_; rintro e w' ⟨rfl, rfl⟩
    go_wp2_with fail
    refine (AW.out _).mono ?_; rintro e w2 ⟨rfl, hb2⟩
    go_wp2_with fail
    go_ret
    exact ⟨rfl, hb2⟩
  · rw [hb] at hsm
    have HSM := Lib.hid hsm
    obtain ⟨hl12, hsz⟩ := smallV_yes l hb
    have HSZ := Lib.hid hsz
    have hcl : ∀ k, (commaJ (l.take k)).length ≤ 60000 := fun k => by
      have h1 := length_commaJ 4500 (l.take k) (fun x hx => hsz x (List.mem_of_mem_take hx))
      rw [List.length_take] at h1
      have h2 : min k l.length * (4500 + 1) ≤ 12 * (4500 + 1) := Nat.mul_le_mul_right _ (by omega)
      omega
    have HCL := Lib.hid hcl
    clear hsm hb hs hv hc hsz hcl
    go_enter Tryd.func4, Tryd.ntmps4
    go_wp2_with fail
    refine HSM.out.mono ?_; rintro e w' ⟨rfl, rfl⟩
    go_wp2
    go_loop [3, 4] (fun jv iv => ∃ (k : Nat) (J : ByteArray), iv = .int .i64 k ∧ k ≤ l.length ∧ jv = .string J ∧ J.size ≤ 60000 ∧ Hid (un J = commaJ (l.take k))) (fun _ iv => l.length - (intOf iv).toNat)
    case atStart => exact ⟨0, ⟨#[]⟩, rfl, by omega, rfl, by decide, Lib.hid rfl⟩
    case round =>
      obtain ⟨k, J, rfl, hk, rfl, hJ, hju⟩ := hrel
      by_cases hlt : k < l.length
      · obtain ⟨b, off, rfl, hb1, hcell⟩ := HC.out (by omega)
        have c0 := hcell k hlt
        have hszk := HSZ.out l[k] (List.getElem_mem hlt)
        have hstep : Hid (commaJ (l.take (k + 1)) = commaJ (l.take k) ++ ((if k = 0 then [] else [44]) ++ l[k])) := Lib.hid (by
          rw [List.take_succ_eq_append_getElem hlt, commaJ_snoc]
          congr 2
          rw [List.length_take, Nat.min_eq_left (by omega)])
        obtain ⟨x, hx⟩ : ∃ x, x = l[k] := ⟨_, rfl⟩
        rw [← hx] at c0 hszk hstep
        clear hcell hx
        obtain ⟨S, hS⟩ : ∃ S, S = mk x := ⟨_, rfl⟩
        have hSs : S.size ≤ 4500 := by rw [hS, size_mk]; exact hszk
        have hSu : Hid (un S = x) := Lib.hid (by rw [hS, un_mk])
        rw [← hS] at c0
        clear hS hszk
        have hcl1 := HCL.out (k + 1)
        have h0 : k = 0 ∨ 0 < k := by omega
        rcases h0 with h0 | h0
        · have hfin : Hid (un (J ++ S) = commaJ (l.take (k + 1))) := Lib.hid (by rw [un_append, hstep.out, hju.out, hSu.out, if_pos h0]; rfl)
          have hfs : Hid ((J ++ S).size ≤ 60000) := Lib.hid (by rw [← length_un, hfin.out]; exact hcl1)
          have h0' : ¬ ((0 : Int) < (k : Int)) := by omega
          clear hcl1 hstep hju h0
          go_wp2
          go_round
          case rel => exact ⟨k + 1, _, by go_num, by omega, rfl, hfs.out, hfin⟩
          case measure => simp [intOf]; omega
        · have hfin : Hid (un (J ++ (⟨#[44]⟩ : ByteArray) ++ S) = commaJ (l.take (k + 1))) := Lib.hid (by rw [un_append, un_append, hstep.out, hju.out, hSu.out, if_neg (by omega)]; simp [un])
          have hfs : Hid ((J ++ (⟨#[44]⟩ : ByteArray) ++ S).size ≤ 60000) := Lib.hid (by rw [← length_un, hfin.out]; exact hcl1)
          have h0' : (0 : Int) < (k : Int) := by omega
          clear hcl1 hstep hju h0
          go_wp2
          go_round
          case rel => exact ⟨k + 1, _, by go_num, by omega, rfl, hfs.out, hfin⟩
          case measure => simp [intOf]; omega
      · obtain rfl : k = l.length := by omega
        rw [List.take_length] at hju
        by_cases hlong : 4096 < J.size
        · have hlong' : (4096 : Int) < (J.size : Int) := by omega
          clear hlong
          go_wp2_with fail
          refine (AW.out _).mono ?_; rintro e w2 ⟨rfl, hb2⟩
          go_wp2_with fail
          go_ret
          exact ⟨rfl, hb2⟩
        · have hlong' : ((J.size : Int) ≤ 4096) := by omega
          have hsame := joined_same l (by rw [← hju.out, length_un]; omega)
          have hP := parse_flags J w (by unfold maxLen; omega)
          rw [hju.out, hsame.1, hsame.2] at hP
          have hM := fun W h => merge_flags (.slice a l.length cap) l W h (by omega) (fun x hx => by have := HSZ.out x hx; unfold maxLen; omega)
          rw [hsame.2] at hM
          have HP := Lib.hid hP
          have HM := Lib.hid hM
          clear hlong hsame hP hM hju
          obtain ⟨N, hN⟩ : ∃ N, N = (cspM l).1 := ⟨_, rfl⟩
          rw [← hN] at HP HM
          clear hN
          go_wp2_with fail
          refine HP.out.mono ?_; rintro e w1 ⟨u1, b1, b2, rfl, h1, h2, h3, h4⟩
          have HB1 := Lib.hid h1
          have HB2 := Lib.hid h2
          clear h1 h2
          obtain ⟨a1, c1, rfl, _⟩ := h3.open
          have r1 := Blk3.new w1 26 (.bool b1) (.bool b2) (.slice a1 N.length c1)
          have D1 := (Below.refl _ w1).alloc (Nat.le_refl _) (.cells #[.bool b1, .bool b2, .slice a1 N.length c1] 26)
          have B1 := h4.trans (D1.mono h4.size)
          have hN1 := h3.below D1
          clear h3 h4 D1
          go_wp2_with fail
          refine (HM.out _ (HV.out.below B1)).mono ?_; rintro e w2 ⟨u2, b3, b4, rfl, h1, h2, h3, h4⟩
          obtain rfl : b3 = b1 := h1.trans HB1.out.symm
          obtain rfl : b4 = b2 := h2.trans HB2.out.symm
          obtain ⟨a2, c2, rfl, _⟩ := h3.open
          have r2 := (r1.below h4).alloc (.cells #[.bool b3, .bool b4, .slice a2 N.length c2] 26)
          have s2 := Blk3.new w2 26 (.bool b3) (.bool b4) (.slice a2 N.length c2)
          have B2 := B1.trans (h4.mono B1.size)
          have D2 := (Below.refl _ w2).alloc (Nat.le_refl _) (.cells #[.bool b3, .bool b4, .slice a2 N.length c2] 26)
          have B3 := B2.trans (D2.mono B2.size)
          have hN2 := (hN1.below h4).below D2
          have hN3 := h3.below D2
          have z0 := r2.c0; have z1 := r2.c1; have z2 := r2.c2; have y0 := s2.c0; have y1 := s2.c1; have y2 := s2.c2
          have HK := Lib.hid (keep_csps b3 b4 _ _ N _ hN2 hN3)
          clear h1 h2 h3 h4 HB1 HB2 r1 r2 s2 hN1 hN2 hN3 B1 B2 D2
          go_wp2_with fail
          refine HK.out.mono ?_; rintro e w4 ⟨rfl, hb4⟩
          have B4 := B3.trans (hb4.mono B3.size)
          go_wp2_with fail
          refine (AW.out _).mono ?_; rintro e w5 ⟨rfl, hb5⟩
          go_wp2_with fail
          go_ret
          exact ⟨rfl, B4.trans (hb5.mono B4.size)⟩
end Go.Proofs.YtimfngfimnapoaaDoor
