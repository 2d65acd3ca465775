/- The walk of the law FieldsRoundTrip (layer 21): it returns true; memory that existed is unchanged. Conditions: internal/bytealg.MaxLen holds some number. -/
import Derived.Test.YtimfngfimnapoaaLaw21
import Derived.Test.YtimfngfimnapoaaLaw21S
import Derived.Test.YtimfngfimnapoaaFieldsF
import Derived.Test.YtimfngfimnapoaaAppendB
namespace Go.Proofs.Ytimfngfimnapoaa
open Go.RowKit Hs
set_option linter.unusedSimpArgs false
set_option linter.unusedVariables false

theorem length_formatF (l : List Fld) : (formatF l).1.length ≤ 16384 := by
  unfold formatF
  repeat (any_goals split)
  all_goals (first | (simp; done) | (simp only; omega))
set_option maxHeartbeats 4000000 in
theorem roundTrip_walk21 (v : Value) (l : List Fld) (u : Value) (r : Bs) (w : World) (hmax : MaxOk w) (hv : Flds w v l) (hs : ∀ d ∈ l, d.1.length ≤ maxLen ∧ d.2.length ≤ maxLen) (hu : Byts w u r) : Calls Try.prog 7 #[v, u] w fun e w' => e = .returned (.bool true) ∧ Below w.heap.size w w' := by
  have hsm := l21_small v l w hv hs
  obtain ⟨ar, capr, rfl, hrn, hrm, _⟩ := hu.open
  cases hb : smallF l
  · rw [hb] at hsm
    have HSM := Lib.hid hsm
    clear hsm hb hs hv
    go_enter Try.func7, Try.ntmps7
    go_wp2_with fail
    refine HSM.out.mono ?_; rintro e w1 ⟨rfl, hb1⟩
    go_wp2_with fail
    refine (law21_awake _ (hmax.below hb1 hmax.lt)).mono ?_; rintro e w2 ⟨rfl, hb2⟩
    go_wp2_with fail
    go_ret
    exact ⟨rfl, hb1.trans (hb2.mono hb1.size)⟩
  · rw [hb] at hsm
    have HSM := Lib.hid hsm
    obtain ⟨hl, hsz⟩ := smallF_yes l hb
    have hsz1 : ∀ x ∈ l, x.1.length ≤ 10000 ∧ x.2.length ≤ 10000 := fun x hx => by have := hsz x hx; omega
    have HSZ := Lib.hid hsz1
    clear hsm hb hs hsz hsz1
    by_cases hr : r.length ≤ 100
    · have hr' : ((r.length : Int) ≤ 100) := by omega
      have hpar := Lib.hid (parseF_format l r)
      have HV := Lib.hid hv
      have HU := Lib.hid hu
      go_enter Try.func7, Try.ntmps7
      go_wp2_with fail
      refine HSM.out.mono ?_; rintro e w1 ⟨rfl, hb1⟩
      go_wp2_with fail
      refine (f_format v l _ (HV.out.below hb1) HSZ.out).mono ?_; rintro e w2 ⟨v2, rfl, hown2, hb2⟩
      have B2 := hb1.trans (hb2.mono hb1.size)
      have hd2 := Byts.owned hown2
      clear hb2 hown2 hb1 hv hu
      obtain ⟨R, hR⟩ : ∃ R, R = formatF l := ⟨_, rfl⟩
      have hTb := length_formatF l
      rw [← hR] at hd2 hpar hTb ⊢
      clear hR
      obtain ⟨T, er⟩ := R
      simp only at hd2 hpar hTb ⊢
      obtain ⟨a2, cap2, rfl, h2n, h2m, _⟩ := hd2.open
      by_cases he : er = 0
      · subst he
        by_cases hlong : T.length + r.length ≤ 16384
        · have hlong' : ((T.length : Int) + (r.length : Int) ≤ 16384) := by omega
          have hP : Hid (parseF (T ++ r) = (l, 0)) := Lib.hid (hpar.out rfl (by simp; omega))
          have HD2 := Lib.hid hd2
          clear hpar hd2
          go_wp2_with fail
          refine (keep_ownBytes _ T _ HD2.out (by omega)).mono ?_; rintro e w3 ⟨v3, rfl, hown3, hb3⟩
          have B3 := B2.trans (hb3.mono B2.size)
          have hs2 := B2.size
          have hs3 := hb3.size
          have hu3 := HU.out.below B3
          clear hb3
          go_wp2_with (at_builtin; refine wpList_append_byts _ rfl (.tmp 36) (.tmp 37) rfl w2.heap.size _ _ _ rfl hown3 _ rfl r hu3 (by omega) hs3 ?_; intro v4 w4 hown4 hgrow4; have B4 := B3.grown hgrow4 B3.size (fun j hj => Nat.le_trans hs2 (hown3.lt j hj).1); have hd4 : Byts w4 v4 (T ++ r) := Byts.owned (own_cast hown4 (by simp) (by rw [bcells_append])); clear hown4 hgrow4)
          refine (f_parse v4 (T ++ r) _ hd4 (by simp; omega) (hmax.below B4 hmax.lt)).mono ?_; rintro e w5 ⟨v5, rfl, hown5, hb5⟩
          rw [hP.out] at hown5 ⊢
          have B5 := B4.trans (hb5.mono B4.size)
          have hf5 := Flds.owned hown5
          have hv5 := HV.out.below B5
          clear hown5 hb5 hd4
          go_wp2_with fail
          refine (keep_fields v5 v l l _ hf5 hv5).mono ?_; rintro e w6 ⟨rfl, hb6⟩
          rw [decide_eq_true rfl]
          have B6 := B5.trans (hb6.mono B5.size)
          go_wp2_with fail
          refine (law21_awake _ (hmax.below B6 hmax.lt)).mono ?_; rintro e w7 ⟨rfl, hb7⟩
          go_wp2_with fail
          go_ret
          exact ⟨rfl, B6.trans (hb7.mono B6.size)⟩
        · have hlong' : ((16384 : Int) < (T.length : Int) + (r.length : Int)) := by omega
          clear hpar hlong
          go_wp2_with fail
          refine (law21_awake _ (hmax.below B2 hmax.lt)).mono ?_; rintro e w7 ⟨rfl, hb7⟩
          go_wp2_with fail
          go_ret
          exact ⟨rfl, B2.trans (hb7.mono B2.size)⟩
      · have hz1 : (er == 0) = false := by simpa using he
        clear hpar
        go_wp2_with fail
        refine (law21_awake _ (hmax.below B2 hmax.lt)).mono ?_; rintro e w7 ⟨rfl, hb7⟩
        go_wp2_with fail
        go_ret
        exact ⟨rfl, B2.trans (hb7.mono B2.size)⟩
    · have hr' : ((100 : Int) < (r.length : Int)) := by omega
      go_enter Try.func7, Try.ntmps7
      go_wp2_with fail
      refine HSM.out.mono ?_; rintro e w1 ⟨rfl, hb1⟩
      go_wp2_with fail
      refine (law21_awake _ (hmax.below hb1 hmax.lt)).mono ?_; rintro e w2 ⟨rfl, hb2⟩
      go_wp2_with fail
      go_ret
      exact ⟨rfl, hb1.trans (hb2.mono hb1.size)⟩
end Go.Proofs.Ytimfngfimnapoaa
