/- The walk of the law FieldsLookupMatchesSpec (layer 21): it returns true; memory that existed is unchanged. Conditions: internal/bytealg.MaxLen holds some number. -/
import Derived.Test.YtimfngfimnapoaaLaw21
import Derived.Test.YtimfngfimnapoaaLaw21S
import Derived.Test.YtimfngfimnapoaaFieldsG
namespace Go.Proofs.Ytimfngfimnapoaa
open Go.RowKit Hs
set_option linter.unusedSimpArgs false
set_option linter.unusedVariables false

set_option maxHeartbeats 2000000 in
theorem lookup_walk21 (v : Value) (l : List Fld) (s : ByteArray) (w : World) (hmax : MaxOk w) (hv : Flds w v l) (hs : ∀ d ∈ l, d.1.length ≤ maxLen ∧ d.2.length ≤ maxLen) (hss : s.size ≤ maxLen) : Calls Try.prog 5 #[v, .string s] w fun e w' => e = .returned (.bool true) ∧ Below w.heap.size w w' := by
  have hsm := l21_small v l w hv hs
  unfold maxLen at hss
  cases hb : smallF l
  · rw [hb] at hsm
    have HSM := Lib.hid hsm
    clear hsm hb hs hv
    go_enter Try.func5, Try.ntmps5
    go_wp2_with fail
    refine HSM.out.mono ?_; rintro e w1 ⟨rfl, hb1⟩
    go_wp2_with fail
    refine (law21_awake _ (hmax.below hb1 hmax.lt)).mono ?_; rintro e w2 ⟨rfl, hb2⟩
    go_wp2_with fail
    go_ret
    exact ⟨rfl, hb1.trans (hb2.mono hb1.size)⟩
  · rw [hb] at hsm
    have HSM := Lib.hid hsm
    obtain ⟨hl, hsz⟩ := smallF_yes l hb
    have hsz1 : ∀ x ∈ l, x.1.length ≤ 100000 := fun x hx => by have := hsz x hx; omega
    have HSZ := Lib.hid hsz1
    clear hsm hb hs hsz hsz1
    by_cases hlen : s.size ≤ 3000
    · have hlen' : ((s.size : Int) ≤ 3000) := by omega
      go_enter Try.func5, Try.ntmps5
      go_wp2_with fail
      refine HSM.out.mono ?_; rintro e w1 ⟨rfl, hb1⟩
      have hv1 := hv.below hb1
      go_wp2_with fail
      refine (f_first v l s _ hv1 (by omega) (by omega) HSZ.out).mono ?_; rintro e w2 ⟨rfl, hb2⟩
      have hv2 := hv1.below hb2
      have B2 := hb1.trans (hb2.mono hb1.size)
      clear hb2 hv1
      go_wp2_with fail
      refine (r21_first v l s _ hv2 (by omega) (by omega) HSZ.out).mono ?_; rintro e w3 ⟨rfl, hb3⟩
      have hv3 := hv2.below hb3
      have B3 := B2.trans (hb3.mono B2.size)
      clear hb3 hv2 B2 hb1
      obtain ⟨q1, q2⟩ := firstF l (un s)
      go_wp2_with fail
      refine (f_all v l s _ hv3 (by omega) (by omega) HSZ.out).mono ?_; rintro e w4 ⟨v4, rfl, hown4, hb4⟩
      have hv4 := hv3.below hb4
      have B4 := B3.trans (hb4.mono B3.size)
      have hs4 : Strs w4 v4 (namedF l (un s)) := Row.owned hown4
      clear hb4 hv3 B3 hown4
      go_wp2_with fail
      refine (r21_all v l s _ hv4 (by omega) (by omega) HSZ.out).mono ?_; rintro e w5 ⟨v5, rfl, hown5, hb5⟩
      have B5 := B4.trans (hb5.mono B4.size)
      have hs5 : Strs w5 v5 (namedF l (un s)) := Row.owned hown5
      have hs6 := hs4.below hb5
      clear hb5 hv4 B4 hown5
      go_wp2_with fail
      refine (keep_texts v4 v5 _ _ _ hs6 hs5).mono ?_; rintro e w6 ⟨rfl, hb6⟩
      rw [decide_eq_true rfl]
      have B6 := B5.trans (hb6.mono B5.size)
      go_wp2_with fail
      refine (law21_awake _ (hmax.below B6 hmax.lt)).mono ?_; rintro e w7 ⟨rfl, hb7⟩
      go_wp2_with fail
      go_ret
      exact ⟨rfl, B6.trans (hb7.mono B6.size)⟩
    · have hlen' : ((3000 : Int) < (s.size : Int)) := by omega
      go_enter Try.func5, Try.ntmps5
      go_wp2_with fail
      refine HSM.out.mono ?_; rintro e w1 ⟨rfl, hb1⟩
      go_wp2_with fail
      refine (law21_awake _ (hmax.below hb1 hmax.lt)).mono ?_; rintro e w2 ⟨rfl, hb2⟩
      go_wp2_with fail
      go_ret
      exact ⟨rfl, hb1.trans (hb2.mono hb1.size)⟩
end Go.Proofs.Ytimfngfimnapoaa
