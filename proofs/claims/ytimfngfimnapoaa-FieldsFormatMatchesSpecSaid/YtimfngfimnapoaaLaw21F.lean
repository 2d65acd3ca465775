/- The walks of the laws FieldsFormatMatchesSpec and FieldsRoundTrip (layer 21): each returns true; memory that existed is unchanged. Conditions: internal/bytealg.MaxLen holds some number. -/
import Derived.Test.YtimfngfimnapoaaLaw21
import Derived.Test.YtimfngfimnapoaaLaw21S
import Derived.Test.YtimfngfimnapoaaFieldsF
import Derived.Test.YtimfngfimnapoaaFieldsH
namespace Go.Proofs.Ytimfngfimnapoaa
open Go.RowKit Hs
set_option linter.unusedSimpArgs false
set_option linter.unusedVariables false

set_option maxHeartbeats 2000000 in
theorem format_walk21 (v : Value) (l : List Fld) (w : World) (hmax : MaxOk w) (hv : Flds w v l) (hs : ∀ d ∈ l, d.1.length ≤ maxLen ∧ d.2.length ≤ maxLen) : Calls Try.prog 6 #[v] w fun e w' => e = .returned (.bool true) ∧ Below w.heap.size w w' := by
  have hsm := l21_small v l w hv hs
  cases hb : smallF l
  · rw [hb] at hsm
    have HSM := Lib.hid hsm
    clear hsm hb hs hv
    go_enter Try.func6, Try.ntmps6
    go_wp2_with fail
    refine HSM.out.mono ?_; rintro e w1 ⟨rfl, hb1⟩
    go_wp2_with fail
    refine (law21_awake _ (hmax.below hb1 hmax.lt)).mono ?_; rintro e w2 ⟨rfl, hb2⟩
    go_wp2_with fail
    go_ret
    exact ⟨rfl, hb1.trans (hb2.mono hb1.size)⟩
  · rw [hb] at hsm
    have HSM := Lib.hid hsm
    obtain ⟨hl, hsz⟩ := smallF_yes l hb
    have hsz1 : ∀ x ∈ l, x.1.length ≤ 10000 ∧ x.2.length ≤ 10000 := fun x hx => by have := hsz x hx; omega
    have HSZ := Lib.hid hsz1
    clear hsm hb hs hsz hsz1
    go_enter Try.func6, Try.ntmps6
    go_wp2_with fail
    refine HSM.out.mono ?_; rintro e w1 ⟨rfl, hb1⟩
    have hv1 := hv.below hb1
    go_wp2_with fail
    refine (f_format v l _ hv1 HSZ.out).mono ?_; rintro e w2 ⟨v2, rfl, hown2, hb2⟩
    have hv2 := hv1.below hb2
    have B2 := hb1.trans (hb2.mono hb1.size)
    have hd2 := Byts.owned hown2
    clear hb2 hv1 hown2
    go_wp2_with fail
    refine (r21_format v l _ hv2 HSZ.out).mono ?_; rintro e w3 ⟨v3, rfl, hd3, hb3⟩
    have B3 := B2.trans (hb3.mono B2.size)
    have he3 := hd2.below hb3
    clear hb3 hv2 B2 hb1 hd2
    obtain ⟨R, hR⟩ : ∃ R, R = formatF l := ⟨_, rfl⟩
    rw [← hR] at hd3 he3 ⊢
    clear hR
    go_wp2_with fail
    refine (keep_bytes v2 v3 _ _ _ he3 hd3).mono ?_; rintro e w' ⟨rfl, rfl⟩
    rw [decide_eq_true rfl]
    go_wp2_with fail
    refine (law21_awake _ (hmax.below B3 hmax.lt)).mono ?_; rintro e w7 ⟨rfl, hb7⟩
    go_wp2_with fail
    go_ret
    exact ⟨rfl, B3.trans (hb7.mono B3.size)⟩

end Go.Proofs.Ytimfngfimnapoaa
