/- The walk of SecondsOrder: returns true; memory that existed is unchanged. Conditions: the library's table of powers of ten holds what it should. -/
import Derived.Test.YtmneleackpgfbaaDoorSeconds
import Derived.Test.YtmneleackpgfbaaDoorLaw04A
import Derived.Test.YtmneleackpgfbaaDoorFromInt
import Derived.Test.YtmneleackpgfbaaDoorAsciiWords
import Derived.Test.YtmneleackpgfbaaDoorLaidKit
namespace Go.Proofs.YtmneleackpgfbaaDoor
open Go.RowKit Hs
set_option linter.unusedSimpArgs false
set_option linter.unusedVariables false

theorem secR_more (l b : Bs) (h : l ≠ []) (hb : (secR (l ++ b)).2 = true) : (secR l).2 = true ∧ (secR l).1 ≤ (secR (l ++ b)).1 := by
  unfold secR at *
  by_cases ha : (l ++ b).all isDigit = true
  · have hl : l.all isDigit = true := by rw [List.all_append, Bool.and_eq_true] at ha; exact ha.1
    rw [if_pos hl, if_pos ha]
    refine ⟨by simp [h], ?_⟩
    show satV l 0 ≤ satV (l ++ b) 0
    rw [satV_zero, satV_zero, valV_append]
    have := valV_ge b (valV l 0)
    omega
  · rw [if_neg ha] at hb; cases hb

set_option maxHeartbeats 1600000 in
theorem order_walk (a b : ByteArray) (w : World) (hN : Tab w) (ha : a.size ≤ maxLen) (hb : b.size ≤ maxLen) : Calls Tryd.prog 5 #[.string a, .string b] w fun e w' => e = .returned (.bool true) ∧ Below w.heap.size w w' := by
  have hst : Strs (w.alloc (.cells #[.string a, .string b] 9)) (.slice (some ⟨w.heap.size, 0, none⟩) 2 2) [un a, un b] := strs_lit w [a, b] _ (by simp [maxLen])
  have HST := Lib.hid hst
  clear hst
  have hle : Hid (∀ t ∈ [un a, un b], t.length ≤ maxLen) := by
    intro t ht
    simp only [List.mem_cons, List.not_mem_nil, or_false] at ht
    rcases ht with rfl | rfl <;> rw [length_un] <;> assumption
  have hall : ([un a, un b].all fun t => decide ((t.length : Int) ≤ 3000)) = decide (a.size ≤ 3000 ∧ b.size ≤ 3000) := by
    rw [Bool.eq_iff_iff]; simp [length_un]; omega
  have b0 : Below w.heap.size w (w.alloc (.cells #[.string a, .string b] 9)) := (Below.refl _ _).alloc (Nat.le_refl _) _
  have B0 := Lib.hid b0
  have HN := Lib.hid (hN.below b0)
  clear b0 ha hb hN
  by_cases hs : a.size ≤ 3000 ∧ b.size ≤ 3000
  · have hsh := Lib.hid (hall.trans (decide_eq_true hs))
    obtain ⟨hsa, hsb⟩ := hs
    clear hall
    have c1 := fun w => s_parse (({ data := #[49] } : ByteArray) ++ a) w (by rw [ByteArray.size_append]; show 1 + _ ≤ _; omega)
    have c2 := fun w => s_parse (({ data := #[49] } : ByteArray) ++ a ++ b) w (by rw [ByteArray.size_append, ByteArray.size_append]; show 1 + _ + _ ≤ _; omega)
    rw [show un (({ data := #[49] } : ByteArray) ++ a) = 49 :: un a from by rw [un_append]; rfl] at c1
    rw [show un (({ data := #[49] } : ByteArray) ++ a ++ b) = (49 :: un a) ++ un b from by rw [un_append, un_append]; rfl] at c2
    have hmore := secR_more (49 :: un a) (un b) (by simp)
    have l1 := secR_le (49 :: un a)
    have l2 := secR_le ((49 :: un a) ++ un b)
    generalize secR (49 :: un a) = r1 at *
    generalize secR ((49 :: un a) ++ un b) = r2 at *
    obtain ⟨x, ok⟩ := r1
    obtain ⟨y, is⟩ := r2
    have l1' : x ≤ 2147483647 := l1
    have l2' : y ≤ 2147483647 := l2
    have C1 := Lib.hid c1; have C2 := Lib.hid c2
    clear l1 l2 c1 c2
    cases is
    · clear hmore
      cases ok
      all_goals
        go_enter Tryd.func5, Tryd.ntmps5
        go_wp2_with fail
        refine (keep_short 3000 _ [un a, un b] _ HST.out hle.out).mono ?_; rintro e w' ⟨rfl, rfl⟩
        rw [hsh.out]
        go_wp2_with fail
        refine (C1.out _).mono ?_; rintro e w1 ⟨rfl, rfl⟩
        go_wp2_with fail
        refine (C2.out _).mono ?_; rintro e w1 ⟨rfl, rfl⟩
        go_wp2_with fail
        all_goals
          refine (law04_awake _ HN.out).mono ?_; rintro e w1 ⟨rfl, hb1⟩
          go_wp2_with fail
          go_ret
          exact ⟨rfl, B0.out.trans (hb1.mono B0.out.size)⟩
    · obtain ⟨h1, h2⟩ := hmore rfl
      have h1' : ok = true := h1
      subst h1'
      have hxy : x ≤ y := h2
      clear h1 h2 hmore
      have hxy' : (x : Int) ≤ (y : Int) := by omega
      go_enter Tryd.func5, Tryd.ntmps5
      go_wp2_with fail
      refine (keep_short 3000 _ [un a, un b] _ HST.out hle.out).mono ?_; rintro e w' ⟨rfl, rfl⟩
      rw [hsh.out]
      go_wp2_with fail
      refine (C1.out _).mono ?_; rintro e w1 ⟨rfl, rfl⟩
      go_wp2_with fail
      refine (C2.out _).mono ?_; rintro e w1 ⟨rfl, rfl⟩
      go_wp2_with fail
      all_goals
        refine (law04_awake _ HN.out).mono ?_; rintro e w1 ⟨rfl, hb1⟩
        go_wp2_with fail
        go_ret
        exact ⟨rfl, B0.out.trans (hb1.mono B0.out.size)⟩
  · have hsh := Lib.hid (hall.trans (decide_eq_false hs))
    clear hall hs
    go_enter Tryd.func5, Tryd.ntmps5
    go_wp2_with fail
    refine (keep_short 3000 _ [un a, un b] _ HST.out hle.out).mono ?_; rintro e w' ⟨rfl, rfl⟩
    rw [hsh.out]
    go_wp2_with fail
    refine (law04_awake _ HN.out).mono ?_; rintro e w1 ⟨rfl, hb1⟩
    go_wp2_with fail
    go_ret
    exact ⟨rfl, B0.out.trans (hb1.mono B0.out.size)⟩
end Go.Proofs.YtmneleackpgfbaaDoor
