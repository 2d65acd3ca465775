/- The walks of the parser's methods of the layer directive (program): token and value. Conditions: the text's length is bounded; the parser's block holds the text and the index. -/
import Derived.Test.YtjdkmidajhbefaaDoorQuotedP
import Derived.Test.YtjdkmidajhbefaaDoorDirS
namespace Go.Proofs.YtjdkmidajhbefaaDoor
open Go.RowKit Hs
set_option linter.unusedSimpArgs false
set_option linter.unusedVariables false

theorem p_token (g : Nat) (s : ByteArray) (i : Nat) (w : World) (hp : PAt w g s i) (hi : i ≤ s.size) (hs : s.size ≤ 100000000) : Calls Tryd.prog 20 #[.pointer (some ⟨g, 0, none⟩)] w fun e w' => e = .returned (.tuple #[.string (mk (seg (un s) i (tokEnd (un s) i))), .bool (decide (i < tokEnd (un s) i))]) ∧ PAt w' g s (tokEnd (un s) i) ∧ w.grownBy w' (some g) := by
  have c0 := hp.c0
  have c1 := hp.c1
  have f1 := hp.f1
  have hge := tokEnd_ge (un s) i
  have hle := tokEnd_le (un s) i (by rw [length_un]; exact hi)
  rw [length_un] at hle
  have ex := Lib.hid (extract_seg s i (tokEnd (un s) i))
  obtain ⟨n, hn⟩ : ∃ n, n = tokEnd (un s) i := ⟨_, rfl⟩
  rw [← hn] at hge hle ex ⊢
  have HN := Lib.hid hn
  clear hn
  go_enter Tryd.func20, Tryd.ntmps20
  go_wp2_with fail
  refine (q_token s i _ hs).mono ?_; rintro e w' ⟨rfl, rfl⟩
  rw [← HN.out]
  go_wp2_with fail
  go_quiet (fail)
  go_wp2
  go_ret2
  refine ⟨?_, (hp.set n).drewN _, grown_drewN (grown_setCell _ _ _ _) _⟩
  rw [ex.out]
  by_cases h : i < n
  · rw [decide_eq_true h]; rfl
  · rw [decide_eq_false h]; rfl

/-- What value returns. -/
def vval (o : Option (Bs × Nat)) : Value := match o with
  | some p => .tuple #[.string (mk p.1), .bool true]
  | none => .tuple #[.string ByteArray.empty, .bool false]
def vat (o : Option (Bs × Nat)) (i : Nat) : Nat := match o with
  | some p => p.2
  | none => i
set_option maxRecDepth 20000 in
set_option maxHeartbeats 1000000 in
theorem p_value (g : Nat) (s : ByteArray) (i : Nat) (w : World) (hp : PAt w g s i) (hi : i ≤ s.size) (hs : s.size ≤ 100000000) : Calls Tryd.prog 22 #[.pointer (some ⟨g, 0, none⟩)] w fun e w' => e = .returned (vval (valI (un s) i)) ∧ PAt w' g s (vat (valI (un s) i) i) ∧ w.grownBy w' (some g) := by
  by_cases hq : atN (un s) i = 34
  · have hd := Lib.hid (decide_eq_true hq)
    by_cases he : (parseQ (un s) i).e = 0
    · have hv := Lib.hid (valI_quote (un s) i hq he)
      have hqv : Hid (qval (parseQ (un s) i) = .tuple #[.string (mk (parseQ (un s) i).v), .int .i64 ((parseQ (un s) i).n : Int), .int .i64 0]) := Lib.hid (by unfold qval; rw [he])
      clear hq he
      rw [hv.out]
      simp only [vval, vat]
      obtain ⟨n, hn⟩ : ∃ n, n = (parseQ (un s) i).n := ⟨_, rfl⟩
      obtain ⟨v, hvv⟩ : ∃ v, v = (parseQ (un s) i).v := ⟨_, rfl⟩
      rw [← hn, ← hvv] at hqv ⊢
      have hc : Hid (∀ W : World, Calls Tryd.prog 25 #[.string s, .int .i64 (i : Int)] W fun e w' => e = .returned (.tuple #[.string (mk v), .int .i64 (n : Int), .int .i64 0]) ∧ Below W.heap.size W w') := Lib.hid fun W => by
        have := q_parse s i W hs
        rw [hqv.out] at this
        exact this
      clear hqv hv hn hvv
      go_enter Tryd.func22, Tryd.ntmps22
      go_wp2_with fail
      refine (p_is g s i 34 _ hp hi hs (by decide)).mono ?_; rintro e w1 ⟨rfl, hp1, hg1⟩
      rw [hd.out]
      have d0 := hp1.c0
      have d1 := hp1.c1
      go_wp2_with fail
      go_region_with (go_at_call 25; refine (hc.out _).mono ?_; rintro e w2 ⟨rfl, hb2⟩; have hp2 : PAt _ g s i := PAt.below (by exact hp1) hb2)
      all_goals
        have k1 := hp2.c1
        have kf := hp2.f1
        go_wp2
        go_ret2
        exact ⟨rfl, hp2.set n, grown_trans (grown_below (by first | exact hg1 | exact grown_drewN hg1 1) hb2) (grown_setCell _ _ _ _)⟩
    · have hv := Lib.hid (valI_bad (un s) i hq he)
      obtain ⟨q, hqq⟩ : ∃ q, q = parseQ (un s) i := ⟨_, rfl⟩
      have hne : q.e ≠ 0 := by rw [hqq]; exact he
      have hqv : Hid (qval (parseQ (un s) i) = .tuple #[.string (mk q.v), .int .i64 (q.n : Int), .int .i64 q.e]) := Lib.hid (by rw [hqq, qval])
      clear hq he hqq
      rw [hv.out]
      simp only [vval, vat]
      obtain ⟨z, hz⟩ : ∃ z, z = q.e := ⟨_, rfl⟩
      obtain ⟨n, hn⟩ : ∃ n, n = q.n := ⟨_, rfl⟩
      obtain ⟨v, hvv⟩ : ∃ v, v = q.v := ⟨_, rfl⟩
      rw [← hz, ← hn, ← hvv] at hqv
      rw [← hz] at hne
      have hc : Hid (∀ W : World, Calls Tryd.prog 25 #[.string s, .int .i64 (i : Int)] W fun e w' => e = .returned (.tuple #[.string (mk v), .int .i64 (n : Int), .int .i64 z]) ∧ Below W.heap.size W w') := Lib.hid fun W => by
        have := q_parse s i W hs
        rw [hqv.out] at this
        exact this
      clear hqv hv hn hvv hz
      go_enter Tryd.func22, Tryd.ntmps22
      go_wp2_with fail
      refine (p_is g s i 34 _ hp hi hs (by decide)).mono ?_; rintro e w1 ⟨rfl, hp1, hg1⟩
      rw [hd.out]
      have d0 := hp1.c0
      have d1 := hp1.c1
      go_wp2_with fail
      go_region_with (go_at_call 25; refine (hc.out _).mono ?_; rintro e w2 ⟨rfl, hb2⟩; have hp2 : PAt _ g s i := PAt.below (by exact hp1) hb2)
      all_goals
        go_wp2
        go_ret2
        exact ⟨rfl, hp2, grown_below (by first | exact hg1 | exact grown_drewN hg1 1) hb2⟩
  · have hd := Lib.hid (decide_eq_false hq)
    by_cases ht : i < tokEnd (un s) i
    · have hv := Lib.hid (valI_tok (un s) i hq ht)
      have hdt := Lib.hid (decide_eq_true ht)
      rw [hv.out]
      simp only [vval, vat]
      clear hq ht
      go_enter Tryd.func22, Tryd.ntmps22
      go_wp2_with fail
      refine (p_is g s i 34 _ hp hi hs (by decide)).mono ?_; rintro e w1 ⟨rfl, hp1, hg1⟩
      rw [hd.out]
      go_wp2_with fail
      refine (p_token g s i _ hp1 hi hs).mono ?_; rintro e w2 ⟨rfl, hp2, hg2⟩
      rw [hdt.out]
      go_wp2_with fail
      go_ret2
      exact ⟨rfl, hp2, grown_trans hg1 hg2⟩
    · have hv := Lib.hid (valI_none (un s) i hq ht)
      have hdt := Lib.hid (decide_eq_false ht)
      have het : tokEnd (un s) i = i := by have := tokEnd_ge (un s) i; omega
      have HET := Lib.hid het
      rw [hv.out]
      simp only [vval, vat]
      clear hq ht het
      go_enter Tryd.func22, Tryd.ntmps22
      go_wp2_with fail
      refine (p_is g s i 34 _ hp hi hs (by decide)).mono ?_; rintro e w1 ⟨rfl, hp1, hg1⟩
      rw [hd.out]
      go_wp2_with fail
      refine (p_token g s i _ hp1 hi hs).mono ?_; rintro e w2 ⟨rfl, hp2, hg2⟩
      rw [hdt.out, HET.out, seg_self]
      rw [HET.out] at hp2
      go_wp2_with fail
      go_ret2
      exact ⟨rfl, hp2, grown_trans hg1 hg2⟩
end Go.Proofs.YtjdkmidajhbefaaDoor
