/- The walk of the law CspMore (layer 20): it returns true; memory that existed is unchanged. Conditions: none. -/
import Derived.Test.YtimfngfimnapoaaDoorLaw20J
import Derived.Test.YtimfngfimnapoaaDoorAppendS
import Derived.Test.YtimfngfimnapoaaDoorLater
namespace Go.Proofs.YtimfngfimnapoaaDoor
open Go.RowKit Hs
set_option linter.unusedSimpArgs false
set_option linter.unusedVariables false

/-- Whether a further value may come. -/
theorem more_cases (vs : List Bs) (m : Bs) (h : m.length ≤ 4096) : (cspM vs = ([], 3) ∧ cspM (vs ++ [m]) = ([], 3)) ∨ ∃ A X, cspM vs = (A, 0) ∧ cspM (vs ++ [m]) = (A ++ X, 0) := by
  unfold cspM
  rw [mergeN_append]
  cases hm : mergeN vs [] with
  | none => exact .inl ⟨rfl, rfl⟩
  | some A =>
    obtain ⟨X, hX⟩ := uniqN_prefix (headsV m) A
    refine .inr ⟨A, X, rfl, ?_⟩
    have e : mergeN [m] A = some (A ++ X) := by rw [mergeN_short _ _ _ (by omega), mergeN_nil, hX]
    simp only [Option.bind_some, e]
theorem take_strs {w : World} {A X : List Bs} {a : Option Addr} {c : Nat} (h : Strs w (.slice a (A ++ X).length c) (A ++ X)) : Strs w (.slice a A.length c) A := by
  obtain ⟨hl, a', c', hv, hn, hm, hc⟩ := h
  injection hv with e1 e2 e3
  subst e1; subst e3
  rw [List.length_append] at hn
  refine ⟨by simp, _, _, rfl, by omega, hm, ?_⟩
  rcases Nat.eq_zero_or_pos A.length with h0 | hpos
  · exact .inl h0
  · obtain ⟨b, off, rfl, hb, hcell⟩ := hc.resolve_left (by rw [List.length_append]; omega)
    exact .inr ⟨b, off, rfl, hb, fun j u hj => hcell j u (by rw [scells_append, List.getElem?_append_left (by have := (List.getElem?_eq_some_iff.1 hj).1; exact this)]; exact hj)⟩

set_option maxHeartbeats 4000000 in
theorem more_walk20 (v : Value) (l : List Bs) (m : ByteArray) (w : World) (hv : Strs w v l) (hs : ∀ x ∈ l, x.length ≤ maxLen) (hms : m.size ≤ maxLen) : Calls Tryd.prog 6 #[v, .string m] w fun e w' => e = .returned (.bool true) ∧ Below w.heap.size w w' := by
  have AW := Lib.hid (fun W => law20_awake W)
  have hsm := l20_small v l w hv hs
  unfold maxLen at hms
  have HV := Lib.hid hv
  have HS := Lib.hid hs
  cases hb : smallV l
  · rw [hb] at hsm
    have HSM := Lib.hid hsm
    clear hsm hb hs hv
    go_enter Tryd.func6, Tryd.ntmps6
    go_wp2_with fail
    refine HSM.out.mono ?_; rintro e w' ⟨rfl, rfl⟩
    go_wp2_with fail
    refine (AW.out _).mono ?_; rintro e w2 ⟨rfl, hb2⟩
    go_wp2_with fail
    go_ret
    exact ⟨rfl, hb2⟩
  · rw [hb] at hsm
    have HSM := Lib.hid hsm
    obtain ⟨hl12, hsz⟩ := smallV_yes l hb
    have HSZ := Lib.hid hsz
    clear hsm hb hs hsz
    by_cases hlong : m.size ≤ 4096
    · have hlong' : ((m.size : Int) ≤ 4096) := by omega
      have hcase := Lib.hid (more_cases l (un m) (by rw [length_un]; exact hlong))
      have hM := merge_flags v l w hv (by omega) (fun x hx => by have := HSZ.out x hx; unfold maxLen; omega)
      have hM2 := fun W u (h : Strs W u (l ++ [un m])) => merge_flags u (l ++ [un m]) W h (by simp; omega) (fun x hx => by
        rcases List.mem_append.1 hx with hx | hx
        · have := HSZ.out x hx; unfold maxLen; omega
        · rw [List.mem_singleton.1 hx, length_un]; unfold maxLen; omega)
      have HM := Lib.hid hM
      have HM2 := Lib.hid hM2
      clear hM hM2 hv hlong
      obtain ⟨a, cap, rfl, hn, hmx, _⟩ := HV.out.open
      go_enter Tryd.func6, Tryd.ntmps6
      go_wp2_with fail
      refine HSM.out.mono ?_; rintro e w' ⟨rfl, rfl⟩
      go_wp2_with fail
      refine HM.out.mono ?_; rintro e w1 ⟨u1, b1, b2, rfl, h1, h2, h3, h4⟩
      obtain ⟨a1, c1, rfl, hn1, hm1, _⟩ := h3.open
      unfold maxLen at hm1
      have r1 := Blk3.new w1 26 (.bool b1) (.bool b2) (.slice a1 (cspM l).1.length c1)
      have D1 := (Below.refl _ w1).alloc (Nat.le_refl _) (.cells #[.bool b1, .bool b2, .slice a1 (cspM l).1.length c1] 26)
      have B1 := h4.trans (D1.mono h4.size)
      have hN1 := h3.below D1
      obtain ⟨E0, hE0⟩ : ∃ E0, E0 = (cspM l).2 := ⟨_, rfl⟩
      obtain ⟨N0, hN0⟩ : ∃ N0, N0 = (cspM l).1 := ⟨_, rfl⟩
      rw [← hE0]
      rw [← hN0] at h1 h2 r1 D1 B1 hN1 hn1
      rw [← hN0]
      have HE0 := Lib.hid hE0
      have HN0 := Lib.hid hN0
      have hs1 : (w1.alloc (.cells #[.bool b1, .bool b2, .slice a1 N0.length c1] 26)).heap.size = w1.heap.size + 1 := by simp
      have hmt : ((w1.alloc (.cells #[.bool b1, .bool b2, .slice a1 N0.length c1] 26)).alloc (.cells #[] 9)).ownsRow (w1.heap.size + 1) 9 1 (.slice (some ⟨w1.heap.size + 1, 0, none⟩) 0 0) 0 [] := by
        have := World.ownsRow_made (e := 9) (size := 1) (base := (w1.alloc (.cells #[.bool b1, .bool b2, .slice a1 N0.length c1] 26)).heap.size) (w1.alloc (.cells #[.bool b1, .bool b2, .slice a1 N0.length c1] 26)) #[] 0 (Nat.le_refl _) (by simp [maxLen]) (by simp)
        rwa [hs1] at this
      have HF1 := Lib.hid h1
      have HF2 := Lib.hid h2
      have hl3 : 0 + l.length ≤ 12 := by omega
      have hl4 : l.length + [un m].length ≤ 1000000 := by simp; omega
      have hvW := HV.out.below (B1.trans (((Below.refl _ (w1.alloc (.cells #[.bool b1, .bool b2, .slice a1 N0.length c1] 26))).alloc (Nat.le_refl _) (.cells #[] 9)).mono B1.size))
      have hb0 : Below (w1.heap.size + 1) (w1.alloc (.cells #[.bool b1, .bool b2, .slice a1 N0.length c1] 26)) ((w1.alloc (.cells #[.bool b1, .bool b2, .slice a1 N0.length c1] 26)).alloc (.cells #[] 9)) := (Below.refl _ (w1.alloc (.cells #[.bool b1, .bool b2, .slice a1 N0.length c1] 26))).alloc (by simp) _
      have hb00 : w1.heap.size + 1 ≤ ((w1.alloc (.cells #[.bool b1, .bool b2, .slice a1 N0.length c1] 26)).alloc (.cells #[] 9)).heap.size := by simp
      have hb01 : w1.heap.size + 1 ≤ (w1.alloc (.cells #[.bool b1, .bool b2, .slice a1 N0.length c1] 26)).heap.size := by simp
      clear h1 h2 h3 h4 hE0 hN0
      go_wp2_with (first
        | (at_builtin; refine wpList_append_strs _ rfl (.tmp 24) (.tmp 25) rfl (w1.heap.size + 1) _ _ _ rfl hmt _ rfl l hvW (by omega) hb00 ?_; intro v3 w3 hown3 hgrow3; have D3 := hb0.grown hgrow3 hb00 (fun k e => by have e2 : some (w1.heap.size + 1) = some k := e; cases e2; exact Nat.le_refl _); rw [List.nil_append, Nat.zero_add] at hown3; obtain ⟨a3, c3, rfl⟩ := own_slice hown3; have hs3 := D3.size)
        | (at_builtin; refine wpList_append_strs _ rfl (.tmp 26) (.tmp 28) rfl (w1.heap.size + 1) _ _ _ rfl (hown3.alloc _) _ rfl [un m] (by exact strs_lit w3 [m] _ (by simp [maxLen])) hl4 (by rw [World.size_alloc]; omega) ?_; intro v4 w4 hown4 hgrow4; have D4 := (D3.alloc (by omega) (.cells #[.string m] 9)).grown hgrow4 (by rw [World.size_alloc]; omega) (fun k e => (hown3.lt k e).1); rw [← scells_append] at hown4; have hst4 : Strs w4 v4 (l ++ [un m]) := Row.owned (e := 9) (base := w1.heap.size + 1) (by have := hown4; simpa [List.length_append] using this)))
      refine (HM2.out _ _ hst4).mono ?_; rintro e w5 ⟨u2, b3, b4, rfl, h1, h2, h3, h4⟩
      have D5 : Below (w1.alloc (.cells #[.bool b1, .bool b2, .slice a1 N0.length c1] 26)).heap.size (w1.alloc (.cells #[.bool b1, .bool b2, .slice a1 N0.length c1] 26)) w5 := by rw [hs1]; exact D4.trans (h4.mono (by have := D4.size; omega))
      have r5 := r1.below D5
      have hN5 := hN1.below D5
      have B5 := B1.trans (D5.mono B1.size)
      obtain ⟨a5, c5, rfl, hn5, hm5, _⟩ := h3.open
      unfold maxLen at hm5
      obtain ⟨g, hg⟩ : ∃ g, g = w1.heap.size := ⟨_, rfl⟩
      have HG := Lib.hid hg
      clear hst4 hown3 hown4 hgrow3 hgrow4 D3 D4 hvW h4 hb0 hb00 hb01 hmt hs3 hg
      rcases hcase.out with ⟨e1, e2⟩ | ⟨A, X, e1, e2⟩
      · rw [e2] at h1 h2 h3 hn5 ⊢
        obtain rfl : E0 = 3 := by rw [HE0.out, e1]
        have B6 := B5.alloc B5.size (.cells #[.bool b3, .bool b4, .slice a5 0 c5] 26)
        clear h1 h2 h3
        go_wp2_with fail
        refine (AW.out _).mono ?_; rintro e w2 ⟨rfl, hb2⟩
        go_wp2_with fail
        go_ret
        exact ⟨rfl, B6.trans (hb2.mono B6.size)⟩
      · rw [e2] at h1 h2 h3 hn5 ⊢
        obtain rfl : E0 = 0 := by rw [HE0.out, e1]
        obtain rfl : N0 = A := by rw [HN0.out, e1]
        simp only at h1 h2 h3 hn5 ⊢
        have s6 := Blk3.new w5 26 (.bool b3) (.bool b4) (.slice a5 (N0 ++ X).length c5)
        have r6 := r5.alloc (.cells #[.bool b3, .bool b4, .slice a5 (N0 ++ X).length c5] 26)
        have D6 := (Below.refl _ w5).alloc (Nat.le_refl _) (.cells #[.bool b3, .bool b4, .slice a5 (N0 ++ X).length c5] 26)
        have B6 := B5.trans (D6.mono B5.size)
        have ht6 := take_strs (h3.below D6)
        have hN6 := hN5.below D6
        have f1 : b1 = true → b3 = true := fun e => by
          rw [h1, decide_eq_true_eq]
          have := HF1.out; rw [e] at this
          exact List.mem_append.2 (.inl (of_decide_eq_true this.symm))
        have f2 : b2 = true → b4 = true := fun e => by
          rw [h2, decide_eq_true_eq]
          have := HF2.out; rw [e] at this
          exact List.mem_append.2 (.inl (of_decide_eq_true this.symm))
        have hlen : N0.length ≤ (N0 ++ X).length := by simp
        have hkt := fun W (q1 : Strs W (.slice a5 N0.length c5) N0) (q2 : Strs W (.slice a1 N0.length c1) N0) => keep_texts _ _ N0 N0 W q1 q2
        simp only [decide_eq_true rfl] at hkt
        have HKT := Lib.hid hkt
        generalize (N0 ++ X).length = nx at *
        have hlt1 : ¬ ((nx : Int) < (N0.length : Int)) := by omega
        have hlt2 : decide (nx < N0.length) = false := decide_eq_false (by omega)
        have hlt3 : ¬ nx < N0.length := by omega
        have hle1 : (N0.length : Int) ≤ (nx : Int) := by omega
        clear h1 h2 h3 HF1 HF2 hcase HM HM2 HE0 HN0 e1 e2 hkt r5 r1 hN5 hN1 D5 D1 hs1
        obtain ⟨W6, hW6⟩ : ∃ W6, W6 = w5.alloc (.cells #[.bool b3, .bool b4, .slice a5 nx c5] 26) := ⟨_, rfl⟩
        go_wp2_with fail
        rw [← hW6] at s6 r6 D6 B6 ht6 hN6 ⊢
        have hgl := r6.lt
        have hgl2 := s6.lt
        clear hW6
        generalize w5.heap.size = g5 at *
        rw [← HG.out] at r6
        rw [← HG.out]
        have q0 : ∀ x : Later W6, x.1.cell? ⟨g, 0, none⟩ = some (.bool b1) := fun x => (r6.below x.2).c0
        have q1 : ∀ x : Later W6, x.1.cell? ⟨g, 1, none⟩ = some (.bool b2) := fun x => (r6.below x.2).c1
        have q2 : ∀ x : Later W6, x.1.cell? ⟨g, 2, none⟩ = some (.slice a1 N0.length c1) := fun x => (r6.below x.2).c2
        have p0 : ∀ x : Later W6, x.1.cell? ⟨g5, 0, none⟩ = some (.bool b3) := fun x => (s6.below x.2).c0
        have p1 : ∀ x : Later W6, x.1.cell? ⟨g5, 1, none⟩ = some (.bool b4) := fun x => (s6.below x.2).c1
        have p2 : ∀ x : Later W6, x.1.cell? ⟨g5, 2, none⟩ = some (.slice a5 nx c5) := fun x => (s6.below x.2).c2
        have HX : Hid (∀ x : Later W6, Calls Tryd.prog 15 #[.slice a5 N0.length c5, .slice a1 N0.length c1] x.1 fun e w' => e = .returned (.bool true) ∧ Below x.1.heap.size x.1 w') := Lib.hid (fun x => HKT.out _ (ht6.below x.2) (hN6.below x.2))
        refine wp_region_later W6 (by kernel_rfl) (by kernel_rfl) (Below.refl _ _) ?_
        repeat (go_big_quiet_step (first | (go_at_call 15; exact Calls.later (HX.out _))))
        refine wpQuiet_nil ?_
        intro _ hw'
        obtain ⟨⟨w7, hb7⟩, rfl⟩ := hw'
        have r7 := r6.below hb7
        have s7 := s6.below hb7
        have z0 := r7.c0; have z1 := r7.c1; have y0 := s7.c0; have y1 := s7.c1
        have B7 := B6.trans (hb7.mono B6.size)
        clear q0 q1 q2 p0 p1 p2
        cases b1 <;> cases b2
        all_goals
          (try (obtain rfl : b3 = true := f1 rfl))
          (try (obtain rfl : b4 = true := f2 rfl))
          go_wp2_with fail
          refine (AW.out _).mono ?_; rintro e w2 ⟨rfl, hb2⟩
          go_wp2_with fail
          go_ret
          exact ⟨rfl, B7.trans (hb2.mono B7.size)⟩
    · have hlong' : ((4096 : Int) < (m.size : Int)) := by omega
      clear hlong hv
      go_enter Tryd.func6, Tryd.ntmps6
      go_wp2_with fail
      refine HSM.out.mono ?_; rintro e w' ⟨rfl, rfl⟩
      go_wp2_with fail
      refine (AW.out _).mono ?_; rintro e w2 ⟨rfl, hb2⟩
      go_wp2_with fail
      go_ret
      exact ⟨rfl, hb2⟩
end Go.Proofs.YtimfngfimnapoaaDoor
