/- The walk of the law Ipv6MatchesSpec (layer 11): it returns true; memory that existed is unchanged. Conditions: the library's tables stand. -/
import Derived.Test.YtblcgicgbindlaaDoorLaw11
import Derived.Test.YtblcgicgbindlaaDoorArr8
import Derived.Test.YtblcgicgbindlaaDoorIpv6E
import Derived.Test.YtblcgicgbindlaaDoorIpv6Q
namespace Go.Proofs.YtblcgicgbindlaaDoor
open Go.RowKit Hs
set_option linter.unusedSimpArgs false
set_option linter.unusedVariables false

theorem res6_len (l : Bs) : (res6 (parse6 l)).1.length = 8 := by
  cases h : parse6 l with
  | none => rfl
  | some a => exact (parse6_addr h).1

set_option maxRecDepth 20000 in
set_option maxHeartbeats 8000000 in
theorem matches_walk11 (s : ByteArray) (a : List Nat) (w : World) (hB : Base6 w) (hs : s.size ≤ maxLen) (ha8 : a.length = 8) (ha : ∀ x ∈ a, x < 65536) : Calls Tryd.prog 7 #[.string s, .agg ((a.map Int.ofNat).map (Value.int .u16)).toArray] w fun e w' => e = .returned (.bool true) ∧ Below w.heap.size w w' := by
  rw [agg_groups]
  have AW := Lib.hid (fun W h => law11_awake W h)
  have C1 := fun W h => i6_format a W h ha8 ha
  have C2 := fun W => r11_format a W ha8 ha
  obtain ⟨T, hT⟩ : ∃ T, T = mk (fmt6 a) := ⟨_, rfl⟩
  simp only [← hT] at C1 C2
  clear hT
  have hba : Below w.heap.size w (w.alloc (.cells (gcells a).toArray 39)) := (Below.refl _ w).alloc (Nat.le_refl _) _
  have blka : BlkN (w.alloc (.cells (gcells a).toArray 39)) w.heap.size 39 (gcells a).toArray := BlkN.new w _ _
  obtain ⟨a0, a1, a2, a3, a4, a5, a6, a7, rfl⟩ := eight ha8
  have ea : (gcells [a0, a1, a2, a3, a4, a5, a6, a7]).toArray = #[.int .u16 (a0 : Int), .int .u16 (a1 : Int), .int .u16 (a2 : Int), .int .u16 (a3 : Int), .int .u16 (a4 : Int), .int .u16 (a5 : Int), .int .u16 (a6 : Int), .int .u16 (a7 : Int)] := rfl
  simp only [ea] at C1 C2 hba
  rw [ea]
  obtain ⟨W1, hW1⟩ : ∃ W1, W1 = w.alloc (.cells (gcells [a0, a1, a2, a3, a4, a5, a6, a7]).toArray 39) := ⟨_, rfl⟩
  rw [← hW1] at blka
  rw [ea] at hW1
  rw [← hW1] at hba
  have HW1 := Lib.hid hW1.symm
  have B1 := hB.below hba
  have HA := Lib.hid hba; have HBA := Lib.hid blka
  have H1 := Lib.hid C1; have H2 := Lib.hid C2
  clear hba blka hW1 hB C1 C2 ha8 ha
  by_cases hlong : 300 < s.size
  · have g1 : decide ((300 : Int) < (s.size : Int)) = true := decide_eq_true (by omega)
    have g2 : (300 : Int) < (s.size : Int) := by omega
    clear hs
    go_enter Tryd.func7, Tryd.ntmps7
    go_wp2_with (rw [HW1.out])
    refine (AW.out _ B1).mono ?_; rintro e w2 ⟨rfl, hb2⟩
    go_wp2_with fail
    go_ret
    exact ⟨rfl, HA.out.trans (hb2.mono HA.out.size)⟩
  · have g1 : decide ((300 : Int) < (s.size : Int)) = false := decide_eq_false (by omega)
    have g2 : (s.size : Int) ≤ 300 := by omega
    have D1 := fun W h => i6_parse s W h (by omega)
    have D2 := fun W => r11_parse s W (by omega)
    have hRl := res6_len (un s)
    obtain ⟨⟨R, ok⟩, hR⟩ : ∃ R, R = res6 (parse6 (un s)) := ⟨_, rfl⟩
    simp only [← hR] at D1 D2
    rw [← hR] at hRl
    simp only at hRl
    clear hR hs
    have eqr := fun W => arr8_eq R R hRl hRl W
    simp only [decide_eq_true rfl] at eqr
    obtain ⟨r0, r1, r2, r3, r4, r5, r6, r7, rfl⟩ := eight hRl
    have er : (gcells [r0, r1, r2, r3, r4, r5, r6, r7]).toArray = #[.int .u16 (r0 : Int), .int .u16 (r1 : Int), .int .u16 (r2 : Int), .int .u16 (r3 : Int), .int .u16 (r4 : Int), .int .u16 (r5 : Int), .int .u16 (r6 : Int), .int .u16 (r7 : Int)] := rfl
    simp only [er] at D1 D2 eqr
    have K1 := Lib.hid D1; have K2 := Lib.hid D2
    clear D1 D2 hRl
    go_enter Tryd.func7, Tryd.ntmps7
    go_wp2_with (rw [HW1.out])
    refine (K1.out _ B1.1).mono ?_; rintro e w2 ⟨rfl, hb2⟩
    obtain ⟨W3, hW3⟩ : ∃ W3, W3 = w2.alloc (.cells #[.int .u16 (r0 : Int), .int .u16 (r1 : Int), .int .u16 (r2 : Int), .int .u16 (r3 : Int), .int .u16 (r4 : Int), .int .u16 (r5 : Int), .int .u16 (r6 : Int), .int .u16 (r7 : Int)] 39) := ⟨_, rfl⟩
    have ba3 : BlkN W3 w.heap.size 39 (gcells [a0, a1, a2, a3, a4, a5, a6, a7]).toArray := by rw [hW3]; exact (HBA.out.below HBA.out.lt hb2).alloc _
    have bb3 : BlkN W3 w2.heap.size 39 (gcells [r0, r1, r2, r3, r4, r5, r6, r7]).toArray := by rw [hW3]; exact BlkN.new _ _ _
    have hl2 := HA.out.trans (hb2.mono HA.out.size)
    have hl3 : Below w.heap.size w W3 := by rw [hW3]; exact hl2.alloc hl2.size _
    have B3 : Base6 W3 := by rw [hW3]; exact (B1.below hb2).below ((Below.refl _ w2).alloc (Nat.le_refl _) _)
    have HW3 := Lib.hid hW3.symm
    have H3 := Lib.hid (And.intro ba3 bb3)
    clear hW3 hb2 hl2 B1 ba3 bb3
    go_wp2_with (rw [HW3.out])
    refine (K2.out _).mono ?_; rintro e w4 ⟨rfl, hb4⟩
    obtain ⟨W5, hW5⟩ : ∃ W5, W5 = w4.alloc (.cells #[.int .u16 (r0 : Int), .int .u16 (r1 : Int), .int .u16 (r2 : Int), .int .u16 (r3 : Int), .int .u16 (r4 : Int), .int .u16 (r5 : Int), .int .u16 (r6 : Int), .int .u16 (r7 : Int)] 39) := ⟨_, rfl⟩
    have ba5 : BlkN W5 w.heap.size 39 (gcells [a0, a1, a2, a3, a4, a5, a6, a7]).toArray := by rw [hW5]; exact (H3.out.1.below H3.out.1.lt hb4).alloc _
    have bb5 : BlkN W5 w2.heap.size 39 (gcells [r0, r1, r2, r3, r4, r5, r6, r7]).toArray := by rw [hW5]; exact (H3.out.2.below H3.out.2.lt hb4).alloc _
    have bc5 : BlkN W5 w4.heap.size 39 (gcells [r0, r1, r2, r3, r4, r5, r6, r7]).toArray := by rw [hW5]; exact BlkN.new _ _ _
    have hl4 := hl3.trans (hb4.mono hl3.size)
    have hl5 : Below w.heap.size w W5 := by rw [hW5]; exact hl4.alloc hl4.size _
    have B5 : Base6 W5 := by rw [hW5]; exact (B3.below hb4).below ((Below.refl _ w4).alloc (Nat.le_refl _) _)
    have HC := Lib.hid (And.intro ba5 (And.intro bb5 bc5))
    have HF1 : Hid (∀ x : Later W5, _) := Lib.hid (fun x : Later W5 => H1.out x.1 (B5.below x.2))
    have HF2 : Hid (∀ x : Later W5, _) := Lib.hid (fun x : Later W5 => H2.out x.1)
    have HW : Hid (∀ x : Later W5, _) := Lib.hid (fun x : Later W5 => AW.out x.1 (B5.below x.2))
    have HW5 := Lib.hid hW5.symm
    clear hW5 hb4 hl4 hl3 B3 ba5 bb5 bc5 H3 HW3 HW1
    cases ok
    all_goals
      go_wp2_with fail
      rw [HW5.out]
      have qa0 : ∀ x : Later W5, x.1.cell? ⟨w.heap.size, 0, none⟩ = some (.int .u16 (a0 : Int)) := HC.out.1.later 0 (by simp)
      have qa1 : ∀ x : Later W5, x.1.cell? ⟨w.heap.size, 1, none⟩ = some (.int .u16 (a1 : Int)) := HC.out.1.later 1 (by simp)
      have qa2 : ∀ x : Later W5, x.1.cell? ⟨w.heap.size, 2, none⟩ = some (.int .u16 (a2 : Int)) := HC.out.1.later 2 (by simp)
      have qa3 : ∀ x : Later W5, x.1.cell? ⟨w.heap.size, 3, none⟩ = some (.int .u16 (a3 : Int)) := HC.out.1.later 3 (by simp)
      have qa4 : ∀ x : Later W5, x.1.cell? ⟨w.heap.size, 4, none⟩ = some (.int .u16 (a4 : Int)) := HC.out.1.later 4 (by simp)
      have qa5 : ∀ x : Later W5, x.1.cell? ⟨w.heap.size, 5, none⟩ = some (.int .u16 (a5 : Int)) := HC.out.1.later 5 (by simp)
      have qa6 : ∀ x : Later W5, x.1.cell? ⟨w.heap.size, 6, none⟩ = some (.int .u16 (a6 : Int)) := HC.out.1.later 6 (by simp)
      have qa7 : ∀ x : Later W5, x.1.cell? ⟨w.heap.size, 7, none⟩ = some (.int .u16 (a7 : Int)) := HC.out.1.later 7 (by simp)
      have qb0 : ∀ x : Later W5, x.1.cell? ⟨w2.heap.size, 0, none⟩ = some (.int .u16 (r0 : Int)) := HC.out.2.1.later 0 (by simp)
      have qb1 : ∀ x : Later W5, x.1.cell? ⟨w2.heap.size, 1, none⟩ = some (.int .u16 (r1 : Int)) := HC.out.2.1.later 1 (by simp)
      have qb2 : ∀ x : Later W5, x.1.cell? ⟨w2.heap.size, 2, none⟩ = some (.int .u16 (r2 : Int)) := HC.out.2.1.later 2 (by simp)
      have qb3 : ∀ x : Later W5, x.1.cell? ⟨w2.heap.size, 3, none⟩ = some (.int .u16 (r3 : Int)) := HC.out.2.1.later 3 (by simp)
      have qb4 : ∀ x : Later W5, x.1.cell? ⟨w2.heap.size, 4, none⟩ = some (.int .u16 (r4 : Int)) := HC.out.2.1.later 4 (by simp)
      have qb5 : ∀ x : Later W5, x.1.cell? ⟨w2.heap.size, 5, none⟩ = some (.int .u16 (r5 : Int)) := HC.out.2.1.later 5 (by simp)
      have qb6 : ∀ x : Later W5, x.1.cell? ⟨w2.heap.size, 6, none⟩ = some (.int .u16 (r6 : Int)) := HC.out.2.1.later 6 (by simp)
      have qb7 : ∀ x : Later W5, x.1.cell? ⟨w2.heap.size, 7, none⟩ = some (.int .u16 (r7 : Int)) := HC.out.2.1.later 7 (by simp)
      have qc0 : ∀ x : Later W5, x.1.cell? ⟨w4.heap.size, 0, none⟩ = some (.int .u16 (r0 : Int)) := HC.out.2.2.later 0 (by simp)
      have qc1 : ∀ x : Later W5, x.1.cell? ⟨w4.heap.size, 1, none⟩ = some (.int .u16 (r1 : Int)) := HC.out.2.2.later 1 (by simp)
      have qc2 : ∀ x : Later W5, x.1.cell? ⟨w4.heap.size, 2, none⟩ = some (.int .u16 (r2 : Int)) := HC.out.2.2.later 2 (by simp)
      have qc3 : ∀ x : Later W5, x.1.cell? ⟨w4.heap.size, 3, none⟩ = some (.int .u16 (r3 : Int)) := HC.out.2.2.later 3 (by simp)
      have qc4 : ∀ x : Later W5, x.1.cell? ⟨w4.heap.size, 4, none⟩ = some (.int .u16 (r4 : Int)) := HC.out.2.2.later 4 (by simp)
      have qc5 : ∀ x : Later W5, x.1.cell? ⟨w4.heap.size, 5, none⟩ = some (.int .u16 (r5 : Int)) := HC.out.2.2.later 5 (by simp)
      have qc6 : ∀ x : Later W5, x.1.cell? ⟨w4.heap.size, 6, none⟩ = some (.int .u16 (r6 : Int)) := HC.out.2.2.later 6 (by simp)
      have qc7 : ∀ x : Later W5, x.1.cell? ⟨w4.heap.size, 7, none⟩ = some (.int .u16 (r7 : Int)) := HC.out.2.2.later 7 (by simp)
      refine wp_region_later W5 (by kernel_rfl) (by kernel_rfl) (Below.refl _ _) ?_
      repeat (go_big_quiet_step (fail))
      go_big_quiet_step (exact Calls.later (HF1.out _))
      repeat (go_big_quiet_step (fail))
      go_big_quiet_step (exact Calls.later (HF2.out _))
      repeat (go_big_quiet_step (fail))
      go_big_quiet_step (exact Calls.later (HW.out _))
      repeat (go_big_quiet_step (fail))
      refine wpQuiet_nil ?_
      intro _ hw'
      obtain ⟨⟨w6, hb6⟩, rfl⟩ := hw'
      go_wp2_with fail
      go_ret
      exact ⟨rfl, hl5.trans (hb6.mono hl5.size)⟩
end Go.Proofs.YtblcgicgbindlaaDoor
