/- The walks of Parse of csp, of keep.CSPs, of small and awake of layer 20. Conditions: lengths are bounded. -/
import Derived.Test.YtimfngfimnapoaaDoorCspM
import Derived.Test.YtimfngfimnapoaaDoorAsciiWords
namespace Go.Proofs.YtimfngfimnapoaaDoor
open Go.RowKit Hs
set_option linter.unusedSimpArgs false
set_option linter.unusedVariables false

theorem merge_flags (v : Value) (vs : List Bs) (w : World) (hv : Strs w v vs) (hl : vs.length ≤ 1000) (hs : ∀ x ∈ vs, x.length ≤ maxLen) :
    Calls Tryd.prog 11 #[v] w fun e w' => ∃ u b1 b2, e = .returned (.tuple #[.agg #[.bool b1, .bool b2, u], .int .i64 (cspM vs).2]) ∧ b1 = decide (un upB ∈ (cspM vs).1) ∧ b2 = decide (un blB ∈ (cspM vs).1) ∧ Strs w' u (cspM vs).1 ∧ Below w.heap.size w w' :=
  (csp_merge v vs w hv hl hs).mono fun e w' ⟨u, he, ho, hb⟩ => ⟨u, _, _, he, rfl, rfl, Row.owned ho, hb⟩
theorem parse_flags (s : ByteArray) (w : World) (hs : s.size ≤ maxLen) :
    Calls Tryd.prog 9 #[.string s] w fun e w' => ∃ u b1 b2, e = .returned (.tuple #[.agg #[.bool b1, .bool b2, u], .int .i64 (cspM [un s]).2]) ∧ b1 = decide (un upB ∈ (cspM [un s]).1) ∧ b2 = decide (un blB ∈ (cspM [un s]).1) ∧ Strs w' u (cspM [un s]).1 ∧ Below w.heap.size w w' := by
  have r0 := (Blk3.new w 26 (.bool false) (.bool false) (.slice none 0 0)).alloc (.cells #[.string s] 9)
  have hst : Strs ((w.alloc (.cells #[.bool false, .bool false, .slice none 0 0] 26)).alloc (.cells #[.string s] 9)) (.slice (some ⟨w.heap.size + 1, 0, none⟩) 1 1) [un s] := by
    have := strs_lit (w.alloc (.cells #[.bool false, .bool false, .slice none 0 0] 26)) [s] 9 (by simp [maxLen])
    rw [World.size_alloc] at this
    exact this
  have HM := Lib.hid (csp_merge _ [un s] _ hst (by simp) (fun x hx => by rw [List.mem_singleton.1 hx, length_un]; exact hs))
  have hsz : ((w.alloc (.cells #[.bool false, .bool false, .slice none 0 0] 26)).alloc (.cells #[.string s] 9)).heap.size = w.heap.size + 2 := by simp
  have HSZ := Lib.hid hsz
  have B0 : Below w.heap.size w ((w.alloc (.cells #[.bool false, .bool false, .slice none 0 0] 26)).alloc (.cells #[.string s] 9)) := ((Below.refl _ w).alloc (Nat.le_refl _) _).alloc (by simp) _
  clear hst hsz
  obtain ⟨R, hR⟩ : ∃ R, R = cspM [un s] := ⟨_, rfl⟩
  rw [← hR] at HM ⊢
  clear hR
  go_enter Tryd.func9, Tryd.ntmps9
  go_wp2_with fail
  refine HM.out.mono ?_
  rintro e w1 ⟨u, rfl, ho, hb⟩
  rw [HSZ.out] at ho
  have r1 := r0.below hb
  unfold cspVal
  obtain ⟨b1, hb1⟩ : ∃ b1, b1 = decide (un upB ∈ R.1) := ⟨_, rfl⟩
  obtain ⟨b2, hb2⟩ : ∃ b2, b2 = decide (un blB ∈ R.1) := ⟨_, rfl⟩
  rw [← hb1, ← hb2]
  have HB1 := Lib.hid hb1
  have HB2 := Lib.hid hb2
  have A0 := r1.c0; have A1 := r1.c1; have A2 := r1.c2; have F0 := r1.f0; have F1 := r1.f1; have F2 := r1.f2
  obtain ⟨au, cu, rfl⟩ := own_slice ho
  clear hb1 hb2 r0
  go_wp2_with fail
  have r2 := ((r1.set0 (.bool b1)).set1 (.bool b2)).set2 (.slice au R.1.length cu)
  have hne : ∀ k, some w.heap.size = some k → (Value.slice au R.1.length cu).ownBlock ≠ some k := fun k e => by cases e; exact fun e2 => by have := (ho.lt _ e2).1; omega
  refine bodyPost_ret (results_ct rfl _ _ w.heap.size 26 _ _ rfl r2 Tryd.underlying26 rfl (by kernel_rfl)) rfl ?_
  exact ⟨_, b1, b2, rfl, HB1.out, HB2.out, Row.owned (((ho.kept (grown_setCell _ _ _ _) (own_ne_of hne)).kept (grown_setCell _ _ _ _) (own_ne_of hne)).kept (grown_setCell _ _ _ _) (own_ne_of hne)),
    (((B0.trans (hb.mono B0.size)).setCell (p := ⟨w.heap.size, 0, none⟩) (Nat.le_refl _) (.bool b1)).setCell (p := ⟨w.heap.size, 1, none⟩) (Nat.le_refl _) (.bool b2)).setCell (p := ⟨w.heap.size, 2, none⟩) (Nat.le_refl _) (.slice au R.1.length cu)⟩

theorem keep_csps (b1 b2 : Bool) (u v : Value) (N : List Bs) (w : World) (hu : Strs w u N) (hv : Strs w v N) : Calls Tryd.prog 13 #[.agg #[.bool b1, .bool b2, u], .agg #[.bool b1, .bool b2, v]] w fun e w' => e = .returned (.bool true) ∧ Below w.heap.size w w' := by
  have B := ((Below.refl _ w).alloc (Nat.le_refl _) (.cells #[.bool b1, .bool b2, u] 26)).alloc (by simp) (.cells #[.bool b1, .bool b2, v] 26)
  have r0 := (Blk3.new w 26 (.bool b1) (.bool b2) u).alloc (.cells #[.bool b1, .bool b2, v] 26)
  have r1 := Blk3.new (w.alloc (.cells #[.bool b1, .bool b2, u] 26)) 26 (.bool b1) (.bool b2) v
  rw [World.size_alloc] at r1
  have A0 := r0.c0; have A1 := r0.c1; have A2 := r0.c2
  have C0 := r1.c0; have C1 := r1.c1; have C2 := r1.c2
  have hT := keep_texts u v N N _ (hu.below B) (hv.below B)
  rw [decide_eq_true rfl] at hT
  have HT := Lib.hid hT
  obtain ⟨a1, c1, rfl, _⟩ := hu.open
  obtain ⟨a2, c2, rfl, _⟩ := hv.open
  clear hT hu hv
  go_enter Tryd.func13, Tryd.ntmps13
  go_wp2_with fail
  refine HT.out.mono ?_; rintro e w1 ⟨rfl, hb1⟩
  go_wp2_with fail
  go_ret
  exact ⟨rfl, B.trans (hb1.mono B.size)⟩

theorem ex20a : cspM [un ⟨#[100, 101, 102, 97, 117, 108, 116, 45, 115, 114, 99, 32, 39, 115, 101, 108, 102, 39, 59, 32, 85, 112, 103, 114, 97, 100, 101, 45, 73, 110, 115, 101, 99, 117, 114, 101, 45, 82, 101, 113, 117, 101, 115, 116, 115, 44, 32, 105, 109, 103, 45, 115, 114, 99, 32, 42]⟩] =
    ([[100, 101, 102, 97, 117, 108, 116, 45, 115, 114, 99], un upB, [105, 109, 103, 45, 115, 114, 99]], 0) := by rfl
theorem ex20b : cspM [[97], [98, 108, 111, 99, 107, 45, 97, 108, 108, 45, 109, 105, 120, 101, 100, 45, 99, 111, 110, 116, 101, 110, 116, 59, 32, 97]] = ([[97], un blB], 0) := by rfl

set_option maxHeartbeats 2000000 in
theorem law20_awake (w : World) : Calls Tryd.prog 8 #[] w fun e w' => e = .returned (.bool true) ∧ Below w.heap.size w w' := by
  have EA := Lib.hid ex20a
  have EB := Lib.hid ex20b
  have hu1 : Hid (decide (un upB ∈ [[100, 101, 102, 97, 117, 108, 116, 45, 115, 114, 99], un upB, [105, 109, 103, 45, 115, 114, 99]]) = true) := Lib.hid (by simp)
  have hu2 : Hid (decide (un blB ∈ [[97], un blB]) = true) := Lib.hid (by simp)
  go_enter Tryd.func8, Tryd.ntmps8
  go_wp2_with fail
  refine (parse_flags _ _ (by unfold maxLen; decide)).mono ?_
  rintro e w1 ⟨u1, b1, b2, rfl, h1, h2, h3, h4⟩
  rw [EA.out] at h1 h3 ⊢
  rw [hu1.out] at h1
  subst h1
  obtain ⟨a1, c1, rfl, hn1, hm1, hc1⟩ := h3.open
  obtain ⟨bq, oq, rfl, hbq, hcell⟩ := hc1 (by decide)
  have x2 : w1.cell? ⟨bq, oq + 2, none⟩ = some (.string (mk [105, 109, 103, 45, 115, 114, 99])) := hcell 2 (by decide)
  clear hcell hc1 h3 h2
  have B1 := h4
  go_wp2_with fail
  have D1 := (Below.refl _ w1).alloc (Nat.le_refl _) (.cells #[.bool true, .bool b2, .slice (some ⟨bq, oq, none⟩) 3 c1] 26)
  have r1 := Blk3.new w1 26 (.bool true) (.bool b2) (.slice (some ⟨bq, oq, none⟩) 3 c1)
  have hst : Strs ((w1.alloc (.cells #[.bool true, .bool b2, .slice (some ⟨bq, oq, none⟩) 3 c1] 26)).alloc (.cells #[.string ⟨#[97]⟩, .string ⟨#[98, 108, 111, 99, 107, 45, 97, 108, 108, 45, 109, 105, 120, 101, 100, 45, 99, 111, 110, 116, 101, 110, 116, 59, 32, 97]⟩] 9)) (.slice (some ⟨w1.heap.size + 1, 0, none⟩) 2 2) [[97], [98, 108, 111, 99, 107, 45, 97, 108, 108, 45, 109, 105, 120, 101, 100, 45, 99, 111, 110, 116, 101, 110, 116, 59, 32, 97]] := by
    have := strs_lit (w1.alloc (.cells #[.bool true, .bool b2, .slice (some ⟨bq, oq, none⟩) 3 c1] 26)) [⟨#[97]⟩, ⟨#[98, 108, 111, 99, 107, 45, 97, 108, 108, 45, 109, 105, 120, 101, 100, 45, 99, 111, 110, 116, 101, 110, 116, 59, 32, 97]⟩] 9 (by simp [maxLen])
    rw [World.size_alloc] at this
    exact this
  refine (merge_flags _ _ _ hst (by simp) (fun x hx => by simp only [List.mem_cons, List.not_mem_nil, or_false] at hx; rcases hx with rfl | rfl <;> simp [maxLen])).mono ?_
  rintro e w2 ⟨u2, b3, b4, rfl, g1, g2, g3, g4⟩
  rw [EB.out] at g2 g3 ⊢
  rw [hu2.out] at g2
  subst g2
  obtain ⟨a2, c2, rfl, _⟩ := g3.open
  have D2 := (D1.alloc (by simp) (.cells #[.string ⟨#[97]⟩, .string ⟨#[98, 108, 111, 99, 107, 45, 97, 108, 108, 45, 109, 105, 120, 101, 100, 45, 99, 111, 110, 116, 101, 110, 116, 59, 32, 97]⟩] 9)).trans (g4.mono (by simp; omega))
  have r2 := (r1.alloc (.cells #[.string ⟨#[97]⟩, .string ⟨#[98, 108, 111, 99, 107, 45, 97, 108, 108, 45, 109, 105, 120, 101, 100, 45, 99, 111, 110, 116, 101, 110, 116, 59, 32, 97]⟩] 9)).below g4
  have B2 := B1.trans (D2.mono B1.size)
  have y2 := ((bcell D2).1 bq (oq + 2) hbq).trans x2
  have r3 := r2.alloc (.cells #[.bool b3, .bool true, .slice a2 2 c2] 26)
  have z0 := r3.c0; have z2 := r3.c2
  have s3 := Blk3.new w2 26 (.bool b3) (.bool true) (.slice a2 2 c2)
  have z4 := s3.c1; have z5 := s3.c2
  have y3 : (w2.alloc (.cells #[.bool b3, .bool true, .slice a2 2 c2] 26)).cell? ⟨bq, oq + 2, none⟩ = some (.string (mk [105, 109, 103, 45, 115, 114, 99])) := (World.cell?_alloc_past _ _ _ (by have := D2.size; omega)).trans y2
  have B3 := B2.alloc B2.size (.cells #[.bool b3, .bool true, .slice a2 2 c2] 26)
  have hT : (mk [105, 109, 103, 45, 115, 114, 99]).toList = [105, 109, 103, 45, 115, 114, 99] := toList_mk' _
  clear hst g1 g3 g4 D1 D2 B1 B2 r1 r2 r3 x2 y2
  go_wp2_with fail
  go_ret
  exact ⟨rfl, B3⟩
end Go.Proofs.YtimfngfimnapoaaDoor
