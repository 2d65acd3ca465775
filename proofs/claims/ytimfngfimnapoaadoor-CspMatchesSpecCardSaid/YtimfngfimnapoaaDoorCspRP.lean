/- The walk of Parse of the reference of layer 20. Conditions: lengths are bounded. -/
import Derived.Test.YtimfngfimnapoaaDoorCspRM
namespace Go.Proofs.YtimfngfimnapoaaDoor
open Go.RowKit Hs
set_option linter.unusedSimpArgs false
set_option linter.unusedVariables false

theorem r20_parse (s : ByteArray) (w : World) (hs : s.size ≤ maxLen) :
    Calls Tryd.prog 10 #[.string s] w fun e w' => ∃ u b1 b2, e = .returned (.tuple #[.agg #[.bool b1, .bool b2, u], .int .i64 (cspM [un s]).2]) ∧ b1 = decide (un upB ∈ (cspM [un s]).1) ∧ b2 = decide (un blB ∈ (cspM [un s]).1) ∧ Strs w' u (cspM [un s]).1 ∧ Below w.heap.size w w' := by
  have r0 := (Blk3.new w 26 (.bool false) (.bool false) (.slice none 0 0)).alloc (.cells #[.string s] 9)
  have hst : Strs ((w.alloc (.cells #[.bool false, .bool false, .slice none 0 0] 26)).alloc (.cells #[.string s] 9)) (.slice (some ⟨w.heap.size + 1, 0, none⟩) 1 1) [un s] := by
    have := strs_lit (w.alloc (.cells #[.bool false, .bool false, .slice none 0 0] 26)) [s] 9 (by simp [maxLen])
    rw [World.size_alloc] at this
    exact this
  have HM := Lib.hid (r20_merge _ [un s] _ hst (by simp) (fun x hx => by rw [List.mem_singleton.1 hx, length_un]; exact hs))
  have hsz : ((w.alloc (.cells #[.bool false, .bool false, .slice none 0 0] 26)).alloc (.cells #[.string s] 9)).heap.size = w.heap.size + 2 := by simp
  have HSZ := Lib.hid hsz
  have B0 : Below w.heap.size w ((w.alloc (.cells #[.bool false, .bool false, .slice none 0 0] 26)).alloc (.cells #[.string s] 9)) := ((Below.refl _ w).alloc (Nat.le_refl _) _).alloc (by simp) _
  clear hst hsz
  obtain ⟨R, hR⟩ : ∃ R, R = cspM [un s] := ⟨_, rfl⟩
  rw [← hR] at HM ⊢
  clear hR
  go_enter Tryd.func10, Tryd.ntmps10
  go_wp2_with fail
  refine HM.out.mono ?_
  rintro e w1 ⟨u, b1, b2, rfl, hb1, hb2, ho, hb⟩
  rw [HSZ.out] at ho
  have r1 := r0.below hb
  have HB1 := Lib.hid hb1
  have HB2 := Lib.hid hb2
  have A0 := r1.c0; have A1 := r1.c1; have A2 := r1.c2; have F0 := r1.f0; have F1 := r1.f1; have F2 := r1.f2
  obtain ⟨au, cu, rfl⟩ := own_slice ho
  clear hb1 hb2 r0
  go_wp2_with fail
  have r2 := ((r1.set0 (.bool b1)).set1 (.bool b2)).set2 (.slice au R.1.length cu)
  have hne : ∀ k, some w.heap.size = some k → (Value.slice au R.1.length cu).ownBlock ≠ some k := fun k e => by cases e; exact fun e2 => by have := (ho.lt _ e2).1; omega
  refine bodyPost_ret (results_ct rfl _ _ w.heap.size 26 _ _ rfl r2 Tryd.underlying26 rfl (by kernel_rfl)) rfl ?_
  exact ⟨_, b1, b2, rfl, HB1.out, HB2.out, Row.owned (((ho.kept (grown_setCell _ _ _ _) (own_ne_of hne)).kept (grown_setCell _ _ _ _) (own_ne_of hne)).kept (grown_setCell _ _ _ _) (own_ne_of hne)),
    (((B0.trans (hb.mono B0.size)).setCell (p := ⟨w.heap.size, 0, none⟩) (Nat.le_refl _) (.bool b1)).setCell (p := ⟨w.heap.size, 1, none⟩) (Nat.le_refl _) (.bool b2)).setCell (p := ⟨w.heap.size, 2, none⟩) (Nat.le_refl _) (.slice au R.1.length cu)⟩

theorem r20_mergeS (v : Value) (vs : List Bs) (w : World) (hv : Strs w v vs) (hl : vs.length ≤ 1000) (hs : ∀ x ∈ vs, x.length ≤ maxLen) :
    Calls Tryd.prog 12 #[v] w fun e w' => ∃ u b1 b2, e = .returned (.tuple #[.agg #[.bool b1, .bool b2, u], .int .i64 (cspM vs).2]) ∧ b1 = decide (un upB ∈ (cspM vs).1) ∧ b2 = decide (un blB ∈ (cspM vs).1) ∧ Strs w' u (cspM vs).1 ∧ Below w.heap.size w w' :=
  (r20_merge v vs w hv hl hs).mono fun e w' ⟨u, b1, b2, he, h1, h2, ho, hb⟩ => ⟨u, b1, b2, he, h1, h2, Row.owned ho, hb⟩
end Go.Proofs.YtimfngfimnapoaaDoor
