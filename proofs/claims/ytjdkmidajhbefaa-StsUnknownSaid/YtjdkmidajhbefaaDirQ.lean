/- The walk of the reference's element (layer directive): the last case, and all cases together. Conditions: the text's length is bounded. -/
import Derived.Test.YtjdkmidajhbefaaDirR
namespace Go.Proofs.Ytjdkmidajhbefaa
open Go.RowKit Hs
set_option linter.unusedSimpArgs false
set_option linter.unusedVariables false


set_option maxHeartbeats 1000000 in
theorem r18_element_last (s : ByteArray) (i n m : Nat) (nm : Bs) (w : World) (hi : i ≤ s.size) (hs : s.size ≤ 100000000) (hn : n = tokEnd (un s) i) (hm : m = blkEnd (un s) n) (hin : i < n) (hnm : n ≤ m) (hms : m ≤ s.size) (hnmv : nm = lower (seg (un s) i n)) (k : Nat) (hk : k = blkEnd (un s) (m + 1)) (ha : atN (un s) m = 61) (hend : m < s.size) (n2 : Nat) (hkend : k = s.size) (hn2 : n2 = tokEnd (un s) k) : Calls Try.prog 49 #[.string s, .int .i64 (i : Int)] w fun e w' => e = .returned (.tuple #[dirVal (nm, seg (un s) k n2, true), .int .i64 (n2 : Int), .bool (decide (k < n2))]) ∧ Below w.heap.size w w' := by
  have ex := Lib.hid (extract_seg s i n)
  have hexs : (s.extract i n).size ≤ 100000000 := by rw [ByteArray.size_extract]; omega
  have hlow : Hid (∀ W : World, Calls Try.prog 55 #[.string (s.extract i n)] W fun e w' => e = .returned (.string (mk nm)) ∧ Below W.heap.size W w') := Lib.hid fun W => by
    have := ref01_lower (s.extract i n) W hexs
    rw [ex.out, un_mk, ← hnmv] at this
    rw [ex.out]
    exact this
  have HN := Lib.hid hn
  have HM := Lib.hid hm
  clear hn hm hnmv ex
  have HK := Lib.hid hk
  have hkm : m + 1 ≤ k := by rw [hk]; exact blkEnd_ge _ _
  have hks : k ≤ s.size := by rw [hk]; have := blkEnd_le (un s) (m + 1) (by rw [length_un]; omega); rwa [length_un] at this
  rw [atN_un s m hend] at ha
  clear hk
  have hge2 : k ≤ n2 := by rw [hn2]; exact tokEnd_ge _ _
  have hle2 : n2 ≤ s.size := by rw [hn2]; have := tokEnd_le (un s) k (by rw [length_un]; exact hks); rwa [length_un] at this
  have ex := Lib.hid (extract_seg s k n2)
  have HN2 := Lib.hid hn2
  clear hn2
  have HKE := Lib.hid hkend
  clear hkend
  go_enter Try.func49, Try.ntmps49
  go_wp2_with fail
  refine (r_token s i _ hs).mono ?_; rintro e w' ⟨rfl, rfl⟩
  rw [← HN.out]
  go_wp2_with fail
  refine (hlow.out _).mono ?_; rintro e w1 ⟨rfl, hb1⟩
  have r1 := (Blk3.new w 41 (.string ⟨#[]⟩) (.string ⟨#[]⟩) (.bool false)).below hb1
  have B1 := (((Below.refl w.heap.size w).alloc (Nat.le_refl _) _).trans (hb1.mono (by simp)))
  clear hb1
  go_wp2_with fail
  have d2 := Blk3.new w1 41 (.string (mk nm)) (.string ⟨#[]⟩) (.bool false)
  have r2 := r1.alloc (.cells #[.string (mk nm), .string ⟨#[]⟩, .bool false] 41)
  have B2 := B1.alloc B1.size (.cells #[.string (mk nm), .string ⟨#[]⟩, .bool false] 41)
  have hne : w.heap.size ≠ w1.heap.size := by have := r1.lt; omega
  have hne2 : w1.heap.size ≠ w.heap.size := fun e => hne e.symm
  generalize w1.alloc (.cells #[.string (mk nm), .string ⟨#[]⟩, .bool false] 41) = W2 at *
  have hwl := r1.lt
  generalize w1.heap.size = g at *
  clear r1 B1
  refine (r18_skip s n _ (by omega) hs).mono ?_; rintro e w' ⟨rfl, rfl⟩
  rw [← HM.out]
  have c0 := d2.c0; have c1 := d2.c1; have c2 := d2.c2; have e1 := d2.f1; have e2 := d2.f2
  have k0 := r2.c0; have k1 := r2.c1; have k2 := r2.c2
  have f0 := r2.f0; have f1 := r2.f1; have f2 := r2.f2
  go_wp2_with fail
  have r3 := r2.other (p := g) hne 2 (.bool true)
  have d3 := d2.set2 (.bool true)
  have B3 := B2.setCell (p := ⟨g, 2, none⟩) (by have := hwl; simp; omega) (.bool true)
  clear r2 d2 B2 c0 c1 c2 e1 e2 k0 k1 k2 f0 f1 f2
  generalize W2.setCell ⟨g, 2, none⟩ (.bool true) = W3 at *
  refine (r18_skip s (m + 1) _ (by omega) hs).mono ?_; rintro e w' ⟨rfl, rfl⟩
  rw [← HK.out]
  have hkend : ¬ ((k : Int) < (s.size : Int)) := by have := HKE.out; omega
  have c0 := d3.c0; have c1 := d3.c1; have c2 := d3.c2; have e1 := d3.f1; have e2 := d3.f2
  have k0 := r3.c0; have k1 := r3.c1; have k2 := r3.c2
  have f0 := r3.f0; have f1 := r3.f1; have f2 := r3.f2
  go_wp2_with fail
  refine (r_token s k _ hs).mono ?_; rintro e w' ⟨rfl, rfl⟩
  rw [← HN2.out]
  go_wp2_with fail
  refine bodyPost_ret (results_ctt rfl _ _ w.heap.size 41 _ _ rfl ((((r3.other (p := g) hne 1 _).set0 _).set1 _).set2 _) Try.underlying41 rfl dirSize) rfl ?_
  exact ⟨by rw [ex.out]; by_cases h : k < n2 <;> simp [h, dirVal], (((B3.setCell (p := ⟨g, 1, none⟩) (by have := hwl; simp; omega) _).setCell (by simp) _).setCell (by simp) _).setCell (by simp) _⟩

/-- The reference's element at an index: what it says, and the index behind it. -/
theorem r18_element (s : ByteArray) (i : Nat) (w : World) (hi : i ≤ s.size) (hs : s.size ≤ 100000000) : Calls Try.prog 49 #[.string s, .int .i64 (i : Int)] w fun e w' => ∃ (d : Dir) (j : Nat) (ok : Bool), e = .returned (.tuple #[dirVal d, .int .i64 (j : Int), .bool ok]) ∧ Below w.heap.size w w' ∧ Hid ((ok = true → j ≤ s.size ∧ elemI (un s) i = some (d, blkEnd (un s) j)) ∧ (ok = false → elemI (un s) i = none)) := by
  have hi' : i ≤ (un s).length := by rw [length_un]; exact hi
  have hge := tokEnd_ge (un s) i
  have hle := tokEnd_le (un s) i hi'
  have hbl := blkEnd_le (un s) _ hle
  have hbg := blkEnd_ge (un s) (tokEnd (un s) i)
  by_cases ht : i < tokEnd (un s) i
  · by_cases ha : atN (un s) (blkEnd (un s) (tokEnd (un s) i)) = 61
    · have hin := atN_in (un s) _ (by omega : atN (un s) (blkEnd (un s) (tokEnd (un s) i)) ≠ 256)
      have hkl := blkEnd_le (un s) (blkEnd (un s) (tokEnd (un s) i) + 1) (by omega)
      have hv := elemI_val (un s) i ht ha
      rw [length_un] at hle hbl hin hkl
      by_cases hq : atN (un s) (blkEnd (un s) (blkEnd (un s) (tokEnd (un s) i) + 1)) = 34
      · have hin2 := atN_in (un s) _ (by omega : atN (un s) (blkEnd (un s) (blkEnd (un s) (tokEnd (un s) i) + 1)) ≠ 256)
        rw [length_un] at hin2
        by_cases he : (parseQ (un s) (blkEnd (un s) (blkEnd (un s) (tokEnd (un s) i) + 1))).e = 0
        · have hb := parseQ_bound (un s) _ he
          rw [length_un] at hb
          refine (r18_element_quote s i _ _ _ w hi hs rfl rfl ht hbg hbl rfl _ rfl ha hin _ _ _ hin2 hq he rfl).mono ?_
          rintro e w' ⟨rfl, h⟩
          refine ⟨_, _, _, rfl, h, Lib.hid ⟨fun _ => ⟨hb.2.1, ?_⟩, fun h => by cases h⟩⟩
          rw [hv, valI_quote _ _ hq he]; rfl
        · refine (r18_element_bad s i _ _ _ w hi hs rfl rfl ht hbg hbl rfl _ rfl ha hin _ _ _ hin2 hq he rfl).mono ?_
          rintro e w' ⟨rfl, h⟩
          refine ⟨_, _, _, rfl, h, Lib.hid ⟨(fun h => by cases h), fun _ => ?_⟩⟩
          rw [hv, valI_bad _ _ hq he]; rfl
      · have hge2 := tokEnd_ge (un s) (blkEnd (un s) (blkEnd (un s) (tokEnd (un s) i) + 1))
        have hle2 := tokEnd_le (un s) (blkEnd (un s) (blkEnd (un s) (tokEnd (un s) i) + 1)) (by rw [length_un]; exact hkl)
        rw [length_un] at hle2
        have fin : ∀ (e : Ending) (w' : World), (e = .returned (.tuple #[dirVal (lower (seg (un s) i (tokEnd (un s) i)), seg (un s) (blkEnd (un s) (blkEnd (un s) (tokEnd (un s) i) + 1)) (tokEnd (un s) (blkEnd (un s) (blkEnd (un s) (tokEnd (un s) i) + 1))), true), .int .i64 (tokEnd (un s) (blkEnd (un s) (blkEnd (un s) (tokEnd (un s) i) + 1)) : Int), .bool (decide (blkEnd (un s) (blkEnd (un s) (tokEnd (un s) i) + 1) < tokEnd (un s) (blkEnd (un s) (blkEnd (un s) (tokEnd (un s) i) + 1))))]) ∧ Below w.heap.size w w') → ∃ (d : Dir) (j : Nat) (ok : Bool), e = .returned (.tuple #[dirVal d, .int .i64 (j : Int), .bool ok]) ∧ Below w.heap.size w w' ∧ Hid ((ok = true → j ≤ s.size ∧ elemI (un s) i = some (d, blkEnd (un s) j)) ∧ (ok = false → elemI (un s) i = none)) := by
          rintro e w' ⟨rfl, h⟩
          refine ⟨_, _, _, rfl, h, Lib.hid ⟨fun ho => ⟨hle2, ?_⟩, fun ho => ?_⟩⟩
          · rw [hv, valI_tok _ _ hq (of_decide_eq_true ho)]; rfl
          · rw [hv, valI_none _ _ hq (of_decide_eq_false ho)]; rfl
        by_cases hkend : blkEnd (un s) (blkEnd (un s) (tokEnd (un s) i) + 1) < s.size
        · exact (r18_element_tok s i _ _ _ w hi hs rfl rfl ht hbg hbl rfl _ rfl ha hin _ hkend hq rfl).mono fin
        · exact (r18_element_last s i _ _ _ w hi hs rfl rfl ht hbg hbl rfl _ rfl ha hin _ (by omega) rfl).mono fin
    · have hb := elemI_bare (un s) i ht ha
      rw [length_un] at hle hbl
      by_cases hend : blkEnd (un s) (tokEnd (un s) i) < s.size
      · refine (r18_element_bare s i _ _ _ w hi hs rfl rfl ht hbg hbl rfl ha hend).mono ?_
        rintro e w' ⟨rfl, h⟩
        exact ⟨_, _, _, rfl, h, Lib.hid ⟨fun _ => ⟨hbl, by rw [hb, blkEnd_idem]⟩, fun h => by cases h⟩⟩
      · refine (r18_element_end s i _ _ _ w hi hs rfl rfl ht hbg hbl rfl (by omega)).mono ?_
        rintro e w' ⟨rfl, h⟩
        exact ⟨_, _, _, rfl, h, Lib.hid ⟨fun _ => ⟨hbl, by rw [hb, blkEnd_idem]⟩, fun h => by cases h⟩⟩
  · rw [length_un] at hle hbl
    refine (r18_element_no s i (tokEnd (un s) i) _ _ w hi hs rfl rfl (by omega) hbg hbl rfl).mono ?_
    rintro e w' ⟨d, rfl, h⟩
    exact ⟨d, 0, false, rfl, h, Lib.hid ⟨(fun h => Bool.noConfusion h), fun _ => elemI_no (un s) i ht⟩⟩
end Go.Proofs.Ytjdkmidajhbefaa
