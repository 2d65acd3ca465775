/- The walk of the parser's element, all cases together, and of Parse of the layer directive (program). Conditions: the text's length is bounded. -/
import Derived.Test.YtjdkmidajhbefaaDoorDirE1
import Derived.Test.YtjdkmidajhbefaaDoorDirE2
import Derived.Test.YtjdkmidajhbefaaDoorDirE3
import Derived.Test.YtjdkmidajhbefaaDoorDirE4
import Derived.WalkMore
namespace Go.Proofs.YtjdkmidajhbefaaDoor
open Go.RowKit Hs
set_option linter.unusedSimpArgs false
set_option linter.unusedVariables false

/-- The program's element: what it says, and the index behind it. -/
theorem p_element (g : Nat) (s : ByteArray) (i : Nat) (w : World) (hp : PAt w g s i) (hi : i ≤ s.size) (hs : s.size ≤ 100000000) : Calls Tryd.prog 16 #[.pointer (some ⟨g, 0, none⟩)] w fun e w' => ∃ (d : Dir) (j : Nat) (ok : Bool), e = .returned (.tuple #[dirVal d, .bool ok]) ∧ PAt w' g s j ∧ w.grownBy w' (some g) ∧ j ≤ s.size ∧ Hid ((ok = true → elemO (un s) i = some (d, j)) ∧ (ok = false → elemO (un s) i = none)) := by
  have hi' : i ≤ (un s).length := by rw [length_un]; exact hi
  have hge := tokEnd_ge (un s) i
  have hle := tokEnd_le (un s) i hi'
  have hbl := blkEnd_le (un s) _ hle
  have hbg := blkEnd_ge (un s) (tokEnd (un s) i)
  have stop : ∀ j, j < s.size → (atN (un s) j = 59 ↔ stopAt (un s) j) := fun j hj => by
    have : atN (un s) j ≠ 256 := by rw [atN_un s j hj]; have := s[j].toNat_lt; omega
    unfold stopAt; omega
  have stope : stopAt (un s) s.size := .inr (atN_out (un s) s.size (by rw [length_un]; exact Nat.le_refl _))
  -- an element whose end is known
  have fin : ∀ (d : Dir) (j : Nat), elemI (un s) i = some (d, j) → j ≤ s.size → ∀ (e : Ending) (w' : World) (b : Bool), (b = decide (stopAt (un s) j)) → (e = .returned (.tuple #[dirVal d, .bool b]) ∧ PAt w' g s j ∧ w.grownBy w' (some g)) → ∃ (d : Dir) (j : Nat) (ok : Bool), e = .returned (.tuple #[dirVal d, .bool ok]) ∧ PAt w' g s j ∧ w.grownBy w' (some g) ∧ j ≤ s.size ∧ Hid ((ok = true → elemO (un s) i = some (d, j)) ∧ (ok = false → elemO (un s) i = none)) := by
    rintro d j he hj e w' b rfl ⟨rfl, h1, h2⟩
    refine ⟨d, j, _, rfl, h1, h2, hj, Lib.hid ⟨fun ho => elemO_some _ _ _ he (of_decide_eq_true ho), fun ho => elemO_stop _ _ _ he (of_decide_eq_false ho)⟩⟩
  have none : ∀ (d : Dir) (j : Nat), elemI (un s) i = none → j ≤ s.size → ∀ (e : Ending) (w' : World), (e = .returned (.tuple #[dirVal d, .bool false]) ∧ PAt w' g s j ∧ w.grownBy w' (some g)) → ∃ (d : Dir) (j : Nat) (ok : Bool), e = .returned (.tuple #[dirVal d, .bool ok]) ∧ PAt w' g s j ∧ w.grownBy w' (some g) ∧ j ≤ s.size ∧ Hid ((ok = true → elemO (un s) i = some (d, j)) ∧ (ok = false → elemO (un s) i = none)) := by
    rintro d j he hj e w' ⟨rfl, h1, h2⟩
    exact ⟨d, j, false, rfl, h1, h2, hj, Lib.hid ⟨(fun h => Bool.noConfusion h), fun _ => elemO_none _ _ he⟩⟩
  by_cases ht : i < tokEnd (un s) i
  · by_cases ha : atN (un s) (blkEnd (un s) (tokEnd (un s) i)) = 61
    · have hin := atN_in (un s) _ (by omega : atN (un s) (blkEnd (un s) (tokEnd (un s) i)) ≠ 256)
      have hkl := blkEnd_le (un s) (blkEnd (un s) (tokEnd (un s) i) + 1) (by omega)
      have hv := elemI_val (un s) i ht ha
      rw [length_un] at hle hbl hin hkl
      cases hvi : valI (un s) (blkEnd (un s) (blkEnd (un s) (tokEnd (un s) i) + 1)) with
      | none =>
        rw [hvi] at hv
        have hk2 := blkEnd_idem (un s) (blkEnd (un s) (tokEnd (un s) i) + 1)
        exact (p_element_val_none g s i _ _ _ w hp hi hs rfl rfl hbg hbl rfl ht _ rfl hkl ha hin hvi hk2).mono (none _ _ hv hkl)
      | some p =>
        obtain ⟨v, n2⟩ := p
        rw [hvi] at hv
        have hvb := valI_bound (un s) _ v n2 (by rw [length_un]; exact hkl) hvi
        have hj := blkEnd_le (un s) n2 hvb.2.1
        rw [length_un] at hvb hj
        by_cases hend : blkEnd (un s) n2 < s.size
        · exact (p_element_val g s i _ _ _ w hp hi hs rfl rfl hbg hbl rfl ht _ rfl hkl ha hin v n2 _ hvi hvb.2.1 rfl hend).mono (fun e w' h => fin _ _ hv hj e w' _ (by rw [decide_eq_decide]; exact stop _ hend) h)
        · have hes : blkEnd (un s) n2 = s.size := by omega
          exact (p_element_val_end g s i _ _ _ w hp hi hs rfl rfl hbg hbl rfl ht _ rfl hkl ha hin v n2 _ hvi hvb.2.1 rfl hes).mono (fun e w' h => fin _ _ hv hj e w' _ (by rw [hes]; exact (decide_eq_true stope).symm) h)
    · have hb := elemI_bare (un s) i ht ha
      rw [length_un] at hle hbl
      by_cases hend : blkEnd (un s) (tokEnd (un s) i) < s.size
      · exact (p_element_bare g s i _ _ _ w hp hi hs rfl rfl hbg hbl rfl ht ha hend).mono (fun e w' h => fin _ _ hb hbl e w' _ (by rw [decide_eq_decide]; exact stop _ hend) h)
      · have hes : blkEnd (un s) (tokEnd (un s) i) = s.size := by omega
        exact (p_element_bare_end g s i _ _ _ w hp hi hs rfl rfl hbg hbl rfl ht ha hes).mono (fun e w' h => fin _ _ hb hbl e w' _ (by rw [hes]; exact (decide_eq_true stope).symm) h)
  · rw [length_un] at hle hbl
    exact (p_element_no g s i _ _ _ w hp hi hs rfl rfl hbg hbl rfl ht).mono (none _ _ (elemI_no (un s) i ht) hbl)
end Go.Proofs.YtjdkmidajhbefaaDoor
