/- A block of groups that is filled place by place. Conditions: none. -/
import Derived.Test.YtblcgicgbindlaaDoorIpv6U
namespace Go.Proofs.YtblcgicgbindlaaDoor
open Go.RowKit Hs
set_option linter.unusedSimpArgs false
set_option linter.unusedVariables false

theorem gcells_set (l : List Nat) (k v : Nat) : (gcells l).toArray.setIfInBounds k (.int .u16 (v : Int)) = (gcells (l.set k v)).toArray := by
  unfold gcells
  rw [List.setIfInBounds_toArray, List.map_set]
theorem KeptBut.trans {g : Nat} {w w' w'' : World} (h : KeptBut g w w') (h' : KeptBut g w' w'') : KeptBut g w w'' := ⟨fun k hk => (h'.1 k hk).trans (h.1 k hk), fun B hB => (h.2 B hB).trans (h'.2 B hB)⟩
/-- Block g holds the groups A; all else is as in w. -/
def FillSt (g : Nat) (w wr : World) (A : List Nat) : Prop := KeptBut g w wr ∧ BlkN wr g 39 (gcells A).toArray
theorem FillSt.step {g : Nat} {w wr : World} {A : List Nat} (h : FillSt g w wr A) (k v : Nat) : FillSt g w (wr.setCell ⟨g, k, none⟩ (.int .u16 (v : Int))) (A.set k v) := by
  have hk : KeptBut g wr (wr.setCell ⟨g, k, none⟩ (.int .u16 (v : Int))) := by
    rw [setCell_eq_setRow wr g k _ _ _ _ h.2]
    exact KeptBut.row _ _ _
  refine ⟨h.1.trans hk, ?_⟩
  have := h.2.set k (.int .u16 (v : Int))
  rw [gcells_set] at this
  exact this
theorem FillSt.cell {g : Nat} {w wr : World} {A : List Nat} (h : FillSt g w wr A) (k : Nat) (hk : k < A.length) : ∃ u, wr.cell? ⟨g, k, none⟩ = some u := by
  refine ⟨.int .u16 (A[k] : Int), ?_⟩
  rw [cell_of_row wr g k _ _ _ h.2]
  simp [gcells, List.getElem?_eq_getElem hk]
theorem FillSt.frozen {g : Nat} {w wr : World} {A : List Nat} (h : FillSt g w wr A) (k : Nat) : wr.frozen? ⟨g, k, none⟩ = false := Lib.frozen_of_heap h.2 k
theorem FillSt.start {g : Nat} {w : World} {A : List Nat} (h : BlkN w g 39 (gcells A).toArray) : FillSt g w w A := ⟨KeptBut.refl _ _, h⟩
end Go.Proofs.YtblcgicgbindlaaDoor
