/- Blocks of two cells that a walk knows whole. Conditions: none. -/
import Derived.Test.YtimfngfimnapoaaBlk
namespace Hs
open Go Go.RowKit
set_option linter.unusedVariables false

/-- Block g holds the cells a, b and is not frozen. -/
def Blk2 (w : World) (g : Nat) (T : TypeId) (a b : Value) : Prop := w.heap[g]? = some (.cells #[a, b] T (0, 0))
section
variable {w w' : World} {g : Nat} {T : TypeId} {a b : Value}
theorem Blk2.lt (h : Blk2 w g T a b) : g < w.heap.size := (Array.getElem?_eq_some_iff.1 h).1
theorem Blk2.c0 (h : Blk2 w g T a b) : w.cell? ⟨g, 0, none⟩ = some a := by unfold Blk2 at h; simp [World.cell?, h]
theorem Blk2.c1 (h : Blk2 w g T a b) : w.cell? ⟨g, 1, none⟩ = some b := by unfold Blk2 at h; simp [World.cell?, h]
theorem Blk2.f0 (h : Blk2 w g T a b) : w.frozen? ⟨g, 0, none⟩ = false := by unfold Blk2 at h; simp [World.frozen?, h]
theorem Blk2.f1 (h : Blk2 w g T a b) : w.frozen? ⟨g, 1, none⟩ = false := by unfold Blk2 at h; simp [World.frozen?, h]
theorem Blk2.below (h : Blk2 w g T a b) (hb : Below w.heap.size w w') : Blk2 w' g T a b := (hb.block g h.lt).trans h
theorem Blk2.alloc (h : Blk2 w g T a b) (o : Obj) : Blk2 (w.alloc o) g T a b := (Below.heap_alloc w o g h.lt).trans h
theorem Blk2.new (w : World) (T : TypeId) (a b : Value) : Blk2 (w.alloc (.cells #[a, b] T)) w.heap.size T a b := heap_alloc_new w _
theorem Blk2.other (h : Blk2 w g T a b) {p : Nat} (hp : g ≠ p) (j : Nat) (v : Value) : Blk2 (w.setCell ⟨p, j, none⟩ v) g T a b := (Below.heap_setCell w ⟨p, j, none⟩ v g hp).trans h
theorem Blk2.grown {row : Option Nat} (h : Blk2 w g T a b) (hg : w.grownBy w' row) (hn : some g ≠ row) : Blk2 w' g T a b := (hg.block g h.lt hn).trans h
theorem Blk2.drewN (h : Blk2 w g T a b) (n : Nat) : Blk2 (w.drewN n) g T a b := h
theorem Blk2.set0 (h : Blk2 w g T a b) (v : Value) : Blk2 (w.setCell ⟨g, 0, none⟩ v) g T v b := by
  have hlt := h.lt
  have h' : w.heap[g] = .cells #[a, b] T (0, 0) := by simpa [Blk2, Array.getElem?_eq_getElem hlt] using h
  show (w.heap.modify g _)[g]? = _
  rw [Array.getElem?_eq_getElem (by simpa using hlt), Array.getElem_modify_self, h']
  rfl
theorem Blk2.set1 (h : Blk2 w g T a b) (v : Value) : Blk2 (w.setCell ⟨g, 1, none⟩ v) g T a v := by
  have hlt := h.lt
  have h' : w.heap[g] = .cells #[a, b] T (0, 0) := by simpa [Blk2, Array.getElem?_eq_getElem hlt] using h
  show (w.heap.modify g _)[g]? = _
  rw [Array.getElem?_eq_getElem (by simpa using hlt), Array.getElem_modify_self, h']
  rfl
end
end Hs
