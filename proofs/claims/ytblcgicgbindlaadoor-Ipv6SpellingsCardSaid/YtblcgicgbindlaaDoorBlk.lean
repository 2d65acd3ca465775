/- Blocks of three cells that a walk knows whole: what their cells hold, behind calls, new blocks and stores. Conditions: none. -/
import Derived.Test.YtblcgicgbindlaaDoorKit
import Derived.Laws.ResultCell
import Derived.Laws.Rows
namespace Hs
open Go Go.RowKit
set_option linter.unusedVariables false

/-- Block g holds the cells a, b, c and is not frozen. -/
def Blk3 (w : World) (g : Nat) (T : TypeId) (a b c : Value) : Prop := w.heap[g]? = some (.cells #[a, b, c] T (0, 0))
section
variable {w w' : World} {g : Nat} {T : TypeId} {a b c : Value}
theorem Blk3.lt (h : Blk3 w g T a b c) : g < w.heap.size := (Array.getElem?_eq_some_iff.1 h).1
theorem Blk3.c0 (h : Blk3 w g T a b c) : w.cell? ⟨g, 0, none⟩ = some a := by unfold Blk3 at h; simp [World.cell?, h]
theorem Blk3.c1 (h : Blk3 w g T a b c) : w.cell? ⟨g, 1, none⟩ = some b := by unfold Blk3 at h; simp [World.cell?, h]
theorem Blk3.c2 (h : Blk3 w g T a b c) : w.cell? ⟨g, 2, none⟩ = some c := by unfold Blk3 at h; simp [World.cell?, h]
theorem Blk3.f0 (h : Blk3 w g T a b c) : w.frozen? ⟨g, 0, none⟩ = false := by unfold Blk3 at h; simp [World.frozen?, h]
theorem Blk3.f1 (h : Blk3 w g T a b c) : w.frozen? ⟨g, 1, none⟩ = false := by unfold Blk3 at h; simp [World.frozen?, h]
theorem Blk3.f2 (h : Blk3 w g T a b c) : w.frozen? ⟨g, 2, none⟩ = false := by unfold Blk3 at h; simp [World.frozen?, h]
theorem Blk3.below (h : Blk3 w g T a b c) (hb : Below w.heap.size w w') : Blk3 w' g T a b c := (hb.block g h.lt).trans h
theorem Blk3.alloc (h : Blk3 w g T a b c) (o : Obj) : Blk3 (w.alloc o) g T a b c := (Below.heap_alloc w o g h.lt).trans h
theorem Blk3.new (w : World) (T : TypeId) (a b c : Value) : Blk3 (w.alloc (.cells #[a, b, c] T)) w.heap.size T a b c := heap_alloc_new w _
theorem Blk3.other (h : Blk3 w g T a b c) {p : Nat} (hp : g ≠ p) (j : Nat) (v : Value) : Blk3 (w.setCell ⟨p, j, none⟩ v) g T a b c := (Below.heap_setCell w ⟨p, j, none⟩ v g hp).trans h
theorem Blk3.grown {row : Option Nat} (h : Blk3 w g T a b c) (hg : w.grownBy w' row) (hn : some g ≠ row) : Blk3 w' g T a b c := (hg.block g h.lt hn).trans h
theorem Blk3.drewN (h : Blk3 w g T a b c) (n : Nat) : Blk3 (w.drewN n) g T a b c := h
theorem Blk3.set0 (h : Blk3 w g T a b c) (v : Value) : Blk3 (w.setCell ⟨g, 0, none⟩ v) g T v b c := by
  have hlt := h.lt
  have h' : w.heap[g] = .cells #[a, b, c] T (0, 0) := by simpa [Blk3, Array.getElem?_eq_getElem hlt] using h
  show (w.heap.modify g _)[g]? = _
  rw [Array.getElem?_eq_getElem (by simpa using hlt), Array.getElem_modify_self, h']
  rfl
theorem Blk3.set1 (h : Blk3 w g T a b c) (v : Value) : Blk3 (w.setCell ⟨g, 1, none⟩ v) g T a v c := by
  have hlt := h.lt
  have h' : w.heap[g] = .cells #[a, b, c] T (0, 0) := by simpa [Blk3, Array.getElem?_eq_getElem hlt] using h
  show (w.heap.modify g _)[g]? = _
  rw [Array.getElem?_eq_getElem (by simpa using hlt), Array.getElem_modify_self, h']
  rfl
theorem Blk3.set2 (h : Blk3 w g T a b c) (v : Value) : Blk3 (w.setCell ⟨g, 2, none⟩ v) g T a b v := by
  have hlt := h.lt
  have h' : w.heap[g] = .cells #[a, b, c] T (0, 0) := by simpa [Blk3, Array.getElem?_eq_getElem hlt] using h
  show (w.heap.modify g _)[g]? = _
  rw [Array.getElem?_eq_getElem (by simpa using hlt), Array.getElem_modify_self, h']
  rfl
end
/-- A struct handed back beside one result, or two. -/
theorem results_ct {P : Program} {fn : Func} {p u : Tmp} {ty : TypeId} (h : fn.results = #[.cell p ty, .tmp u]) (tmps : Array Value) (w : World) (g : Nat) (t : TypeId) (cs : Array Value) (d : TypeDesc)
    (hp : tmps.getD p undef = .pointer (some ⟨g, 0, none⟩)) (hg : w.heap[g]? = some (.cells cs t (0, 0))) (hu : P.underlying ty = some d) (hd : (match d with | .struct _ | .array _ _ => true | _ => false) = true) (hi : (P.info? ty).map (·.size) = some cs.size) :
    (results fn tmps).run P w = .ok (.tuple #[.agg cs, tmps.getD u undef]) w := by
  rw [results_cell_tmp h, hp]
  simp [asAddr, run_loadVar_row w g t ty cs (0, 0) d hg hu hd hi, Result.andThen]
theorem results_ctt {P : Program} {fn : Func} {p u v : Tmp} {ty : TypeId} (h : fn.results = #[.cell p ty, .tmp u, .tmp v]) (tmps : Array Value) (w : World) (g : Nat) (t : TypeId) (cs : Array Value) (d : TypeDesc)
    (hp : tmps.getD p undef = .pointer (some ⟨g, 0, none⟩)) (hg : w.heap[g]? = some (.cells cs t (0, 0))) (hu : P.underlying ty = some d) (hd : (match d with | .struct _ | .array _ _ => true | _ => false) = true) (hi : (P.info? ty).map (·.size) = some cs.size) :
    (results fn tmps).run P w = .ok (.tuple #[.agg cs, tmps.getD u undef, tmps.getD v undef]) w := by
  have hp' : tmps[p]?.getD undef = .pointer (some ⟨g, 0, none⟩) := by simpa using hp
  simp [results, h, hp', asAddr, run_loadVar_row w g t ty cs (0, 0) d hg hu hd hi, Result.andThen]
end Hs
