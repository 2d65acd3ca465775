/- Slices of directives in memory; the walk of keep.Directives. Conditions: none. -/
import Derived.Test.YtjdkmidajhbefaaDoorDirV
import Derived.Test.YtjdkmidajhbefaaDoorAsciiText
namespace Go.Proofs.YtjdkmidajhbefaaDoor
open Go.RowKit Hs
set_option linter.unusedSimpArgs false
set_option linter.unusedVariables false

/-- A slice of directives. -/
def Dirs (w : World) (v : Value) (l : List Dir) : Prop := Row w v 3 l.length (dcells l)
theorem Dirs.below {w w' : World} {v : Value} {l : List Dir} (h : Dirs w v l) (hb : Below w.heap.size w w') : Dirs w' v l := Row.below h hb
theorem Dirs.owned {w : World} {base : Nat} {v : Value} {l : List Dir} (h : w.ownsRow base 37 3 v l.length (dcells l)) : Dirs w v l := Row.owned h
/-- Its shape and its cells. -/
theorem Dirs.open {w : World} {v : Value} {l : List Dir} (h : Dirs w v l) : ∃ a cap, v = .slice a l.length cap ∧ l.length ≤ cap ∧ cap ≤ maxLen ∧
    ∀ (hn : 0 < l.length), ∃ b off, a = some ⟨b, off, none⟩ ∧ b < w.heap.size ∧ ∀ j (hj : j < l.length), w.cell? ⟨b, off + j * 3, none⟩ = some (.string (mk l[j].1)) ∧ w.cell? ⟨b, off + j * 3 + 1, none⟩ = some (.string (mk l[j].2.1)) ∧ w.cell? ⟨b, off + j * 3 + 2, none⟩ = some (.bool l[j].2.2) := by
  obtain ⟨hl, a, cap, rfl, hn, hm, h⟩ := h
  refine ⟨a, cap, rfl, hn, hm, fun h0 => ?_⟩
  rcases h with h | ⟨b, off, ha, hlt, hc⟩
  · omega
  · refine ⟨b, off, ha, hlt, fun j hj => ?_⟩
    obtain ⟨g0, g1, g2⟩ := dcells_get l j hj
    exact ⟨hc _ _ g0, by have := hc _ _ g1; rwa [← Nat.add_assoc] at this, by have := hc _ _ g2; rwa [← Nat.add_assoc] at this⟩
theorem dir_eq_step (l m : List Dir) (k : Nat) (h1 : k < l.length) (h2 : k < m.length) (h : l.take k = m.take k) : (l[k] = m[k] → l.take (k + 1) = m.take (k + 1)) ∧ (l[k] ≠ m[k] → l ≠ m) := by
  refine ⟨fun e => ?_, fun e he => e (by subst he; rfl)⟩
  rw [List.take_succ_eq_append_getElem h1, List.take_succ_eq_append_getElem h2, h, e]

end Go.Proofs.YtjdkmidajhbefaaDoor
