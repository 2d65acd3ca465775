/- Arguments that are slices of strings or of numbers, opened: their elements, their cells. Conditions: none. -/
import Derived.Test.YtimfngfimnapoaaDoorRows
import Derived.Test.YtimfngfimnapoaaDoorKit
import Derived.ProofKit
import Derived.OpenShut
import Derived.SliceStrings
import Derived.ChangeSlices
import Derived.ChangeOld
namespace Go.Proofs.YtimfngfimnapoaaDoor
open Go.ChangeShapes Go.WideShapes Go.RowKit Hs
set_option linter.unusedVariables false
set_option linter.unusedSimpArgs false

/-- A slice of ints. -/
def icells (l : List Int) : List Value := l.map fun n => .int .i64 n
def Ints (w : World) (v : Value) (l : List Int) : Prop := Row w v 1 l.length (icells l)
theorem Ints.below {w w' : World} {v : Value} {l : List Int} (h : Ints w v l) (hb : Below w.heap.size w w') : Ints w' v l := Row.below h hb
theorem Ints.open {w : World} {v : Value} {l : List Int} (h : Ints w v l) : ∃ a cap, v = .slice a l.length cap ∧ l.length ≤ cap ∧ cap ≤ maxLen ∧
    ∀ (hn : 0 < l.length), ∃ b off, a = some ⟨b, off, none⟩ ∧ b < w.heap.size ∧ ∀ j (hj : j < l.length), w.cell? ⟨b, off + j, none⟩ = some (.int .i64 l[j]) := by
  obtain ⟨hl, a, cap, rfl, hn, hm, h⟩ := h
  refine ⟨a, cap, rfl, hn, hm, fun h0 => ?_⟩
  rcases h with h | ⟨b, off, ha, hlt, hc⟩
  · omega
  · exact ⟨b, off, ha, hlt, fun j hj => hc j _ (by simp [icells, List.getElem?_eq_getElem hj])⟩
theorem add_none (b off j : Nat) : (⟨b, off, none⟩ : Addr).add j = ⟨b, off + j, none⟩ := by
  unfold Addr.add
  split
  · rename_i h; rw [h]; rfl
  · rfl
theorem row_ones {W : World} {a : Addr} {len cap : Nat} {xs : List Value} (hl : xs.length = len) (h1 : len ≤ cap) (h2 : cap ≤ maxLen) (h : ∀ i u, xs[i]? = some u → W.cell? (a.add i) = some u) : Row W (.slice (some a) len cap) 1 len xs := by
  by_cases h0 : len = 0
  · exact ⟨by omega, some a, cap, rfl, h1, h2, .inl h0⟩
  · obtain ⟨b, off, spot⟩ := a
    have k0 := h 0 xs[0] (List.getElem?_eq_getElem (by omega))
    have hspot : spot = none := by simpa [Addr.add] using World.cell?_spot k0
    subst hspot
    rw [add_none] at k0
    exact ⟨by omega, _, cap, rfl, h1, h2, .inr ⟨b, off, rfl, World.block_lt_of_cell? W _ k0, fun j u hj => by have := h j u hj; rwa [add_none] at this⟩⟩
theorem opened_strings {H : Type} {enc : TypeId × Value → H} {W : World} {base : Nat} {v : Value} {d : DataW H} {p : List MemPlace} (hval : Value.okWide Tryd.prog W .any base 22 v) (h : DataW.Trod enc Tryd.prog W 0 (fun _ => true) true 22 v d p) :
    ∃ l : List Bs, Strs W v l ∧ ∀ x ∈ l, x.length ≤ maxLen := by
  obtain ⟨fuel, hf⟩ := h
  obtain ⟨a0, len, cap, rfl⟩ := okWide_slice Tryd.underlying22 hval
  rcases open_strings Tryd.underlying22 Tryd.underlying9 (by kernel_rfl) hf with ⟨hcs, hx⟩ | ⟨a, len', cap', ss, hcs, _, hl, hm, hlen, hx, hel, hsz⟩
  · simp [Value.cells] at hcs
    obtain ⟨rfl, rfl, rfl⟩ := hcs
    exact ⟨[], Row.nil _ _, fun x hx => by cases hx⟩
  · simp [Value.cells] at hcs
    obtain ⟨rfl, rfl, rfl⟩ := hcs
    simp only [if_true] at hlen
    refine ⟨(ss.take len).map un, ?_, fun x hx => ?_⟩
    · have e : ((ss.take len).map un).length = len := by simp; omega
      unfold Strs
      rw [e]
      refine row_ones (by simp [scells]; omega) hl hm (fun i u hu => ?_)
      have hi : i < len := by have := (List.getElem?_eq_some_iff.1 hu).1; simp [scells] at this; omega
      have := hel i (by omega)
      rw [this]
      simp only [scells, List.map_map, List.getElem?_map, List.getElem?_take, hi, if_true, List.getElem?_eq_getElem (show i < ss.length by omega), Option.map_some, Function.comp, mk_un] at hu
      rw [← hu]
      simp [List.getD, List.getElem?_eq_getElem (show i < ss.length by omega)]
    · obtain ⟨s, hs, rfl⟩ := List.mem_map.1 hx
      rw [length_un]; exact hsz s (List.mem_of_mem_take hs)
end Go.Proofs.YtimfngfimnapoaaDoor
