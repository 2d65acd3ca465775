/- What a loop that divides a string at a byte has done so far. No program in sight. Conditions: none. -/
import Derived.Test.YtblcgicgbindlaaDoorPlainSplit
namespace Hs
open Go

/-- Before byte k: the parts D stand, the next one begins at fr. -/
def SplitTo (c : UInt8) (l : Bs) (D : List Bs) (fr k : Nat) : Prop := (k ≤ l.length → D ++ splitD c (l.drop fr) = splitD c l ∧ ∀ x ∈ seg l fr k, x ≠ c) ∧ (k = l.length + 1 → D = splitD c l)
theorem SplitTo.start (c : UInt8) (l : Bs) : SplitTo c l [] 0 0 := ⟨fun _ => ⟨rfl, by simp [seg]⟩, fun h => by omega⟩
theorem drop_seg (l : Bs) (fr k : Nat) (h : fr ≤ k) : l.drop fr = seg l fr k ++ l.drop k := by
  have e : l.drop k = (l.drop fr).drop (k - fr) := by rw [List.drop_drop]; congr 1; omega
  rw [e]
  exact (List.take_append_drop (k - fr) (l.drop fr)).symm
theorem SplitTo.char {c : UInt8} {l : Bs} {D : List Bs} {fr k : Nat} (h : SplitTo c l D fr k) (hf : fr ≤ k) (hk : k < l.length) (hc : l[k] ≠ c) : SplitTo c l D fr (k + 1) := by
  refine ⟨fun _ => ⟨(h.1 (by omega)).1, fun x hx => ?_⟩, fun e => by omega⟩
  have e : seg l fr (k + 1) = seg l fr k ++ [l[k]] := by
    unfold seg
    rw [show k + 1 - fr = (k - fr) + 1 by omega, List.take_succ_eq_append_getElem (by rw [List.length_drop]; omega), List.getElem_drop]
    simp only [show fr + (k - fr) = k by omega]
  rw [e] at hx
  rcases List.mem_append.1 hx with hx | hx
  · exact (h.1 (by omega)).2 x hx
  · rw [List.mem_singleton.1 hx]; exact hc
theorem SplitTo.cut {c : UInt8} {l : Bs} {D : List Bs} {fr k : Nat} (h : SplitTo c l D fr k) (hf : fr ≤ k) (hk : k < l.length) (hc : l[k] = c) : SplitTo c l (D ++ [seg l fr k]) (k + 1) (k + 1) := by
  refine ⟨fun _ => ⟨?_, by simp [seg]⟩, fun e => by omega⟩
  obtain ⟨h1, h2⟩ := h.1 (by omega)
  rw [← h1, drop_seg l fr k hf, List.drop_eq_getElem_cons hk, hc, splitD_at c _ _ h2]
  simp
theorem SplitTo.fin {c : UInt8} {l : Bs} {D : List Bs} {fr k : Nat} (h : SplitTo c l D fr k) (hf : fr ≤ k) (hk : k = l.length) : SplitTo c l (D ++ [seg l fr k]) (k + 1) (k + 1) := by
  refine ⟨fun e => by omega, fun _ => ?_⟩
  obtain ⟨h1, h2⟩ := h.1 (by omega)
  rw [← h1, drop_seg l fr k hf, List.drop_eq_nil_of_le (by omega), List.append_nil, splitD_none c _ h2]
end Hs
