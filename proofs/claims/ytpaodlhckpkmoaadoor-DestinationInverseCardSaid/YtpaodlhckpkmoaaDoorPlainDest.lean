/- Plain functions of the layer destination: names, the destination with a name, the category; and their laws. No program in sight. Conditions: none. -/
import Derived.Test.YtpaodlhckpkmoaaDoorPlainAscii
namespace Hs

/-- The names by number; number 0 is unused, number 1 the empty name. -/
def namesL : List Bs := [[], [], [97, 117, 100, 105, 111], [97, 117, 100, 105, 111, 119, 111, 114, 107, 108, 101, 116], [100, 111, 99, 117, 109, 101, 110, 116], [101, 109, 98, 101, 100], [102, 111, 110, 116], [102, 114, 97, 109, 101], [105, 102, 114, 97, 109, 101], [105, 109, 97, 103, 101], [106, 115, 111, 110], [109, 97, 110, 105, 102, 101, 115, 116], [111, 98, 106, 101, 99, 116], [112, 97, 105, 110, 116, 119, 111, 114, 107, 108, 101, 116], [114, 101, 112, 111, 114, 116], [115, 99, 114, 105, 112, 116], [115, 101, 114, 118, 105, 99, 101, 119, 111, 114, 107, 101, 114], [115, 104, 97, 114, 101, 100, 119, 111, 114, 107, 101, 114], [115, 116, 121, 108, 101], [116, 114, 97, 99, 107], [118, 105, 100, 101, 111], [119, 111, 114, 107, 101, 114], [120, 115, 108, 116]]
theorem length_namesL : namesL.length = 23 := rfl
def nameOf (d : Nat) : Bs := namesL.getD d []
theorem namesL_get (k : Nat) (h : k < namesL.length) : namesL[k] = nameOf k := by simp [nameOf, List.getD, List.getElem?_eq_getElem h]
theorem length_nameOf (d : Nat) : (nameOf d).length ≤ 20 := by
  by_cases h : d < 23
  · have : ∀ d : Fin 23, (nameOf d.val).length ≤ 20 := by decide
    exact this ⟨d, h⟩
  · simp [nameOf, List.getD, List.getElem?_eq_none (show namesL.length ≤ d by rw [length_namesL]; omega)]

def destGo (l : Bs) : Nat → Nat → Nat
  | 0, _ => 0
  | f + 1, d => if lower (nameOf d) == lower l then d else destGo l f (d + 1)
/-- The destination with a name, 0 if there is none. -/
def destOf (l : Bs) : Nat := destGo l 22 1

theorem destGo_hit (l : Bs) (f d : Nat) (h : (lower (nameOf d) == lower l) = true) : destGo l (f + 1) d = d := by rw [destGo, if_pos h]
theorem destGo_miss (l : Bs) (f d : Nat) (h : (lower (nameOf d) == lower l) = false) : destGo l (f + 1) d = destGo l f (d + 1) := by rw [destGo, if_neg (by rw [h]; simp)]

theorem destGo_name (l : Bs) : ∀ (f d : Nat), destGo l f d ≠ 0 → d + f ≤ 23 → destGo l f d < 23 ∧ d ≤ destGo l f d ∧ lower (nameOf (destGo l f d)) = lower l
  | 0, d, h, _ => by simp [destGo] at h
  | f + 1, d, h, hd => by
    by_cases hc : (lower (nameOf d) == lower l) = true
    · rw [destGo_hit l f d hc]
      exact ⟨by omega, by omega, by simpa using hc⟩
    · have hc' : (lower (nameOf d) == lower l) = false := by simpa using hc
      rw [destGo_miss l f d hc'] at h ⊢
      have := destGo_name l f (d + 1) h (by omega)
      exact ⟨this.1, by omega, this.2.2⟩
theorem lower_nameOf (d : Nat) : lower (nameOf d) = nameOf d := by
  by_cases h : d < 23
  · have : ∀ d : Fin 23, lower (nameOf d.val) = nameOf d.val := by decide
    exact this ⟨d, h⟩
  · simp [nameOf, List.getD, List.getElem?_eq_none (show namesL.length ≤ d by rw [length_namesL]; omega), lower]
theorem destOf_name (l : Bs) (h : destOf l ≠ 0) : 1 ≤ destOf l ∧ destOf l ≤ 22 ∧ nameOf (destOf l) = lower l := by
  have := destGo_name l 22 1 h (by omega)
  refine ⟨this.2.1, by have := this.1; unfold destOf; omega, ?_⟩
  rw [← lower_nameOf]
  exact this.2.2
theorem destOf_nameOf (d : Nat) (h1 : 1 ≤ d) (h2 : d ≤ 22) : destOf (nameOf d) = d := by
  have : ∀ d : Fin 22, destOf (nameOf (d.val + 1)) = d.val + 1 := by decide +kernel
  have := this ⟨d - 1, by omega⟩
  simpa [show d - 1 + 1 = d by omega] using this
theorem destOf_le (l : Bs) : destOf l ≤ 22 := by
  by_cases h : destOf l = 0
  · omega
  · exact (destOf_name l h).2.1

/-- Whether a number is a destination. -/
def validB (d : Int) : Bool := decide (1 ≤ d ∧ d ≤ 22)
/-- The category. -/
def catOf (d : Int) (b : Bool) : Int :=
  if 1 ≤ d ∧ d ≤ 22 then (if d = 4 then 1 else if d = 2 ∨ d = 20 ∨ (d = 9 ∧ b = false) then 2 else 3) else 0
theorem catOf_zero (d : Int) (b : Bool) : (catOf d b != 0) = validB d := by
  unfold catOf validB
  split
  · rename_i h; rw [decide_eq_true h]; split <;> (try split) <;> rfl
  · rename_i h; rw [decide_eq_false h]; rfl
theorem cat_false (d r : Int) (h : (d = 4 ∧ r = 1) ∨ ((d = 2 ∨ d = 20 ∨ d = 9) ∧ r = 2) ∨ (d ≠ 4 ∧ d ≠ 2 ∧ d ≠ 20 ∧ d ≠ 9 ∧ 1 ≤ d ∧ d ≤ 22 ∧ r = 3) ∨ (¬ (1 ≤ d ∧ d ≤ 22) ∧ r = 0)) : r = catOf d false := by
  unfold catOf
  simp only [and_true]
  (repeat' split) <;> omega
theorem cat_true (d r : Int) (h : (d = 4 ∧ r = 1) ∨ ((d = 2 ∨ d = 20) ∧ r = 2) ∨ (d ≠ 4 ∧ d ≠ 2 ∧ d ≠ 20 ∧ 1 ≤ d ∧ d ≤ 22 ∧ r = 3) ∨ (¬ (1 ≤ d ∧ d ≤ 22) ∧ r = 0)) : r = catOf d true := by
  unfold catOf
  simp only [Bool.true_eq_false, and_false, or_false]
  (repeat' split) <;> omega
end Hs
