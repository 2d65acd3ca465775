/- What '[]byte(s)' leaves: a slice of the bytes in a new row. Conditions: the length is bounded. -/
import Derived.Test.YtimfngfimnapoaaBytes
import Derived.Laws.IdiomStrings
namespace Go.Proofs.Ytimfngfimnapoaa
open Go.RowKit Hs
set_option linter.unusedSimpArgs false
set_option linter.unusedVariables false

theorem byts_conv (w : World) (X : ByteArray) (l : Bs) (hX : un X = l) (hm : X.size ≤ maxLen) :
    Byts (w.drew.alloc (.cells (bytesRow X (grownCap w X.size 0 5)) 5 ((bytesRow X (grownCap w X.size 0 5)).size, (bytesRow X (grownCap w X.size 0 5)).size + 1)))
      (.slice (some ⟨w.heap.size, 0, none⟩) X.size (grownCap w X.size 0 5)) l := by
  subst hX
  have hl : X.size = (un X).length := (length_un X).symm
  have hg := grownCap_ge w X.size 0 5
  have hg2 := grownCap_le_maxLen w X.size 0 5 hm
  refine ⟨by simp, _, _, ?_, hl ▸ hg, hg2, .inr ⟨w.heap.size, 0, rfl, by simp, fun j u hj => ?_⟩⟩
  · rw [hl]
  · have hjl : j < X.data.size := by
      have := (List.getElem?_eq_some_iff.1 hj).1
      rw [length_bcells, ← hl] at this
      exact this
    rw [Nat.zero_add]
    have h2 := World.cell?_alloc_mark w.drew (bytesRow X (grownCap w X.size 0 5)) 5 ((bytesRow X (grownCap w X.size 0 5)).size, (bytesRow X (grownCap w X.size 0 5)).size + 1) j
    refine h2.trans ?_
    rw [bytesRow_at X _ j hjl, ← hj]
    simp [bcells, un]
    rw [Array.getElem?_eq_getElem hjl]; rfl
theorem below_conv (w : World) (X : ByteArray) : Below w.heap.size w (w.drew.alloc (.cells (bytesRow X (grownCap w X.size 0 5)) 5 ((bytesRow X (grownCap w X.size 0 5)).size, (bytesRow X (grownCap w X.size 0 5)).size + 1))) :=
  (Below.refl _ w).drew.alloc (Nat.le_refl _) _
end Go.Proofs.Ytimfngfimnapoaa
