/- Plain law of layer 10: the reference's test of the last part is the program's. No program in sight. Conditions: none. -/
import Derived.Test.YtblcgicgbindlaaDoorPlainIpv4B
namespace Hs
open Go

theorem digV_lt (b : UInt8) : decide (digV b < 10) = isDigit b := by
  cases h : isDigit b
  · apply decide_eq_false
    unfold isDigit at h
    simp at h
    unfold digV
    by_cases h1 : 48 ≤ b.toNat ∧ b.toNat ≤ 57
    · have := h h1.1; omega
    · rw [if_neg h1]
      split
      · omega
      · split <;> omega
  · exact decide_eq_true (digV_of b h).2
theorem allB_all (l : Bs) : allB 10 l = l.all isDigit := by
  unfold allB
  congr 1
  funext b
  exact digV_lt b
theorem num_ten (l : Bs) : (numB 10 l).2 = l.all isDigit := by
  unfold numB
  rw [allB_all]
  cases l.all isDigit <;> rfl
/-- The reference's test of a last part. -/
def lastR (p : Bs) : Bool := if digits p then true else (numP p).2 && decide (p[1]? = some 120 ∨ p[1]? = some 88)
theorem lastR_eq (p : Bs) : lastR p = if hexP p then (numP p).2 else (numB 10 p).2 && !p.isEmpty := by
  unfold lastR
  rw [num_ten]
  cases hd : digits p
  · match p, hd with
    | [], _ => rfl
    | [a], hd => simp [digits] at hd; simp [hexP, hd]
    | a :: b :: r, hd =>
      by_cases hb : b = 120 ∨ b = 88
      · by_cases ha : a = 48
        · have : hexP (a :: b :: r) = true := by simp [hexP, ha, hb]
          rw [this]; simp [hb]
        · have h1 : hexP (a :: b :: r) = false := by simp [hexP, ha]
          have h2 : isDigit b = false := by rcases hb with rfl | rfl <;> decide
          have h3 : numP (a :: b :: r) = numB 10 (a :: b :: r) := by
            unfold numP
            rw [if_neg (by simp), h1, if_neg (by decide), if_neg (by simp [ha])]
          rw [h1, h3, num_ten]
          simp [h2]
      · have h1 : hexP (a :: b :: r) = false := by simp [hexP]; intro _; exact ⟨fun e => hb (.inl e), fun e => hb (.inr e)⟩
        rw [h1]
        unfold digits at hd
        simp only [List.isEmpty_cons, Bool.not_false, Bool.true_and] at hd
        rw [hd]
        simp
        intro _
        exact ⟨fun e => hb (.inl e), fun e => hb (.inr e)⟩
  · have h2 : p.all isDigit = true ∧ p.isEmpty = false := by
      unfold digits at hd
      simpa [and_comm] using hd
    rw [hexP_digits p h2.1, h2.1, h2.2]
    rfl
end Hs
