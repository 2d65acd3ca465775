/- Plain functions of the layer seconds: periods, points in time; decimal digits; and their laws. No program in sight. Conditions: none. -/
import Derived.Test.YtblcgicgbindlaaDoorPlainAscii
import Derived.Lib.ItoaNum
namespace Hs
open Go

/-- The number of digits, limited at every step to 2147483647. -/
def satV : Bs → Nat → Nat
  | [], n => n
  | b :: r, n => satV r (min (10 * n + (b.toNat - 48)) 2147483647)
/-- The number of digits. -/
def valV : Bs → Nat → Nat
  | [], n => n
  | b :: r, n => valV r (10 * n + (b.toNat - 48))
theorem satV_min : ∀ (l : Bs) (v : Nat), satV l (min v 2147483647) = min (valV l v) 2147483647
  | [], v => rfl
  | b :: r, v => by
    have ih := satV_min r (10 * v + (b.toNat - 48))
    rw [satV, valV, ← ih]
    congr 1
    omega
theorem satV_zero (l : Bs) : satV l 0 = min (valV l 0) 2147483647 := satV_min l 0
theorem satV_le (l : Bs) : satV l 0 ≤ 2147483647 := by rw [satV_zero]; omega
theorem satV_snoc : ∀ (l : Bs) (b : UInt8) (n : Nat), satV (l ++ [b]) n = min (10 * satV l n + (b.toNat - 48)) 2147483647
  | [], b, n => rfl
  | c :: l, b, n => by
    simp only [List.cons_append, satV]
    exact satV_snoc l b _
theorem satV_take (l : Bs) (k : Nat) (h : k < l.length) : satV (l.take (k + 1)) 0 = min (10 * satV (l.take k) 0 + (l[k].toNat - 48)) 2147483647 := by
  rw [List.take_succ_eq_append_getElem h, satV_snoc]
theorem valV_append : ∀ (a b : Bs) (n : Nat), valV (a ++ b) n = valV b (valV a n)
  | [], b, n => rfl
  | c :: a, b, n => by simp only [List.cons_append, valV]; exact valV_append a b _
theorem valV_ge : ∀ (l : Bs) (n : Nat), n ≤ valV l n
  | [], n => Nat.le_refl _
  | b :: r, n => by
    have := valV_ge r (10 * n + (b.toNat - 48))
    simp only [valV]; omega

/-- What Parse of seconds returns. -/
def secR (l : Bs) : Nat × Bool := if l.all isDigit then (satV l 0, !l.isEmpty) else (0, false)
theorem secR_digits (l : Bs) : secR l = if digits l then (satV l 0, true) else (0, false) := by
  unfold secR digits
  cases h : l.all isDigit
  · simp
  · cases l with
    | nil => rfl
    | cons b r => simp

/-! ### Decimal digits -/
theorem digit_byte (d : Nat) (h : d < 10) : isDigit (UInt8.ofNat (48 + d)) = true ∧ (UInt8.ofNat (48 + d)).toNat - 48 = d := by
  have e : (UInt8.ofNat (48 + d)).toNat = 48 + d := by simp; omega
  refine ⟨decide_eq_true (by omega), by omega⟩
theorem decDigits_all (u : Nat) : (Lib.decDigits u).all isDigit = true := by
  rw [Lib.decDigits]
  split
  · rename_i h
    show (isDigit (UInt8.ofNat (48 + u)) && true) = true
    rw [(digit_byte u h).1]; rfl
  · rename_i h
    rw [List.all_append, decDigits_all (u / 10)]
    show (true && (isDigit (UInt8.ofNat (48 + u % 10)) && true)) = true
    rw [(digit_byte (u % 10) (by omega)).1]; rfl
termination_by u
decreasing_by omega
theorem decDigits_ne (u : Nat) : Lib.decDigits u ≠ [] := by
  rw [Lib.decDigits]
  split <;> simp
theorem decDigits_val (u : Nat) : valV (Lib.decDigits u) 0 = u := by
  rw [Lib.decDigits]
  split
  · rename_i h
    simp only [valV, (digit_byte u h).2]; omega
  · rename_i h
    rw [valV_append, decDigits_val (u / 10)]
    simp only [valV, (digit_byte (u % 10) (by omega)).2]; omega
termination_by u
decreasing_by omega
theorem decDigits_len (u : Nat) (h : u ≤ 9999999999) : (Lib.decDigits u).length ≤ 10 := by
  have step : ∀ (k u : Nat), 0 < k → u < 10 ^ k → (Lib.decDigits u).length ≤ k := by
    intro k
    induction k with
    | zero => intro u h; omega
    | succ k ih =>
      intro u _ hu
      rw [Lib.decDigits]
      split
      · simp
      · rename_i h10
        have hk : 0 < k := by
          rcases Nat.eq_zero_or_pos k with rfl | h
          · simp at hu; omega
          · exact h
        have := ih (u / 10) hk (by rw [Nat.pow_succ] at hu; omega)
        simp; omega
  exact step 10 u (by omega) (by omega)
theorem secR_dec (u : Nat) : secR (Lib.decDigits u) = (min u 2147483647, true) := by
  unfold secR
  rw [if_pos (decDigits_all u), satV_zero, decDigits_val]
  have := decDigits_ne u
  simp [this]
theorem secR_zeros_dec (u : Nat) : secR ([48, 48, 48] ++ Lib.decDigits u) = (min u 2147483647, true) := by
  unfold secR
  have h : ([48, 48, 48] ++ Lib.decDigits u).all isDigit = true := by rw [List.all_append, decDigits_all u]; decide
  rw [if_pos h, satV_zero, valV_append]
  have e : valV [48, 48, 48] 0 = 0 := by decide
  rw [e, decDigits_val]
  simp
theorem secR_le (l : Bs) : (secR l).1 ≤ 2147483647 := by
  unfold secR
  split
  · exact satV_le l
  · simp

/-- A number limited to a range from 0. -/
def lim (n m : Int) : Int := min (max n 0) m
def MaxT : Int := 1099511627776
def MaxA : Int := 2147483647
def expiryV (now age : Int) : Int := min (lim now MaxT + lim age MaxA) MaxT
end Hs
