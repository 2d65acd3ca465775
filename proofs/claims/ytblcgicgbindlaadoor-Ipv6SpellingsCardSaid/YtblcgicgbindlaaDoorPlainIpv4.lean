/- Plain functions of the layer ipv4: digits of a base, numbers, and their laws. No program in sight. Conditions: none. -/
import Derived.Test.YtblcgicgbindlaaDoorPlainAscii
import Derived.Test.YtblcgicgbindlaaDoorPlainSplit
import Derived.Lib.ItoaNum
namespace Hs
open Go

/-- The value of a digit, or 99. -/
def digV (b : UInt8) : Nat := if 48 ≤ b.toNat ∧ b.toNat ≤ 57 then b.toNat - 48 else if 97 ≤ b.toNat ∧ b.toNat ≤ 102 then b.toNat - 87 else if 65 ≤ b.toNat ∧ b.toNat ≤ 70 then b.toNat - 55 else 99
/-- The number of digits, limited at every step to 2^40. -/
def satB (base : Nat) : Bs → Nat → Nat
  | [], n => n
  | b :: r, n => satB base r (min (n * base + digV b) 1099511627776)
/-- The number of digits. -/
def valB (base : Nat) : Bs → Nat → Nat
  | [], n => n
  | b :: r, n => valB base r (n * base + digV b)
theorem satB_min (base : Nat) (h : 1 ≤ base) : ∀ (l : Bs) (v : Nat), satB base l (min v 1099511627776) = min (valB base l v) 1099511627776
  | [], v => rfl
  | b :: r, v => by
    have ih := satB_min base h r (v * base + digV b)
    rw [satB, valB, ← ih]
    congr 1
    by_cases hv : v ≤ 1099511627776
    · rw [Nat.min_eq_left hv]
    · have e1 : 1099511627776 ≤ v * base := Nat.le_trans (by omega) (Nat.le_mul_of_pos_right v h)
      have e2 : 1099511627776 ≤ 1099511627776 * base := Nat.le_mul_of_pos_right _ h
      rw [Nat.min_eq_right (by omega : 1099511627776 ≤ v)]
      omega
theorem satB_zero (base : Nat) (h : 1 ≤ base) (l : Bs) : satB base l 0 = min (valB base l 0) 1099511627776 := satB_min base h l 0
theorem satB_snoc (base : Nat) : ∀ (l : Bs) (b : UInt8) (n : Nat), satB base (l ++ [b]) n = min (satB base l n * base + digV b) 1099511627776
  | [], b, n => rfl
  | c :: l, b, n => by simp only [List.cons_append, satB]; exact satB_snoc base l b _
theorem satB_take (base : Nat) (l : Bs) (k : Nat) (h : k < l.length) : satB base (l.take (k + 1)) 0 = min (satB base (l.take k) 0 * base + digV l[k]) 1099511627776 := by
  rw [List.take_succ_eq_append_getElem h, satB_snoc]
theorem satB_le (base : Nat) (h : 1 ≤ base) (l : Bs) : satB base l 0 ≤ 1099511627776 := by rw [satB_zero base h]; omega
/-- All bytes are digits of the base. -/
def allB (base : Nat) (l : Bs) : Bool := l.all fun b => decide (digV b < base)
/-- The number that digits of a base denote. -/
def numB (base : Nat) (l : Bs) : Nat × Bool := if allB base l then (satB base l 0, true) else (0, false)
/-- A part begins like a hexadecimal number. -/
def hexP (l : Bs) : Bool := match l with
  | a :: b :: _ => decide (a = 48 ∧ (b = 120 ∨ b = 88))
  | _ => false
/-- The number that a part denotes. -/
def numP (l : Bs) : Nat × Bool :=
  if l = [] then (0, false)
  else if hexP l then numB 16 (l.drop 2)
  else if 1 < l.length ∧ l[0]? = some 48 then numB 8 (l.drop 1)
  else numB 10 l
/-- The parts of a name, a last one that is empty left out. -/
def partsD (l : Bs) : List Bs := if 1 < (splitD 46 l).length ∧ (splitD 46 l).getLast? = some [] then (splitD 46 l).dropLast else splitD 46 l
theorem numB_le (base : Nat) (h : 1 ≤ base) (l : Bs) : (numB base l).1 ≤ 1099511627776 := by
  unfold numB
  split
  · exact satB_le base h l
  · exact Nat.zero_le _
theorem numP_le (l : Bs) : (numP l).1 ≤ 1099511627776 := by
  unfold numP
  split
  · exact Nat.zero_le _
  · split
    · exact numB_le 16 (by decide) _
    · split
      · exact numB_le 8 (by decide) _
      · exact numB_le 10 (by decide) _
end Hs
