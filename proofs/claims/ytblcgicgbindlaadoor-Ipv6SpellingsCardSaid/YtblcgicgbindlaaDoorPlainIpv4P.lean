/- Plain laws of parts of a name, of addresses read and written. No program in sight. Conditions: none. -/
import Derived.Test.YtblcgicgbindlaaDoorPlainIpv4
namespace Hs
open Go

theorem splitD_len (c : UInt8) : ∀ (l : Bs), ∀ x ∈ splitD c l, x.length ≤ l.length
  | [], x, hx => by simp [splitD] at hx; simp [hx]
  | b :: r, x, hx => by
    have ih := splitD_len c r
    unfold splitD at hx
    split at hx
    · rcases List.mem_cons.1 hx with rfl | h
      · simp
      · have := ih x h; simp; omega
    · split at hx
      · rename_i h t he
        rcases List.mem_cons.1 hx with rfl | h2
        · have := ih h (by rw [he]; simp); simp; omega
        · have := ih x (by rw [he]; exact List.mem_cons_of_mem _ h2); simp; omega
      · simp at hx; subst hx; simp
theorem partsD_mem {l x : Bs} (h : x ∈ partsD l) : x ∈ splitD 46 l := by
  unfold partsD at h
  split at h
  · exact (List.dropLast_sublist _).subset h
  · exact h
theorem partsD_len (l : Bs) : ∀ x ∈ partsD l, x.length ≤ l.length := fun x h => splitD_len 46 l x (partsD_mem h)
theorem splitD_pos (l : Bs) : 0 < (splitD 46 l).length := List.length_pos_iff.2 (splitD_ne 46 l)
theorem partsD_pos (l : Bs) : 0 < (partsD l).length := by
  have := splitD_pos l
  unfold partsD
  split
  · rw [List.length_dropLast]; omega
  · exact this
/-- The number of a part in strict form. -/
def strN (p : Bs) : Option Nat := if (numB 10 p).2 = true ∧ (numB 10 p).1 ≤ 255 ∧ Lib.decDigits (numB 10 p).1 = p then some (numB 10 p).1 else none
theorem strN_le {p : Bs} {n : Nat} (h : strN p = some n) : n ≤ 255 := by
  unfold strN at h
  split at h
  · rename_i h2; cases h; exact h2.2.1
  · cases h
/-- The address of parts in strict form, behind a number. -/
def strF : List Bs → Nat → Option Nat
  | [], v => some v
  | p :: r, v => match strN p with
    | some n => strF r (v * 256 + n)
    | none => none
/-- A result as the program hands it back. -/
def optV : Option Nat → Nat × Bool
  | some v => (v, true)
  | none => (0, false)
/-- The address of a strict form. -/
def parseV (l : Bs) : Nat × Bool := if (splitD 46 l).length = 4 then optV (strF (splitD 46 l) 0) else (0, false)
/-- The number of parts: the last takes the free places. -/
def numF (free : Nat) : List Bs → Nat → Option Nat
  | [], v => some v
  | [p], v => if (numP p).2 = true ∧ (numP p).1 < 2 ^ free then some (v * 2 ^ free + (numP p).1) else none
  | p :: q :: r, v => if (numP p).2 = true ∧ (numP p).1 ≤ 255 then numF free (q :: r) (v * 256 + (numP p).1) else none
/-- The address that numbers denote. -/
def numsV (l : Bs) : Nat × Bool := if (partsD l).length ≤ 4 then optV (numF (8 * (5 - (partsD l).length)) (partsD l) 0) else (0, false)
/-- Whether a name is an address or not valid. -/
def numericV (l : Bs) : Bool :=
  let p := ((partsD l).getLast?).getD []
  if hexP p then (numP p).2 else (numB 10 p).2 && !p.isEmpty
/-- The text of an address. -/
def fmtV (v : Nat) : Bs := Lib.decDigits (v / 16777216 % 256) ++ 46 :: (Lib.decDigits (v / 65536 % 256) ++ 46 :: (Lib.decDigits (v / 256 % 256) ++ 46 :: Lib.decDigits (v % 256)))
end Hs
