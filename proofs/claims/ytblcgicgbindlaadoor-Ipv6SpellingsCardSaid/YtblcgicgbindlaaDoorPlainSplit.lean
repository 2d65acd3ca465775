/- A string divided at a byte: the plain function, its laws, and that the library's splitting at a separator of one byte is it. No program in sight. Conditions: none. -/
import Derived.Test.YtblcgicgbindlaaDoorPlainAscii
import Derived.Lib.SplitLaws
namespace Hs
open Go

/-- The parts between the bytes c. -/
def splitD (c : UInt8) : Bs → List Bs
  | [] => [[]]
  | b :: r => if b = c then [] :: splitD c r else match splitD c r with
    | h :: t => (b :: h) :: t
    | [] => [[b]]
theorem splitD_ne (c : UInt8) : ∀ l : Bs, splitD c l ≠ []
  | [] => by simp [splitD]
  | b :: r => by
    unfold splitD
    split
    · simp
    · split <;> simp
theorem splitD_none (c : UInt8) : ∀ a : Bs, (∀ x ∈ a, x ≠ c) → splitD c a = [a]
  | [], _ => rfl
  | b :: r, h => by
    have ih := splitD_none c r (fun x hx => h x (List.mem_cons_of_mem _ hx))
    unfold splitD
    rw [if_neg (h b (List.mem_cons_self ..)), ih]
theorem splitD_at (c : UInt8) (r : Bs) : ∀ a : Bs, (∀ x ∈ a, x ≠ c) → splitD c (a ++ c :: r) = a :: splitD c r
  | [], _ => by simp [splitD]
  | b :: a, h => by
    have ih := splitD_at c r a (fun x hx => h x (List.mem_cons_of_mem _ hx))
    rw [List.cons_append, splitD, if_neg (h b (List.mem_cons_self ..)), ih]
theorem splitK_one (c : UInt8) : ∀ l : Bs, Lib.splitK [c] 0 (Lib.count l [c]) l = splitD c l
  | [] => by
    have h : Lib.count [] [c] = 0 := by rw [Lib.count_one]; rfl
    rw [h]; rfl
  | b :: l => by
    have ih := splitK_one c l
    by_cases hb : b = c
    · subst hb
      rw [Lib.count_cons_eq, Nat.add_comm, Lib.splitK, splitD, if_pos rfl]
      have hix : Lib.index (b :: l) [b] = 0 := by rw [Lib.index]; simp
      rw [hix, if_neg (by decide)]
      simp only [Int.toNat_zero, List.length_singleton, Nat.zero_add, List.drop_succ_cons, List.drop_zero, Nat.add_zero, List.take_zero]
      rw [ih]
    · rw [Lib.count_cons_ne b c l hb, splitD, if_neg hb]
      have hp : ([c] : Bs).isPrefixOf (b :: l) = false := by
        simp only [List.isPrefixOf, Bool.and_true]
        exact beq_eq_false_iff_ne.2 (fun e => hb e.symm)
      have hix : Lib.index (b :: l) [c] = if Lib.index l [c] == -1 then -1 else Lib.index l [c] + 1 := by rw [Lib.index, hp]; simp
      rw [← ih]
      cases hn : Lib.count l [c] with
      | zero => rfl
      | succ k =>
        have hge := Lib.index_ge l [c]
        by_cases hm : Lib.index l [c] = -1
        · rw [Lib.splitK, Lib.splitK, hix, hm]; rfl
        · have e1 : ¬ (Lib.index l [c] == -1) = true := fun e => hm (beq_iff_eq.1 e)
          have e2 : ¬ (Lib.index (b :: l) [c] == -1) = true := fun e => by have := beq_iff_eq.1 e; rw [hix, if_neg e1] at this; omega
          have e3 : (Lib.index (b :: l) [c]).toNat = (Lib.index l [c]).toNat + 1 := by rw [hix, if_neg e1]; omega
          rw [Lib.splitK, Lib.splitK, if_neg e1, if_neg e2, e3]
          simp
theorem split_one (c : UInt8) (l : Bs) : Lib.split l [c] = splitD c l := splitK_one c l
end Hs
