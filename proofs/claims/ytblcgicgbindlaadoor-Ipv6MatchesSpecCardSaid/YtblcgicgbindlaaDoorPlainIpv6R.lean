/- Plain laws of the reference of layer 11: how it fills an address and writes a text. No program in sight. Conditions: none. -/
import Derived.Test.YtblcgicgbindlaaDoorPlainIpv6S
namespace Hs
open Go
set_option linter.unusedVariables false
set_option linter.unusedSimpArgs false

/-! ### Filling an address -/
/-- The list A, its places from o on filled with the first k of y. -/
def fillAt (A : List Nat) (o : Nat) (y : List Nat) (k : Nat) : List Nat := A.take o ++ (y.take k ++ A.drop (o + k))
theorem fillAt_zero (A : List Nat) (o : Nat) (y : List Nat) : fillAt A o y 0 = A := by simp [fillAt]
theorem fillAt_step (A : List Nat) (o : Nat) (y : List Nat) (k : Nat) (hk : k < y.length) (ho : o + k < A.length) : (fillAt A o y k).set (o + k) y[k] = fillAt A o y (k + 1) := by
  have hd : A.drop (o + k) = A[o + k] :: A.drop (o + k + 1) := List.drop_eq_getElem_cons ho
  have hA : (A.take o ++ y.take k).length = o + k := by rw [List.length_append, List.length_take, List.length_take]; omega
  have e1 : fillAt A o y k = (A.take o ++ y.take k) ++ A[o + k] :: A.drop (o + k + 1) := by rw [fillAt, ← List.append_assoc, hd]
  have e2 := set_at (A.take o ++ y.take k) (A.drop (o + k + 1)) A[o + k] y[k]
  rw [hA, ← e1] at e2
  rw [e2]
  unfold fillAt
  rw [List.take_succ_eq_append_getElem hk, List.append_assoc, List.append_assoc]
  rfl
theorem fillAt_len (A : List Nat) (o : Nat) (y : List Nat) (k : Nat) (hk : k ≤ y.length) (ho : o + k ≤ A.length) : (fillAt A o y k).length = A.length := by
  unfold fillAt
  simp
  omega
def zs8 : List Nat := [0, 0, 0, 0, 0, 0, 0, 0]
theorem zs8_drop (k : Nat) : zs8.drop k = List.replicate (8 - k) 0 := by
  show (List.replicate 8 0).drop k = _
  rw [List.drop_replicate]
theorem fill_first (x : List Nat) (h : x.length ≤ 8) : fillAt zs8 0 x x.length = x ++ List.replicate (8 - x.length) 0 := by
  unfold fillAt
  rw [List.take_zero, List.take_length, Nat.zero_add, zs8_drop]
  rfl
theorem fill_eight (x : List Nat) (h : x.length = 8) : fillAt zs8 0 x 8 = x := by
  have := fill_first x (by omega)
  rw [h] at this
  rw [this]; simp
theorem fill_second (x y : List Nat) (h : x.length + y.length ≤ 8) : fillAt (x ++ List.replicate (8 - x.length) 0) (8 - y.length) y y.length = x ++ (List.replicate (8 - x.length - y.length) 0 ++ y) := by
  unfold fillAt
  rw [List.take_length, List.drop_of_length_le (by simp; omega), List.append_nil, List.take_append, List.take_of_length_le (by omega), List.take_replicate, List.append_assoc]
  congr 3
  omega
/-! ### Writing a text -/
/-- What is written before group k: the groups from fr on, n of them, are left out. -/
def outR (l : List Nat) (fr n k : Nat) : Bs := if k ≤ fr then join6 (l.take k) else (join6 (l.take fr) ++ [58, 58]) ++ join6 ((l.drop (fr + n)).take (k - (fr + n)))
theorem sepJ (P : Bs) (m : List Nat) (g : Nat) (hP : P = [] ∨ P.getLast? = some 58) : P ++ join6 (m ++ [g]) = (P ++ join6 m) ++ ((if P ++ join6 m ≠ [] ∧ (P ++ join6 m).getLast? ≠ some 58 then [58] else []) ++ hexT g) := by
  cases m with
  | nil =>
    have e : join6 [] = [] := rfl
    have e1 : join6 ([] ++ [g]) = hexT g := rfl
    rw [e, e1, List.append_nil, if_neg]
    · rfl
    · rintro ⟨h1, h2⟩
      rcases hP with h | h
      · exact h1 h
      · exact h2 h
  | cons a m =>
    obtain ⟨c, hc, h58⟩ := join6_last (a :: m) (by simp)
    have hl : (P ++ join6 (a :: m)).getLast? = some c := by rw [List.getLast?_append, hc]; rfl
    have hne : P ++ join6 (a :: m) ≠ [] := by
      intro e
      rw [e] at hl
      cases hl
    rw [if_pos ⟨hne, by rw [hl]; intro e; exact h58 (Option.some.inj e)⟩, join6_snoc _ _ (by simp)]
    simp
theorem outR_step (l : List Nat) (fr n k : Nat) (hk : k < l.length) (hc : k < fr ∨ (fr + n ≤ k ∧ fr < k)) : outR l fr n (k + 1) = outR l fr n k ++ ((if outR l fr n k ≠ [] ∧ (outR l fr n k).getLast? ≠ some 58 then [58] else []) ++ hexT l[k]) := by
  rcases hc with hc | ⟨hc, hc2⟩
  · have e1 : outR l fr n (k + 1) = [] ++ join6 (l.take k ++ [l[k]]) := by
      unfold outR
      rw [if_pos (by omega), List.take_succ_eq_append_getElem hk]
      rfl
    have e2 : outR l fr n k = [] ++ join6 (l.take k) := by
      unfold outR
      rw [if_pos (by omega)]
      rfl
    rw [e1, e2]
    exact sepJ [] _ _ (.inl rfl)
  · have hkd : k - (fr + n) < (l.drop (fr + n)).length := by rw [List.length_drop]; omega
    have e1 : outR l fr n (k + 1) = (join6 (l.take fr) ++ [58, 58]) ++ join6 ((l.drop (fr + n)).take (k - (fr + n)) ++ [l[k]]) := by
      unfold outR
      rw [if_neg (by omega), show k + 1 - (fr + n) = k - (fr + n) + 1 by omega, List.take_succ_eq_append_getElem hkd, List.getElem_drop]
      simp only [show fr + n + (k - (fr + n)) = k by omega]
    have e2 : outR l fr n k = (join6 (l.take fr) ++ [58, 58]) ++ join6 ((l.drop (fr + n)).take (k - (fr + n))) := by
      unfold outR
      rw [if_neg (by omega)]
    rw [e1, e2]
    exact sepJ _ _ _ (.inr (by rw [List.getLast?_append]; rfl))
theorem outR_gap (l : List Nat) (fr n : Nat) (hn : 0 < n) : outR l fr n (fr + n) = outR l fr n fr ++ [58, 58] := by
  unfold outR
  rw [if_neg (by omega), if_pos (Nat.le_refl _), Nat.sub_self, List.take_zero]
  show _ ++ [] = _
  rw [List.append_nil]
theorem outR_zero (l : List Nat) (fr n : Nat) : outR l fr n 0 = [] := by
  unfold outR
  rw [if_pos (by omega)]
  rfl
theorem outR_len (l : List Nat) (fr n k : Nat) (hl : ∀ x ∈ l, x < 65536) (h8 : l.length = 8) : (outR l fr n k).length ≤ 82 := by
  unfold outR
  split
  · have := join6_len (l.take k) (fun x hx => hl x (List.mem_of_mem_take hx))
    rw [List.length_take] at this
    omega
  · have h1 := join6_len (l.take fr) (fun x hx => hl x (List.mem_of_mem_take hx))
    have h2 := join6_len ((l.drop (fr + n)).take (k - (fr + n))) (fun x hx => hl x (List.mem_of_mem_drop (List.mem_of_mem_take hx)))
    rw [List.length_take] at h1 h2
    rw [List.length_drop] at h2
    simp
    omega
/-- The two ways of writing agree. -/
theorem outR_fmt (l : List Nat) (h8 : l.length = 8) : ∃ fr n : Nat, ∃ at' : Int, bestR l 0 (-1, 1) = (at', n) ∧ 1 ≤ n ∧ n ≤ 8 ∧ fr ≤ 8 ∧ ((fr = 8 ∧ at' = -1) ∨ (at' = (fr : Int) ∧ fr + n ≤ 8)) ∧ outR l fr n 8 = fmt6 l := by
  have hs := best_start l
  have hg := best_good l
  unfold fmt6 fmtZ
  generalize bestZ l 0 (0, 0) = z at hs hg
  have hg1 := hg.1
  rcases hs with ⟨h1, h2⟩ | ⟨h1, h2⟩
  · refine ⟨8, 1, -1, h2, by omega, by omega, by omega, .inl ⟨rfl, rfl⟩, ?_⟩
    unfold outR
    rw [if_pos (by omega), if_pos (by omega), List.take_of_length_le (by omega)]
  · refine ⟨z.1, z.2, (z.1 : Int), h2, by omega, by omega, by omega, .inr ⟨rfl, by omega⟩, ?_⟩
    unfold outR
    have e : (l.drop (z.1 + z.2)).take (8 - (z.1 + z.2)) = l.drop (z.1 + z.2) := List.take_of_length_le (by rw [List.length_drop]; omega)
    rw [if_neg (by omega), if_neg (by omega), e, List.append_assoc]
    rfl
end Hs
