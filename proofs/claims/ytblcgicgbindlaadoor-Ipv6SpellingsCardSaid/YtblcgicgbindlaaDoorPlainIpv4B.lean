/- Plain laws of layer 10: numbers that are too large. No program in sight. Conditions: none. -/
import Derived.Test.YtblcgicgbindlaaDoorPlainIpv4Q
namespace Hs
open Go

/-- The text "1." written m times. -/
def ones : Nat → Bs
  | 0 => []
  | m + 1 => ones m ++ [49, 46]
theorem split_ones : ∀ (m : Nat) (t : Bs), splitD 46 (ones m ++ t) = List.replicate m [49] ++ splitD 46 t
  | 0, t => rfl
  | m + 1, t => by
    have e : splitD 46 (49 :: 46 :: t) = [49] :: splitD 46 t := splitD_at 46 t [49] (by decide)
    rw [ones, List.append_assoc]
    show splitD 46 (ones m ++ (49 :: 46 :: t)) = _
    rw [split_ones m, e, List.replicate_succ']
    simp
theorem parts_ones (m : Nat) (t : Bs) (ht : t ≠ []) (h46 : ∀ x ∈ t, x ≠ 46) : partsD (ones m ++ t) = List.replicate m [49] ++ [t] :=
  partsD_of _ _ _ (by rw [split_ones, splitD_none 46 t h46]) ht
theorem hexP_digits (l : Bs) (h : l.all isDigit = true) : hexP l = false := by
  unfold hexP
  split
  · rename_i a b r
    simp only [List.all_cons, Bool.and_eq_true] at h
    have h2 := h.2.1
    apply decide_eq_false
    rintro ⟨_, rfl | rfl⟩ <;> exact absurd h2 (by decide)
  · rfl
theorem allB_digits (l : Bs) (h : l.all isDigit = true) : allB 10 l = true := by
  unfold allB
  rw [List.all_eq_true] at h ⊢
  intro x hx
  exact decide_eq_true (digV_of x (h x hx)).2
theorem numP_digits (l : Bs) (h : l.all isDigit = true) (hne : l ≠ []) (hl : 1 < l.length → l[0]? ≠ some 48) : numP l = (min (valV l 0) 1099511627776, true) := by
  unfold numP
  rw [if_neg hne, hexP_digits l h, if_neg (by decide), if_neg (fun h2 => hl h2.1 h2.2)]
  unfold numB
  rw [if_pos (allB_digits l h), satB_zero 10 (by decide), valB_val l _ h]
theorem numP_one : numP [49] = (1, true) := by rfl
theorem dec_two (x : Nat) (h : 10 ≤ x) : 1 < (Lib.decDigits x).length := by
  have e : Lib.decDigits x = Lib.decDigits (x / 10) ++ [UInt8.ofNat (48 + x % 10)] := by rw [Lib.decDigits, dif_neg (by omega)]
  have h6 := List.length_pos_iff.2 (decDigits_ne (x / 10))
  rw [e]
  simp
  exact h6
theorem big_digits (x k : Nat) : (Lib.decDigits x ++ List.replicate k 48).all isDigit = true := by
  rw [List.all_append, decDigits_all, Bool.true_and, List.all_eq_true]
  intro y hy
  rw [List.eq_of_mem_replicate hy]
  decide
theorem big_ge (x k : Nat) (hx : 256 ≤ x) : ∃ y, numP (Lib.decDigits x ++ List.replicate k 48) = (y, true) ∧ min x 1099511627776 ≤ y := by
  refine ⟨_, numP_digits _ (big_digits x k) (by simp [decDigits_ne]) (fun _ => ?_), ?_⟩
  · rw [List.getElem?_append_left (List.length_pos_iff.2 (decDigits_ne _))]
    exact dec_lead (x + 1) x (by omega) (dec_two x (by omega))
  · have h1 := valV_ge (List.replicate k 48) (valV (Lib.decDigits x) 0)
    rw [← valV_append, decDigits_val] at h1
    omega
theorem big_no46 (x k : Nat) : ∀ y ∈ Lib.decDigits x ++ List.replicate k 48, y ≠ 46 := fun y hy => isDigit_ne46 y (List.all_eq_true.1 (big_digits x k) y hy)
theorem nums_big (m x k F : Nat) (hm : m ≤ 3) (hF : F = 8 * (4 - m)) (hx : 2 ^ F ≤ x) : numsV (ones m ++ (Lib.decDigits x ++ List.replicate k 48)) = (0, false) := by
  have hF8 : 256 ≤ 2 ^ F := by
    have : 2 ^ 8 ≤ 2 ^ F := Nat.pow_le_pow_right (by decide) (by omega)
    exact this
  have hF9 : 2 ^ F ≤ 1099511627776 := by
    have : 2 ^ F ≤ 2 ^ 40 := Nat.pow_le_pow_right (by decide) (by omega)
    exact this
  obtain ⟨y, hy, hge⟩ := big_ge x k (by omega)
  unfold numsV
  rw [parts_ones m _ (by simp [decDigits_ne]) (big_no46 x k)]
  have hno : ¬ y < 2 ^ F := by omega
  subst hF
  rcases (by omega : m = 0 ∨ m = 1 ∨ m = 2 ∨ m = 3) with rfl | rfl | rfl | rfl
  all_goals
    simp at hno
    simp [List.replicate, numF, numP_one, hy, Nat.not_lt.2 hno, optV]
theorem nums_least (m F : Nat) (hm : m ≤ 3) (hF : F = 8 * (4 - m)) : (numsV (ones m ++ Lib.decDigits (2 ^ F - 1))).2 = true := by
  have h := numP_dec (2 ^ F - 1) (by have : 2 ^ F ≤ 2 ^ 40 := Nat.pow_le_pow_right (by decide) (by omega)
                                     have e : (2 : Nat) ^ 40 = 1099511627776 := by decide
                                     omega)
  unfold numsV
  rw [parts_ones m _ (decDigits_ne _) (dec_no46 _)]
  subst hF
  rcases (by omega : m = 0 ∨ m = 1 ∨ m = 2 ∨ m = 3) with rfl | rfl | rfl | rfl
  all_goals
    simp at h
    simp [List.replicate, numF, numP_one, h, optV]
theorem nums_256 (m : Nat) (hm : m ≤ 3) : numsV ([50, 53, 54, 46] ++ (ones m ++ [49])) = (0, false) := by
  rcases (by omega : m = 0 ∨ m = 1 ∨ m = 2 ∨ m = 3) with rfl | rfl | rfl | rfl
  all_goals rfl
theorem ones_len (m : Nat) : (ones m).length = 2 * m := by
  induction m with
  | zero => rfl
  | succ m ih => rw [ones, List.length_append, ih]; simp; omega
end Hs
