/- Plain law of layer 10: spellings of an address in the bases 8, 10 and 16 are read as this address. No program in sight. Conditions: none. -/
import Derived.Test.YtblcgicgbindlaaDoorPlainDigs
import Derived.Test.YtblcgicgbindlaaDoorPlainIpv4R
namespace Hs
open Go
set_option linter.unusedVariables false
set_option linter.unusedSimpArgs false

/-- A number in a base, with a prefix for the bases 8 and 16. -/
def spell (b n : Nat) : Bs := if b = 8 then 48 :: digsN 8 n else if b = 16 then 48 :: 88 :: digsN 16 n else digsN 10 n
theorem digV46 : digV 46 = 99 := by decide
theorem spell_no46 (b n : Nat) : ∀ x ∈ spell b n, x ≠ 46 := by
  intro x hx
  unfold spell at hx
  split at hx
  · rcases List.mem_cons.1 hx with rfl | hx
    · decide
    · exact digs_no 8 (by decide) (by decide) n 46 digV46 x hx
  · split at hx
    · rcases List.mem_cons.1 hx with rfl | hx
      · decide
      · rcases List.mem_cons.1 hx with rfl | hx
        · decide
        · exact digs_no 16 (by decide) (by decide) n 46 digV46 x hx
    · exact digs_no 10 (by decide) (by decide) n 46 digV46 x hx
theorem spell_ne (b n : Nat) : spell b n ≠ [] := by
  unfold spell
  split
  · simp
  · split
    · simp
    · exact digsN_ne 10 n
theorem hexP_oct (n : Nat) : hexP (48 :: digsN 8 n) = false := by
  have h1 := digs_no 8 (by decide) (by decide) n 120 (by decide)
  have h2 := digs_no 8 (by decide) (by decide) n 88 (by decide)
  cases hd : digsN 8 n with
  | nil => rfl
  | cons d r =>
    rw [hd] at h1 h2
    exact decide_eq_false (by rintro ⟨_, h | h⟩; exact h1 d (List.mem_cons_self ..) h; exact h2 d (List.mem_cons_self ..) h)
theorem numP_spell (b n : Nat) (h : n ≤ 1099511627776) : numP (spell b n) = (n, true) := by
  unfold spell
  split
  · unfold numP
    have hl : 0 < (digsN 8 n).length := List.length_pos_iff.2 (digsN_ne 8 n)
    rw [if_neg (by simp), hexP_oct, if_neg (by decide), if_pos ⟨by simp; omega, rfl⟩]
    exact numB_digs 8 (by decide) (by decide) n h
  · split
    · unfold numP
      have hx : hexP (48 :: 88 :: digsN 16 n) = true := rfl
      rw [if_neg (by simp), hx, if_pos rfl]
      exact numB_digs 16 (by decide) (by decide) n h
    · rw [digs_ten (n + 1) n (by omega)]
      exact numP_dec n h
theorem oct_dig (n : Nat) : (digsN 8 n).all isDigit = true := by
  rw [List.all_eq_true]
  intro x hx
  rw [← digV_lt]
  exact decide_eq_true (by have := digs_digV 8 (by decide) (by decide) n x hx; omega)
theorem numericV_spell (l : Bs) (b n : Nat) (h : (partsD l).getLast? = some (spell b n)) (hn : n ≤ 1099511627776) : numericV l = true := by
  unfold numericV
  rw [h]
  simp only [Option.getD_some]
  rw [numP_spell b n hn, num_ten]
  unfold spell
  split
  · rw [hexP_oct]
    have : ((48 : UInt8) :: digsN 8 n).all isDigit = true := by rw [List.all_cons, oct_dig]; rfl
    rw [this]; rfl
  · split
    · rfl
    · rw [digs_ten (n + 1) n (by omega), hexP_dec, decDigits_all]
      cases he : (Lib.decDigits n).isEmpty
      · rfl
      · exact absurd (by simpa using he) (decDigits_ne n)
theorem joinD_snoc (c : UInt8) (x : Bs) : ∀ (A : List Bs), A ≠ [] → joinD c (A ++ [x]) = joinD c A ++ c :: x
  | [], h => absurd rfl h
  | [p], _ => rfl
  | p :: q :: r, _ => by
    have ih := joinD_snoc c x (q :: r) (by simp)
    show p ++ c :: joinD c (q :: r ++ [x]) = (p ++ c :: joinD c (q :: r)) ++ c :: x
    rw [ih]; simp
theorem split_joinD (c : UInt8) : ∀ (A : List Bs), A ≠ [] → (∀ a ∈ A, ∀ x ∈ a, x ≠ c) → splitD c (joinD c A) = A
  | [], h, _ => absurd rfl h
  | [p], _, h => splitD_none c p (h p (by simp))
  | p :: q :: r, _, h => by
    show splitD c (p ++ c :: joinD c (q :: r)) = _
    rw [splitD_at c _ p (h p (by simp)), split_joinD c (q :: r) (by simp) (fun a ha => h a (List.mem_cons_of_mem _ ha))]
theorem parts_join (A : List Bs) (p : Bs) (h : ∀ a ∈ A ++ [p], ∀ x ∈ a, x ≠ 46) (hp : p ≠ []) : partsD (joinD 46 (A ++ [p])) = A ++ [p] :=
  partsD_of _ _ _ (split_joinD 46 _ (by simp) h) hp
theorem parts_join_dot (A : List Bs) (p : Bs) (h : ∀ a ∈ A ++ [p], ∀ x ∈ a, x ≠ 46) : partsD (joinD 46 (A ++ [p]) ++ [46]) = A ++ [p] := by
  refine partsD_dot _ _ _ ?_
  have e : joinD 46 (A ++ [p]) ++ [46] = joinD 46 ((A ++ [p]) ++ [[]]) := (joinD_snoc 46 [] _ (by simp)).symm
  rw [e]
  refine split_joinD 46 _ (by simp) ?_
  intro a ha
  rcases List.mem_append.1 ha with ha | ha
  · exact h a ha
  · simp at ha; subst ha; simp
/-- The number of the part i of n parts. -/
def partN (v n i : Nat) : Nat := if i + 1 = n then v % 2 ^ (32 - 8 * i) else v / 2 ^ (24 - 8 * i) % 256
/-- The spellings of the first k parts. -/
def spells (f : Nat → Nat) (v n : Nat) : Nat → List Bs
  | 0 => []
  | k + 1 => spells f v n k ++ [spell (f k) (partN v n k)]
theorem spells_len (f : Nat → Nat) (v n : Nat) : ∀ k, (spells f v n k).length = k
  | 0 => rfl
  | k + 1 => by rw [spells, List.length_append, spells_len f v n k]; rfl
theorem spells_no46 (f : Nat → Nat) (v n : Nat) : ∀ k, ∀ a ∈ spells f v n k, ∀ x ∈ a, x ≠ 46
  | 0, a, h => by simp [spells] at h
  | k + 1, a, h => by
    rcases List.mem_append.1 h with h | h
    · exact spells_no46 f v n k a h
    · simp at h; subst h; exact spell_no46 _ _
theorem partN_le (v n i : Nat) (hv : v < 4294967296) : partN v n i ≤ 1099511627776 := by
  unfold partN
  split
  · exact Nat.le_trans (Nat.mod_le _ _) (by omega)
  · have := Nat.mod_lt (v / 2 ^ (24 - 8 * i)) (by decide : 256 > 0); omega
theorem nums_spells (f : Nat → Nat) (v n : Nat) (hn : 1 ≤ n) (h4 : n ≤ 4) (hv : v < 4294967296) (l : Bs) (hl : partsD l = spells f v n n) : numsV l = (v, true) := by
  have hp : ∀ b i, numP (spell b (partN v n i)) = (partN v n i, true) := fun b i => numP_spell b _ (partN_le v n i hv)
  unfold numsV
  rw [hl, spells_len, if_pos h4]
  rcases (by omega : n = 1 ∨ n = 2 ∨ n = 3 ∨ n = 4) with rfl | rfl | rfl | rfl <;>
    simp only [spells, List.nil_append, List.cons_append, numF, hp, Nat.reduceSub, Nat.reduceMul, Nat.reducePow, true_and]
  · have e : partN v 1 0 = v := by simp [partN]; omega
    rw [e, if_pos (by omega)]; simp [optV]
  · have e0 : partN v 2 0 = v / 16777216 % 256 := rfl
    have e1 : partN v 2 1 = v % 16777216 := rfl
    rw [e0, e1, if_pos (by omega), if_pos (by omega)]
    have : (0 * 256 + v / 16777216 % 256) * 16777216 + v % 16777216 = v := by omega
    rw [this]; rfl
  · have e0 : partN v 3 0 = v / 16777216 % 256 := rfl
    have e1 : partN v 3 1 = v / 65536 % 256 := rfl
    have e2 : partN v 3 2 = v % 65536 := rfl
    rw [e0, e1, e2, if_pos (by omega), if_pos (by omega), if_pos (by omega)]
    have : ((0 * 256 + v / 16777216 % 256) * 256 + v / 65536 % 256) * 65536 + v % 65536 = v := by omega
    rw [this]; rfl
  · have e0 : partN v 4 0 = v / 16777216 % 256 := rfl
    have e1 : partN v 4 1 = v / 65536 % 256 := rfl
    have e2 : partN v 4 2 = v / 256 % 256 := rfl
    have e3 : partN v 4 3 = v % 256 := rfl
    rw [e0, e1, e2, e3, if_pos (by omega), if_pos (by omega), if_pos (by omega), if_pos (by omega)]
    have : (((0 * 256 + v / 16777216 % 256) * 256 + v / 65536 % 256) * 256 + v / 256 % 256) * 256 + v % 256 = v := by omega
    rw [this]; rfl
theorem spell_len (b n : Nat) (h : n < 4294967296) : (spell b n).length ≤ 40 := by
  have h8 := digs_len 8 (by decide) 32 n (by omega) (by decide)
  have h10 := digs_len 10 (by decide) 32 n (by omega) (by decide)
  have h16 := digs_len 16 (by decide) 32 n (by omega) (by decide)
  unfold spell
  split
  · simp; omega
  · split
    · simp; omega
    · omega
theorem partN_lt (v n i : Nat) (hv : v < 4294967296) : partN v n i < 4294967296 := by
  unfold partN
  split
  · exact Nat.lt_of_le_of_lt (Nat.mod_le _ _) hv
  · have := Nat.mod_lt (v / 2 ^ (24 - 8 * i)) (by decide : 256 > 0); omega
theorem spells_joined_len (f : Nat → Nat) (v n : Nat) (hv : v < 4294967296) : ∀ k, (joinD 46 (spells f v n k)).length ≤ 41 * k
  | 0 => by simp [spells, joinD]
  | k + 1 => by
    have ih := spells_joined_len f v n hv k
    have hs := spell_len (f k) (partN v n k) (partN_lt v n k hv)
    rw [spells]
    cases k with
    | zero => simp [spells, joinD]; omega
    | succ k =>
      rw [joinD_snoc 46 _ _ (by rw [spells]; simp)]
      simp; omega
/-- The base of a choice. -/
def baseOf (z : Int) : Nat := if z % 3 = 0 then 8 else if z % 3 = 1 then 10 else 16
theorem spells_first (f : Nat → Nat) (v n : Nat) : joinD 46 (spells f v n 1) = spell (f 0) (partN v n 0) := rfl
theorem spells_next (f : Nat → Nat) (v n k : Nat) (h : 0 < k) : joinD 46 (spells f v n (k + 1)) = joinD 46 (spells f v n k) ++ 46 :: spell (f k) (partN v n k) := by
  obtain ⟨k, rfl⟩ : ∃ j, k = j + 1 := ⟨k - 1, by omega⟩
  exact joinD_snoc 46 _ _ (by rw [spells]; simp)
/-- All that the law asks of the text. -/
theorem spells_read (f : Nat → Nat) (v n : Nat) (hn : 1 ≤ n) (h4 : n ≤ 4) (hv : v < 4294967296) :
    numsV (joinD 46 (spells f v n n)) = (v, true) ∧ numsV (joinD 46 (spells f v n n) ++ [46]) = (v, true) ∧ numericV (joinD 46 (spells f v n n)) = true := by
  obtain ⟨k, rfl⟩ : ∃ k, n = k + 1 := ⟨n - 1, by omega⟩
  have hno := spells_no46 f v (k + 1) (k + 1)
  have e1 : partsD (joinD 46 (spells f v (k + 1) (k + 1))) = spells f v (k + 1) (k + 1) := parts_join _ _ hno (spell_ne _ _)
  have e2 : partsD (joinD 46 (spells f v (k + 1) (k + 1)) ++ [46]) = spells f v (k + 1) (k + 1) := parts_join_dot _ _ hno
  refine ⟨nums_spells f v _ hn h4 hv _ e1, nums_spells f v _ hn h4 hv _ e2, numericV_spell _ (f k) (partN v (k + 1) k) ?_ (partN_le _ _ _ hv)⟩
  rw [e1, spells]; simp
end Hs
