/- Plain laws for the period of a policy: the number of the digits, limited. No program in sight. Conditions: none. -/
import Derived.Test.YtjdkmidajhbefaaDoorPlainDirM
import Derived.Test.YtjdkmidajhbefaaDoorPlainStsN
namespace Hs
open Go
/-- The digits of m ahead of those that have been written. -/
def addD (m : Nat) (s : Bs) : Bs := if m = 0 then (if s = [] then [48] else s) else Lib.decDigits m ++ s
theorem addD_step (m : Nat) (s : Bs) (h : 0 < m ∨ s = []) : addD m s = addD (m / 10) (UInt8.ofNat (48 + m % 10) :: s) := by
  unfold addD
  by_cases h0 : m = 0
  · subst h0
    have hs : s = [] := by rcases h with h | h
                           · omega
                           · exact h
    subst hs
    rfl
  · rw [if_neg h0]
    by_cases h10 : m < 10
    · rw [if_pos (by omega), if_neg (by simp), Lib.decDigits, dif_pos h10]
      have e : m % 10 = m := by omega
      rw [e]; rfl
    · rw [if_neg (by omega), Lib.decDigits, dif_neg h10]
      simp
theorem addD_start (k : Nat) : addD k [] = Lib.decDigits k := by
  unfold addD
  by_cases h : k = 0
  · subst h; rw [if_pos rfl, if_pos rfl, Lib.decDigits]; rfl
  · rw [if_neg h, List.append_nil]
theorem addD_end (s : Bs) (h : s ≠ []) : addD 0 s = s := by unfold addD; rw [if_pos rfl, if_neg h]
theorem addD_len (m : Nat) (s : Bs) : s.length ≤ (addD m s).length := by
  unfold addD
  split
  · split
    · rename_i h; rw [h]; simp
    · exact Nat.le_refl _
  · simp
theorem secR_zeros (j u : Nat) : secR (List.replicate j 48 ++ Lib.decDigits u) = (min u 2147483647, true) := by
  have hz : ∀ j : Nat, (List.replicate j (48 : UInt8)).all isDigit = true ∧ valV (List.replicate j 48) 0 = 0 := by
    intro j
    induction j with
    | zero => exact ⟨rfl, rfl⟩
    | succ j ih =>
      rw [List.replicate_succ]
      refine ⟨?_, ?_⟩
      · simp only [List.all_cons, ih.1, Bool.and_true]; decide
      · simp only [valV]; exact ih.2
  unfold secR
  rw [List.all_append, (hz j).1, decDigits_all u]
  rw [if_pos (show (true && true) = true from rfl), satV_zero, valV_append, (hz j).2, decDigits_val]
  have := decDigits_ne u
  simp [this]
theorem digit_tok (l : Bs) (h : l.all isDigit = true) : l.all isTok = true := by
  rw [List.all_eq_true] at h ⊢
  intro b hb
  have := of_decide_eq_true (h b hb)
  exact decide_eq_true (by omega)
theorem zeros_dec_all (j u : Nat) : (List.replicate j (48 : UInt8) ++ Lib.decDigits u).all isDigit = true := by
  rw [List.all_append, decDigits_all u, Bool.and_true, List.all_eq_true]
  intro b hb
  rw [List.mem_replicate] at hb
  rw [hb.2]; decide
theorem one_digit : ∀ d : Nat, d < 10 → un ((ByteArray.mk #[48, 49, 50, 51, 52, 53, 54, 55, 56, 57]).extract d (d + 1)) = [UInt8.ofNat (48 + d)] := by decide
/-- 'includeSubDomains' as it is written. -/
def incN : Bs := [105, 110, 99, 108, 117, 100, 101, 83, 117, 98, 68, 111, 109, 97, 105, 110, 115]
def satText (sub : Bool) (D : Bs) : Bs := if sub then incN ++ (59 :: (ageN ++ (61 :: D))) else ageN ++ (61 :: D)
theorem satText_parse (sub : Bool) (D : Bs) (hD : D.all isDigit = true) (hne : D ≠ []) (hl : D.length ≤ 4000) : parseD (satText sub D) = ((if sub then [(subN, [], false), (ageN, D, true)] else [(ageN, D, true)]), 0) := by
  have ht := digit_tok D hD
  have hS : tokenS D = true := by unfold tokenS; rw [ht]; simp [hne]
  have hv : validOne (ageN, D, true) = true := by
    have := tok_txt D ht
    simp [validOne, this, show tokenS ageN = true from by decide, show lower ageN = ageN from by decide]
  have htx : dirText (ageN, D, true) = ageN ++ (61 :: D) := by simp [dirText, valText, hS]
  have hage : ∀ acc : List Dir, acc.length < 32 → P (ageN ++ (61 :: D)) acc = (acc ++ [(ageN, D, true)], 0) := fun acc ha => by
    have := P_text (ageN, D, true) [] acc hv (.inl rfl) ha
    rw [List.append_nil, htx, P_nil] at this
    exact this
  cases sub
  · have e : satText false D = ageN ++ (61 :: D) := rfl
    rw [e, parseD_short _ (by simp [ageN]; omega)]
    exact hage [] (by simp)
  · have e : satText true D = incN ++ (59 :: (ageN ++ (61 :: D))) := rfl
    rw [e, parseD_short _ (by simp [ageN, incN]; omega)]
    have hb := elem_bare incN (59 :: (ageN ++ (61 :: D))) (by decide) (by decide) (.inr ⟨_, rfl⟩)
    have h0 := tok_head_at incN (59 :: (ageN ++ (61 :: D))) (by decide) (by decide)
    have h1 := P_elemO _ [] _ ⟨h0.1, h0.2.1, h0.2.2.2⟩ hb (by simp)
    rw [List.drop_left, P_semi] at h1
    have h2 : P (incN ++ (59 :: (ageN ++ (61 :: D)))) [] = parseI (incN ++ (59 :: (ageN ++ (61 :: D)))) 0 [] := rfl
    rw [← h2, h1]
    exact hage _ (by simp)
theorem satText_sts (sub : Bool) (j k : Nat) (hl : j + (Lib.decDigits k).length ≤ 4000) : stsP (satText sub (List.replicate j 48 ++ Lib.decDigits k)) = ((((min k 2147483647 : Nat) : Int), sub), 0) := by
  have hp := satText_parse sub _ (zeros_dec_all j k) (by have := decDigits_ne k; simp [this]) (by simp; omega)
  have hs := secR_zeros j k
  generalize (List.replicate j 48 ++ Lib.decDigits k) = D at *
  refine stsP_of _ _ _ hp ?_
  unfold stsR
  rw [if_pos rfl]
  cases sub
  · show stsL [(ageN, D, true)] = _
    rw [stsL_ok _ (by simp [namesD])]
    have e1 : findD [(ageN, D, true)] ageN = some (ageN, D, true) := by simp [findD]
    have e2 : findD [(ageN, D, true)] subN = none := by simp [findD]; decide
    rw [e1, e2]
    simp only [dirOf, Option.getD_some, Option.getD_none, hs, Option.isSome_some, Option.isSome_none]
    rfl
  · show stsL [(subN, [], false), (ageN, D, true)] = _
    rw [stsL_ok _ (by simp [namesD]; decide)]
    have e1 : findD [(subN, [], false), (ageN, D, true)] ageN = some (ageN, D, true) := by
      simp [findD, List.find?, show (subN == ageN) = false from by decide]
    have e2 : findD [(subN, [], false), (ageN, D, true)] subN = some (subN, [], false) := by simp [findD]
    rw [e1, e2]
    simp only [dirOf, Option.getD_some, hs, Option.isSome_some]
    rfl
end Hs
