/- The text of a policy, and that it is read back: plain functions. No program in sight. Conditions: none. -/
import Derived.Test.YtjdkmidajhbefaaDoorPlainSat
namespace Hs
open Go
def fmtText (n : Nat) (b : Bool) : Bs := ageN ++ (61 :: Lib.decDigits n) ++ (if b then 59 :: 32 :: incN else [])
/-- What Format returns. -/
def fmtP (n : Int) (b : Bool) : Bs × Int := if n < 0 ∨ 2147483647 < n then ([], 2) else (fmtText n.toNat b, 0)
theorem inc_parse : parseD (32 :: incN) = ([(subN, [], false)], 0) := by
  have hb := elem_bare incN [] (by decide) (by decide) (.inl rfl)
  have h0 := tok_head_at incN [] (by decide) (by decide)
  rw [List.append_nil] at hb h0
  have h1 := P_elemO _ [] _ ⟨h0.1, h0.2.1, h0.2.2.2⟩ hb (by simp)
  rw [List.drop_length, P_nil] at h1
  rw [parseD_short _ (by decide)]
  show P (32 :: incN) [] = _
  rw [P_blank 32 _ _ (by decide), h1]
  rfl
theorem fmtText_sts (n : Nat) (b : Bool) (hn : n ≤ 2147483647) (hl : (Lib.decDigits n).length ≤ 4000) : stsP (fmtText n b) = (((n : Int), b), 0) := by
  have hD : (Lib.decDigits n).all isDigit = true := decDigits_all n
  have hne : Lib.decDigits n ≠ [] := by have := decDigits_ne n; simpa using this
  have hs := secR_zeros 0 n
  rw [List.replicate_zero, List.nil_append, Nat.min_eq_left hn] at hs
  cases b
  · have := satText_sts false 0 n (by omega)
    rw [List.replicate_zero, List.nil_append, Nat.min_eq_left hn] at this
    rw [← this]
    simp [fmtText, satText]
  · have h1 := satText_parse false _ hD hne hl
    have h3 := parseD_concat _ _ _ _ h1 inc_parse (by simp [satText, ageN, incN]; omega) (by simp)
    have e : fmtText n true = satText false (Lib.decDigits n) ++ 59 :: (32 :: incN) := by simp [fmtText, satText]
    rw [e]
    refine stsP_of _ _ _ h3 ?_
    unfold stsR
    rw [if_pos rfl]
    generalize Lib.decDigits n = D at *
    show stsL [(ageN, D, true), (subN, [], false)] = _
    rw [stsL_ok _ (by simp [namesD]; decide)]
    have e1 : findD [(ageN, D, true), (subN, [], false)] ageN = some (ageN, D, true) := by simp [findD]
    have e2 : findD [(ageN, D, true), (subN, [], false)] subN = some (subN, [], false) := by
      simp [findD, List.find?, show (ageN == subN) = false from by decide]
    rw [e1, e2]
    simp only [dirOf, Option.getD_some, hs, Option.isSome_some]
    rfl
end Hs
