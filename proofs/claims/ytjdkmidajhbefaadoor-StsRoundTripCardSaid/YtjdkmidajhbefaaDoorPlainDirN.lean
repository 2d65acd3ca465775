/- Plain: examples of the layer directive, reckoned. No program in sight. Conditions: none. -/
import Derived.Test.YtjdkmidajhbefaaDoorPlainDir
namespace Hs
/-- The parser with a bound on its rounds. -/
def parseN : Nat → Bs → Nat → List Dir → List Dir × Int
  | 0, _, _, _ => ([], 99)
  | f + 1, l, i, acc =>
    if blkEnd l i < l.length then
      if atN l (blkEnd l i) = 59 then parseN f l (blkEnd l i + 1) acc
      else if acc.length = 32 then ([], 3)
      else match elemO l (blkEnd l i) with
        | none => ([], 4)
        | some p => parseN f l p.2 (acc ++ [p.1])
    else (acc, 0)
theorem parseN_eq (l : Bs) : ∀ (f i : Nat) (acc : List Dir), l.length - i < f → parseN f l i acc = parseI l i acc
  | 0, i, acc, h => by omega
  | f + 1, i, acc, h => by
    have hge := blkEnd_ge l i
    have hid := blkEnd_idem l i
    rw [parseN, parseI_blank l i acc]
    by_cases hl : blkEnd l i < l.length
    · rw [if_pos hl]
      by_cases h59 : atN l (blkEnd l i) = 59
      · rw [if_pos h59, parseI_semi l _ acc h59]
        exact parseN_eq l f _ acc (by omega)
      · rw [if_neg h59]
        by_cases h32 : acc.length = 32
        · rw [if_pos h32, parseI_limit l _ acc hid hl h59 h32]
        · rw [if_neg h32]
          cases he : elemO l (blkEnd l i) with
          | none => rw [parseI_none l _ acc hid hl h59 h32 he]
          | some p =>
            rw [parseI_some l _ acc p hid hl h59 h32 he]
            have hb := elemI_bound l _ p.1 p.2 (by omega) (elemO_inv l _ p he).1
            exact parseN_eq l f _ _ (by omega)
    · rw [if_neg hl, parseI_end l _ acc (by omega)]
theorem parseD_N (l : Bs) (R : List Dir × Int) (h : l.length ≤ 4096) (hR : parseN (l.length + 1) l 0 [] = R) : parseD l = R := by
  rw [parseD_short l (by omega), ← parseN_eq l (l.length + 1) 0 [] (by omega)]
  exact hR
theorem ex18a : parseD (un ⟨#[32, 109, 97, 120, 45, 97, 103, 101, 32, 61, 32, 34, 54, 48, 34, 32, 59, 59, 32, 105, 110, 99, 108, 117, 100, 101, 83, 117, 98, 68, 111, 109, 97, 105, 110, 115]⟩) = ([([109, 97, 120, 45, 97, 103, 101], [54, 48], true), ([105, 110, 99, 108, 117, 100, 101, 115, 117, 98, 100, 111, 109, 97, 105, 110, 115], [], false)], 0) :=
  parseD_N _ _ (by decide) (by decide +kernel)
theorem ex18b : parseD (un ⟨#[97, 32, 98]⟩) = ([], 4) := parseD_N _ _ (by decide) (by decide +kernel)
theorem ex18c : formatD [([97], [120, 32, 121], true), ([98], [], false)] = ([97, 61, 34, 120, 32, 121, 34, 59, 32, 98], 0) := by decide +kernel
end Hs
