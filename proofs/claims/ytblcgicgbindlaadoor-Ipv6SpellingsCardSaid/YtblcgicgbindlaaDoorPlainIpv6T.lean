/- Plain laws of layer 11: how the law writes a spelling, part by part. No program in sight. Conditions: none. -/
import Derived.Test.YtblcgicgbindlaaDoorPlainIpv6S
namespace Hs
open Go
set_option linter.unusedVariables false
set_option linter.unusedSimpArgs false

/-- What is written before part k: the parts from fr on, n of them, are left out. -/
def outS (L : List Bs) (fr n k : Nat) : Bs := if k ≤ fr then joinD 58 (L.take k) else (joinD 58 (L.take fr) ++ [58, 58]) ++ joinD 58 ((L.drop (fr + n)).take (k - (fr + n)))
theorem joinD_last (m : List Bs) (g : Bs) : joinD 58 (m ++ [g]) = joinD 58 m ++ ((if m = [] then [] else [58]) ++ g) := by
  by_cases h : m = []
  · subst h; rfl
  · rw [if_neg h, joinD_snoc 58 g m h]; rfl
theorem outS_step (L : List Bs) (fr n k : Nat) (hk : k < L.length) (hc : k < fr ∨ (fr + n ≤ k ∧ fr < k)) : outS L fr n (k + 1) = outS L fr n k ++ ((if 0 < k ∧ k ≠ fr + n then [58] else []) ++ L[k]) := by
  rcases hc with hc | ⟨hc, hc2⟩
  · have e1 : outS L fr n (k + 1) = joinD 58 (L.take k ++ [L[k]]) := by
      unfold outS
      rw [if_pos (by omega), List.take_succ_eq_append_getElem hk]
    have e2 : outS L fr n k = joinD 58 (L.take k) := by
      unfold outS
      rw [if_pos (by omega)]
    rw [e1, e2, joinD_last]
    congr 2
    by_cases h0 : k = 0
    · subst h0
      rw [if_pos (List.take_zero ..), if_neg (by omega)]
    · rw [if_neg, if_pos (by omega)]
      intro e
      have := congrArg List.length e
      rw [List.length_take, List.length_nil] at this
      omega
  · have hkd : k - (fr + n) < (L.drop (fr + n)).length := by rw [List.length_drop]; omega
    have e1 : outS L fr n (k + 1) = (joinD 58 (L.take fr) ++ [58, 58]) ++ joinD 58 ((L.drop (fr + n)).take (k - (fr + n)) ++ [L[k]]) := by
      unfold outS
      rw [if_neg (by omega), show k + 1 - (fr + n) = k - (fr + n) + 1 by omega, List.take_succ_eq_append_getElem hkd, List.getElem_drop]
      simp only [show fr + n + (k - (fr + n)) = k by omega]
    have e2 : outS L fr n k = (joinD 58 (L.take fr) ++ [58, 58]) ++ joinD 58 ((L.drop (fr + n)).take (k - (fr + n))) := by
      unfold outS
      rw [if_neg (by omega)]
    rw [e1, e2, joinD_last, ← List.append_assoc]
    congr 2
    by_cases h0 : k = fr + n
    · rw [if_pos (by rw [h0, Nat.sub_self, List.take_zero]), if_neg (by omega)]
    · rw [if_neg, if_pos (by omega)]
      intro e
      have := congrArg List.length e
      rw [List.length_take, List.length_nil] at this
      omega
theorem outS_gap (L : List Bs) (fr n : Nat) (hn : 0 < n) : outS L fr n (fr + n) = outS L fr n fr ++ [58, 58] := by
  unfold outS
  rw [if_neg (by omega), if_pos (Nat.le_refl _), Nat.sub_self, List.take_zero]
  show _ ++ [] = _
  rw [List.append_nil]
theorem outS_zero (L : List Bs) (fr n : Nat) : outS L fr n 0 = [] := by
  unfold outS
  rw [if_pos (by omega)]
  rfl
theorem joinD_size : ∀ M : List Bs, (∀ a ∈ M, a.length ≤ 44) → (joinD 58 M).length ≤ 45 * M.length
  | [], _ => by simp [joinD]
  | [p], h => by
    have := h p (by simp)
    show p.length ≤ _
    simp; omega
  | p :: q :: M, h => by
    have ih := joinD_size (q :: M) (fun a ha => h a (List.mem_cons_of_mem _ ha))
    have := h p (by simp)
    show (p ++ 58 :: joinD 58 (q :: M)).length ≤ _
    simp at ih ⊢; omega
theorem outS_len (L : List Bs) (fr n k : Nat) (hl : ∀ a ∈ L, a.length ≤ 44) (h8 : L.length ≤ 8) : (outS L fr n k).length ≤ 722 := by
  unfold outS
  split
  · have := joinD_size (L.take k) (fun x hx => hl x (List.mem_of_mem_take hx))
    rw [List.length_take] at this
    omega
  · have h1 := joinD_size (L.take fr) (fun x hx => hl x (List.mem_of_mem_take hx))
    have h2 := joinD_size ((L.drop (fr + n)).take (k - (fr + n))) (fun x hx => hl x (List.mem_of_mem_drop (List.mem_of_mem_take hx)))
    rw [List.length_take] at h1 h2
    rw [List.length_drop] at h2
    simp
    omega
/-- The place and the length that the law's loop uses: nothing left out is a gap behind everything. -/
def gapF (fr n : Nat) : Nat := if n = 0 then 8 else fr
def gapN (n : Nat) : Nat := if n = 0 then 1 else n
theorem partsS_len (zs : Nat) (up dotted : Bool) (l : List Nat) (h : l.length = 8) : (partsS zs up dotted l).length = if dotted = true then 7 else 8 := by
  unfold partsS
  cases dotted
  · simp [h]
  · simp [h]
theorem partsS_small (zs : Nat) (up dotted : Bool) (l : List Nat) (h : Addr6 l) : ∀ a ∈ partsS zs up dotted l, a.length ≤ 44 := by
  intro a ha
  unfold partsS at ha
  split at ha
  · rcases List.mem_append.1 ha with ha | ha
    · obtain ⟨g, hg, rfl⟩ := List.mem_map.1 ha
      have := grpT_len zs up g (h.2 g (List.mem_of_mem_take hg))
      omega
    · simp at ha; subst ha
      exact fmtV_len _
  · obtain ⟨g, hg, rfl⟩ := List.mem_map.1 ha
    have := grpT_len zs up g (h.2 g hg)
    omega
theorem partsS_at (zs : Nat) (up dotted : Bool) (l : List Nat) (h : l.length = 8) (k : Nat) (hk : k < 8) (hd : dotted = true → k < 6) (hk2 : k < (partsS zs up dotted l).length) : (partsS zs up dotted l)[k] = grpT zs up l[k] := by
  cases dotted
  · show (l.map (grpT zs up))[k]'(by simp; omega) = _
    simp
  · have h6 := hd rfl
    show (((l.take 6).map (grpT zs up)) ++ [fmtV ((l[6]?.getD 0) * 65536 + l[7]?.getD 0)])[k]'(by simp; omega) = _
    rw [List.getElem_append_left (by simp; omega)]
    simp
theorem partsS_six (zs : Nat) (up : Bool) (l : List Nat) (h : l.length = 8) (hk2 : 6 < (partsS zs up true l).length) : (partsS zs up true l)[6] = fmtV (l[6] * 65536 + l[7]) := by
  have h6 : ((l.take 6).map (grpT zs up)).length = 6 := by simp; omega
  show (((l.take 6).map (grpT zs up)) ++ [fmtV ((l[6]?.getD 0) * 65536 + l[7]?.getD 0)])[6]'(by simp; omega) = _
  rw [List.getElem_append_right (by omega)]
  simp [h]
theorem partsT_at (zs : Nat) (up dotted : Bool) (l : List Nat) (h : l.length = 8) (k : Nat) (hk : k < l.length) (hd : dotted = true → k < 6) : (partsS zs up dotted l)[k]? = some (grpT zs up l[k]) := by
  have hk2 : k < (partsS zs up dotted l).length := by
    rw [partsS_len zs up dotted l h]
    split
    · rename_i e; have := hd e; omega
    · omega
  rw [List.getElem?_eq_getElem hk2, partsS_at zs up dotted l h k (by omega) hd hk2]
theorem partsT_six (zs : Nat) (up : Bool) (l : List Nat) (h : l.length = 8) (h6 : 6 < l.length) (h7 : 7 < l.length) : (partsS zs up true l)[6]? = some (fmtV (l[6] * 65536 + l[7])) := by
  have hk2 : 6 < (partsS zs up true l).length := by
    rw [partsS_len zs up true l h, if_pos rfl]; omega
  rw [List.getElem?_eq_getElem hk2, partsS_six zs up l h hk2]
theorem outS_spell (zs : Nat) (up dotted : Bool) (l : List Nat) (h : l.length = 8) (fr n : Nat) (hn : fr + n ≤ 8) (hd : dotted = true → fr + n ≤ 6) : outS (partsS zs up dotted l) (gapF fr n) (gapN n) (if dotted = true then 7 else 8) = spell6 zs up dotted l fr n := by
  have hl := partsS_len zs up dotted l h
  unfold spell6 gapF gapN
  by_cases h0 : n = 0
  · rw [if_pos h0, if_pos h0, if_pos h0]
    unfold outS
    rw [if_pos (by split <;> omega), List.take_of_length_le (by omega)]
  · rw [if_neg h0, if_neg h0, if_neg h0]
    unfold outS
    have hfr : fr < (if dotted = true then 7 else 8) := by
      split
      · rename_i e; have := hd e; omega
      · omega
    have e : ((partsS zs up dotted l).drop (fr + n)).take ((if dotted = true then 7 else 8) - (fr + n)) = (partsS zs up dotted l).drop (fr + n) := List.take_of_length_le (by rw [List.length_drop]; omega)
    rw [if_neg (by omega), e, List.append_assoc]
    rfl
end Hs
