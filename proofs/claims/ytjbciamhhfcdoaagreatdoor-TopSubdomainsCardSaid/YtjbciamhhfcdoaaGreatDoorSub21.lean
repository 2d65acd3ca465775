/- Plain laws of hosts whose letters are of either case. No program in sight. Conditions: none.
   Plain laws of the URLs of a domain: what the texts denote, what they are written as. No program in sight. Conditions: none. -/
import Derived.Test.YtjbciamhhfcdoaaGreatDoorSub20
namespace Hs
open Go
set_option linter.unusedVariables false
set_option linter.unusedSimpArgs false

theorem lowB_toNat (b : UInt8) : (lowB b).toNat = if 65 ≤ b.toNat ∧ b.toNat ≤ 90 then b.toNat + 32 else b.toNat := by
  have h : (b + 32).toNat = (b.toNat + 32) % 256 := UInt8.toNat_add b 32
  have hb := b.toNat_lt
  unfold lowB isUpper
  by_cases h1 : 65 ≤ b.toNat ∧ b.toNat ≤ 90
  · rw [if_pos (decide_eq_true h1), if_pos h1, h]; omega
  · rw [if_neg (by simpa using h1), if_neg h1]
theorem lowB_eq (b c : UInt8) (hc : ¬ (97 ≤ c.toNat ∧ c.toNat ≤ 122)) (hd : ¬ (65 ≤ c.toNat ∧ c.toNat ≤ 90)) : lowB b = c ↔ b = c := by
  have h := lowB_toNat b
  rw [← UInt8.toNat_inj, ← UInt8.toNat_inj, h]
  split <;> omega
theorem digV_low (b : UInt8) : digV (lowB b) = digV b := by
  have h := lowB_toNat b
  unfold digV
  rw [h]
  by_cases h1 : 65 ≤ b.toNat ∧ b.toNat ≤ 90
  · rw [if_pos h1, if_neg (by omega), if_neg (show ¬ (48 ≤ b.toNat ∧ b.toNat ≤ 57) by omega), if_neg (show ¬ (97 ≤ b.toNat ∧ b.toNat ≤ 102) by omega)]
    split <;> split <;> (try split) <;> omega
  · rw [if_neg h1]
theorem splitD_map (c : UInt8) (f : UInt8 → UInt8) (h : ∀ b, f b = c ↔ b = c) : ∀ l : Bs, splitD c (l.map f) = (splitD c l).map (·.map f)
  | [] => rfl
  | b :: r => by
    have ih := splitD_map c f h r
    rw [List.map_cons, splitD, splitD, ih]
    by_cases hb : b = c
    · rw [if_pos hb, if_pos ((h b).2 hb)]; rfl
    · rw [if_neg hb, if_neg (fun e => hb ((h b).1 e))]
      cases hs : splitD c r with
      | nil => exact absurd hs (splitD_ne c r)
      | cons x t => rfl
theorem splitD_lower (l : Bs) : splitD 46 (lower l) = (splitD 46 l).map lower := splitD_map 46 lowB (fun b => lowB_eq b 46 (by decide) (by decide)) l
theorem lower_nil (l : Bs) : lower l = [] ↔ l = [] := by simp [lower]
theorem partsD_lower (l : Bs) : partsD (lower l) = (partsD l).map lower := by
  unfold partsD
  rw [splitD_lower, List.length_map, List.getLast?_map]
  have h : ((splitD 46 l).getLast?.map lower = some []) ↔ ((splitD 46 l).getLast? = some []) := by
    cases (splitD 46 l).getLast? with
    | none => simp
    | some x => simp [lower_nil]
  by_cases hc : 1 < (splitD 46 l).length ∧ (splitD 46 l).getLast? = some []
  · rw [if_pos hc, if_pos ⟨hc.1, h.2 hc.2⟩, List.map_dropLast]
  · rw [if_neg hc, if_neg (fun e => hc ⟨e.1, h.1 e.2⟩)]
theorem allB_lower (n : Nat) (l : Bs) : allB n (lower l) = allB n l := by
  unfold allB lower
  rw [List.all_map]
  congr 1
  funext b
  show decide (digV (lowB b) < n) = _
  rw [digV_low]
theorem satB_lower (n : Nat) : ∀ (l : Bs) (v : Nat), satB n (lower l) v = satB n l v
  | [], _ => rfl
  | b :: r, v => by
    show satB n (lowB b :: lower r) v = _
    unfold satB
    rw [digV_low, satB_lower n r]
theorem numB_lower (n : Nat) (l : Bs) : numB n (lower l) = numB n l := by unfold numB; rw [allB_lower, satB_lower]
theorem hexP_lower (l : Bs) : hexP (lower l) = hexP l := by
  match l with
  | [] => rfl
  | [_] => rfl
  | a :: b :: r =>
    show decide (lowB a = 48 ∧ (lowB b = 120 ∨ lowB b = 88)) = decide (a = 48 ∧ (b = 120 ∨ b = 88))
    have h1 := lowB_eq a 48 (by decide) (by decide)
    have h2 := lowB_toNat b
    have h3 : (lowB b = 120 ∨ lowB b = 88) ↔ (b = 120 ∨ b = 88) := by
      rw [← UInt8.toNat_inj, ← UInt8.toNat_inj, ← UInt8.toNat_inj, ← UInt8.toNat_inj, h2]
      show (_ = 120 ∨ _ = 88) ↔ (b.toNat = 120 ∨ b.toNat = 88)
      split <;> omega
    rw [decide_eq_decide, h1, h3]
theorem numP_lower (l : Bs) : numP (lower l) = numP l := by
  unfold numP
  have h0 : (lower l)[0]? = some 48 ↔ l[0]? = some 48 := by
    cases l with
    | nil => simp [lower]
    | cons a r =>
      show some (lowB a) = some 48 ↔ some a = some 48
      rw [Option.some.injEq, Option.some.injEq]
      exact lowB_eq a 48 (by decide) (by decide)
  have hd : ∀ k, (lower l).drop k = lower (l.drop k) := fun k => by simp [lower, List.map_drop]
  rw [hexP_lower, hd, hd, numB_lower, numB_lower, numB_lower, length_lower]
  by_cases h1 : l = []
  · rw [if_pos h1, if_pos ((lower_nil l).2 h1)]
  · rw [if_neg h1, if_neg (fun e => h1 ((lower_nil l).1 e))]
    by_cases h2 : hexP l = true
    · rw [if_pos h2, if_pos h2]
    · rw [if_neg h2, if_neg h2]
      by_cases h3 : 1 < l.length ∧ l[0]? = some 48
      · rw [if_pos h3, if_pos ⟨h3.1, h0.2 h3.2⟩]
      · rw [if_neg h3, if_neg (fun e => h3 ⟨e.1, h0.1 e.2⟩)]
theorem numericV_lower (l : Bs) : numericV (lower l) = numericV l := by
  unfold numericV
  rw [partsD_lower, List.getLast?_map]
  have h : (Option.map lower (partsD l).getLast?).getD [] = lower ((partsD l).getLast?.getD []) := by cases (partsD l).getLast? <;> rfl
  simp only [h, hexP_lower, numP_lower, numB_lower]
  congr 2
  have := lower_nil ((partsD l).getLast?.getD [])
  cases hx : (partsD l).getLast?.getD [] with
  | nil => rfl
  | cons a r => rfl
/-- Labels that are canonical in lower case. -/
theorem labsV_low : ∀ L : List Bs, (∀ x ∈ L, ascB x = true ∧ x.length ≤ 256 ∧ labelV (lower x) = true) → labsV L = some (L.map lower)
  | [], _ => rfl
  | x :: r, h => by
    have ih := labsV_low r (fun y hy => h y (List.mem_cons_of_mem _ hy))
    have ⟨h1, h2, h3⟩ := h x (List.mem_cons_self ..)
    rw [labsV, toAsciiV_asc h1, ih]
    unfold toAsciiA
    rw [if_neg (by omega), if_pos h3]
    rfl
theorem labelV_len {l : Bs} (h : labelV l = true) : 1 ≤ l.length ∧ l.length ≤ 63 := by
  unfold labelV at h
  simp only [Bool.and_eq_true, decide_eq_true_eq] at h
  exact ⟨h.1.1.1, h.1.1.2.1⟩
theorem labelV_labB {l : Bs} (h : labelV l = true) : ∀ b ∈ l, labB b = true := by
  unfold labelV at h
  simp only [Bool.and_eq_true, List.all_eq_true] at h
  exact h.1.2
theorem nameV_parts {l : Bs} (h : nameV l = true) : l.length ≤ 253 ∧ numericV l = false ∧ ∀ x ∈ splitD 46 l, labelV x = true := by
  unfold nameV at h
  simp only [Bool.and_eq_true, decide_eq_true_eq, List.all_eq_true, Bool.not_eq_true'] at h
  exact ⟨h.1.1, h.1.2, h.2⟩
theorem mem_splitD (c : UInt8) : ∀ (l : Bs), ∀ b ∈ l, b = c ∨ ∃ x ∈ splitD c l, b ∈ x
  | [], b, h => by cases h
  | a :: r, b, h => by
    have ih := mem_splitD c r
    by_cases ha : a = c
    · rw [splitD, if_pos ha]
      rcases List.mem_cons.1 h with rfl | h
      · exact .inl ha
      · rcases ih b h with h | ⟨x, hx, hb⟩
        · exact .inl h
        · exact .inr ⟨x, List.mem_cons_of_mem _ hx, hb⟩
    · rw [splitD, if_neg ha]
      cases hs : splitD c r with
      | nil => exact absurd hs (splitD_ne c r)
      | cons p t =>
        rw [hs] at ih
        rcases List.mem_cons.1 h with rfl | h
        · exact .inr ⟨b :: p, List.mem_cons_self .., List.mem_cons_self ..⟩
        · rcases ih b h with h | ⟨x, hx, hb⟩
          · exact .inl h
          · rcases List.mem_cons.1 hx with rfl | hx
            · exact .inr ⟨_, List.mem_cons_self .., List.mem_cons_of_mem _ hb⟩
            · exact .inr ⟨x, List.mem_cons_of_mem _ hx, hb⟩
theorem splitD_mem (c : UInt8) : ∀ (l : Bs), ∀ x ∈ splitD c l, ∀ b ∈ x, b ∈ l
  | [], x, hx, b, hb => by simp [splitD] at hx; subst hx; cases hb
  | a :: r, x, hx, b, hb => by
    have ih := splitD_mem c r
    unfold splitD at hx
    split at hx
    · rcases List.mem_cons.1 hx with rfl | hx
      · cases hb
      · exact List.mem_cons_of_mem _ (ih x hx b hb)
    · cases hs : splitD c r with
      | nil => exact absurd hs (splitD_ne c r)
      | cons p t =>
        rw [hs] at hx ih
        simp only at hx
        rcases List.mem_cons.1 hx with rfl | hx
        · rcases List.mem_cons.1 hb with rfl | hb
          · exact List.mem_cons_self ..
          · exact List.mem_cons_of_mem _ (ih p (List.mem_cons_self ..) b hb)
        · exact List.mem_cons_of_mem _ (ih x (List.mem_cons_of_mem _ hx) b hb)
/-- The bytes of a name. -/
def nomB (b : UInt8) : Prop := (97 ≤ b.toNat ∧ b.toNat ≤ 122) ∨ (48 ≤ b.toNat ∧ b.toNat ≤ 57) ∨ b.toNat = 45 ∨ b.toNat = 95 ∨ b.toNat = 46
theorem nameV_bytes {l : Bs} (h : nameV l = true) : ∀ b ∈ l, nomB b := fun b hb => by
  rcases mem_splitD 46 l b hb with rfl | ⟨x, hx, hbx⟩
  · unfold nomB; decide
  · have := labelV_labB ((nameV_parts h).2.2 x hx) b hbx
    unfold labB at this
    have := of_decide_eq_true this
    unfold nomB
    omega
theorem nameV_ne {l : Bs} (h : nameV l = true) : l ≠ [] := by
  intro e
  subst e
  exact absurd h (by decide)
/-- The bytes of a name in either case. -/
theorem lowBytes {t : Bs} (h : nameV (lower t) = true) : ∀ b ∈ t, (65 ≤ b.toNat ∧ b.toNat ≤ 90) ∨ nomB b := fun b hb => by
  have h2 := nameV_bytes h (lowB b) (List.mem_map.2 ⟨b, hb, rfl⟩)
  unfold nomB at h2 ⊢
  rw [lowB_toNat] at h2
  split at h2 <;> omega
theorem lower_nom : ∀ {t : Bs}, (∀ b ∈ t, nomB b) → lower t = t
  | [], _ => rfl
  | b :: r, h => by
    have h1 := h b (List.mem_cons_self ..)
    have ih := lower_nom (fun x hx => h x (List.mem_cons_of_mem _ hx))
    show lowB b :: lower r = b :: r
    rw [ih]
    congr 1
    unfold nomB at h1
    unfold lowB isUpper
    rw [if_neg]
    intro e
    have := of_decide_eq_true e
    omega
theorem pctV_id : ∀ l : Bs, (∀ b ∈ l, b ≠ 37) → pctV l = some l
  | [], _ => rfl
  | b :: r, h => by
    rw [pctV_plain (h b (List.mem_cons_self ..)), pctV_id r (fun x hx => h x (List.mem_cons_of_mem _ hx))]
    rfl
theorem dropDot_snoc (t : Bs) : dropDot (t ++ [46]) = t := by
  unfold dropDot Lib.trimSuffix
  rw [if_pos (by rw [Lib.hasSuffix]; exact List.isSuffixOf_iff_suffix.2 ⟨t, rfl⟩)]
  simp
theorem dropDot_not {t : Bs} (h : t.getLast? ≠ some 46) : dropDot t = t := by
  unfold dropDot Lib.trimSuffix
  rw [if_neg]
  intro hs
  rw [Lib.hasSuffix] at hs
  obtain ⟨x, hx⟩ := List.isSuffixOf_iff_suffix.1 hs
  apply h
  rw [← hx]
  simp
theorem plainV_low {t : Bs} (h : nameV (lower t) = true) : plainV t = some ⟨1, lower t, 0, zer8⟩ := by
  have ⟨h1, h2, h3⟩ := nameV_parts h
  rw [splitD_lower] at h3
  have hb := lowBytes h
  unfold plainV domV
  rw [← numericV_lower, h2, if_neg (by simp)]
  have hl : labsV (splitD 46 t) = some ((splitD 46 t).map lower) := labsV_low _ (fun x hx => by
    have hx2 := h3 (lower x) (List.mem_map.2 ⟨x, hx, rfl⟩)
    refine ⟨?_, ?_, hx2⟩
    · unfold ascB
      rw [List.all_eq_true]
      intro b hbx
      have := hb b (splitD_mem 46 t x hx b hbx)
      unfold nomB at this
      exact decide_eq_true (by omega)
    · have := labelV_len hx2
      rw [length_lower] at this
      omega)
  rw [hl]
  simp only
  rw [← splitD_lower, joinD_split]
  unfold domL
  rw [if_neg (by omega), if_neg (by rw [h2]; simp)]
/-- A name of either case with a dot, or without. -/
theorem hostV_low {t : Bs} (h : nameV (lower t) = true) : hostV (t ++ [46]) = some ⟨1, lower t, 0, zer8⟩ := by
  have hb := lowBytes h
  have hl := (nameV_parts h).1
  rw [length_lower] at hl
  have hall : ∀ b ∈ t ++ [46], (65 ≤ b.toNat ∧ b.toNat ≤ 90) ∨ nomB b := fun b hx => by
    rcases List.mem_append.1 hx with hx | hx
    · exact hb b hx
    · rw [List.mem_singleton.1 hx]; right; unfold nomB; decide
  unfold hostV
  rw [if_neg (by simp; omega), if_neg, pctV_id]
  · show plainV (dropDot (t ++ [46])) = _
    rw [dropDot_snoc]
    exact plainV_low h
  · intro b hx e
    have := hall b hx
    subst e
    unfold nomB at this
    revert this
    decide
  · intro e
    have := hall 91 (List.mem_of_mem_head? e)
    unfold nomB at this
    revert this
    decide
theorem splitD_snoc (c : UInt8) : ∀ l : Bs, splitD c (l ++ [c]) = splitD c l ++ [[]]
  | [] => by simp [splitD]
  | b :: r => by
    rw [List.cons_append, splitD, splitD, splitD_snoc c r]
    by_cases hb : b = c
    · rw [if_pos hb, if_pos hb]; rfl
    · rw [if_neg hb, if_neg hb]
      cases hs : splitD c r with
      | nil => exact absurd hs (splitD_ne c r)
      | cons x t => rfl
theorem last_mem {t : Bs} {b : UInt8} (h : t.getLast? = some b) : b ∈ t := List.mem_of_getLast? h
theorem nameV_last {t : Bs} (h : nameV t = true) : t.getLast? ≠ some 46 := by
  intro e
  have hp := (nameV_parts h).2.2
  have hne := nameV_ne h
  have hs : t = t.dropLast ++ [46] := by
    obtain ⟨x, hx⟩ := List.getLast?_eq_some_iff.1 e
    rw [hx]
    simp
  have : ([] : Bs) ∈ splitD 46 t := by
    rw [hs, splitD_snoc]
    simp
  have := hp [] this
  exact absurd this (by decide)
/-- A name denotes itself. -/
theorem hostV_name {t : Bs} (h : nameV t = true) : hostV t = some ⟨1, t, 0, zer8⟩ := by
  have hb := nameV_bytes h
  have hl := (nameV_parts h).1
  have hlow : lower t = t := lower_nom hb
  unfold hostV
  rw [if_neg (by omega), if_neg, pctV_id]
  · show plainV (dropDot t) = _
    rw [dropDot_not (nameV_last h)]
    have := plainV_low (t := t) (by rw [hlow]; exact h)
    rw [hlow] at this
    exact this
  · intro b hx e
    have := hb b hx
    subst e
    unfold nomB at this
    revert this
    decide
  · intro e
    have := hb 91 (List.mem_of_mem_head? e)
    unfold nomB at this
    revert this
    decide
end Hs
namespace Hs
open Go
set_option linter.unusedVariables false
set_option linter.unusedSimpArgs false

theorem index_at (c : UInt8) (r : Bs) : ∀ a : Bs, (∀ b ∈ a, b ≠ c) → Lib.indexByte (a ++ c :: r) c = a.length
  | [], _ => by simp [Lib.indexByte]
  | b :: a, h => by
    have ih := index_at c r a (fun x hx => h x (List.mem_cons_of_mem _ hx))
    have hb := h b (List.mem_cons_self ..)
    rw [List.cons_append, Lib.indexByte, ih]
    have h1 : (b == c) = false := by simpa using hb
    have h2 : ((a.length : Int) == -1) = false := by rw [beq_eq_false_iff_ne]; omega
    rw [h1, h2]
    simp
theorem index_no (c : UInt8) : ∀ a : Bs, (∀ b ∈ a, b ≠ c) → Lib.indexByte a c = -1
  | [], _ => rfl
  | b :: a, h => by
    have ih := index_no c a (fun x hx => h x (List.mem_cons_of_mem _ hx))
    have hb := h b (List.mem_cons_self ..)
    rw [Lib.indexByte, ih]
    have h1 : (b == c) = false := by simpa using hb
    rw [h1]
    simp
theorem lastC_no (c : UInt8) (l : Bs) (h : ∀ b ∈ l, b ≠ c) : lastC c l = -1 := by
  have h1 := (lastC_neg c l).2 h
  have := lastC_bounds c l
  omega
theorem indexAny_at (cs : Bs) (c : UInt8) (r : Bs) (hc : cs.contains c = true) : ∀ a : Bs, (∀ b ∈ a, cs.contains b = false) → Lib.indexAny (a ++ c :: r) cs = a.length
  | [], _ => by rw [List.nil_append, Lib.indexAny, if_pos hc]; rfl
  | b :: a, h => by
    have ih := indexAny_at cs c r hc a (fun x hx => h x (List.mem_cons_of_mem _ hx))
    have hb := h b (List.mem_cons_self ..)
    have h2 : ((a.length : Int) == -1) = false := by rw [beq_eq_false_iff_ne]; omega
    rw [List.cons_append, Lib.indexAny, ih, h2, hb]
    simp
/-- The authority of a URL of a domain: bytes of its name in either case, dots, perhaps a colon and digits. -/
theorem authL_at (a : Bs) (h : ∀ b ∈ a, b ≠ 47 ∧ b ≠ 63 ∧ b ≠ 35) : authL (a ++ [47]) = a.length := by
  have := indexAny_at [47, 63, 35] 47 [] (by decide) a (fun b hb => by
    obtain ⟨h1, h2, h3⟩ := h b hb
    simp [h1, h2, h3])
  unfold authL
  rw [this, if_neg (by omega)]
  omega
/-- A name of the authority, a tail of a port or nothing. -/
theorem special_at (s x t : Bs) (hs : 0 < portD s) (hx : ∀ b ∈ x, (65 ≤ b.toNat ∧ b.toNat ≤ 90) ∨ nomB b) (h0 : x ≠ []) (ht : t = [] ∨ t = [58, 56, 48]) : special s ([47, 47] ++ ((x ++ t) ++ [47])) = placeT ⟨s, [], host0, -1, [47]⟩ x t := by
  have hne : ∀ (b : UInt8) (c : UInt8), b ∈ x → ¬ (65 ≤ c.toNat ∧ c.toNat ≤ 90) → ¬ nomB c → b ≠ c := by
    rintro b c hb h1 h2 rfl
    rcases hx b hb with h | h
    · exact h1 h
    · exact h2 h
  have n47 : ¬ nomB 47 := by unfold nomB; decide
  have n63 : ¬ nomB 63 := by unfold nomB; decide
  have n35 : ¬ nomB 35 := by unfold nomB; decide
  have n64 : ¬ nomB 64 := by unfold nomB; decide
  have n58 : ¬ nomB 58 := by unfold nomB; decide
  have n91 : ¬ nomB 91 := by unfold nomB; decide
  have htb : ∀ b ∈ t, b ≠ 47 ∧ b ≠ 63 ∧ b ≠ 35 ∧ b ≠ 64 := by
    intro b hb
    rcases ht with rfl | rfl
    · cases hb
    · simp at hb
      rcases hb with rfl | rfl | rfl <;> decide
  have ha : ∀ b ∈ x ++ t, b ≠ 47 ∧ b ≠ 63 ∧ b ≠ 35 ∧ b ≠ 64 := fun b hb => by
    rcases List.mem_append.1 hb with hb | hb
    · exact ⟨hne b 47 hb (by decide) n47, hne b 63 hb (by decide) n63, hne b 35 hb (by decide) n35, hne b 64 hb (by decide) n64⟩
    · exact htb b hb
  unfold special
  rw [if_neg (by omega), if_pos (show ([47, 47] ++ ((x ++ t) ++ [47]) : Bs).take 2 = [47, 47] from rfl)]
  have hd : ([47, 47] ++ ((x ++ t) ++ [47]) : Bs).drop 2 = (x ++ t) ++ [47] := rfl
  rw [hd, authL_at _ (fun b hb => ⟨(ha b hb).1, (ha b hb).2.1, (ha b hb).2.2.1⟩)]
  have e1 : ((x ++ t) ++ [47]).drop (x ++ t).length = [47] := List.drop_left
  have e2 : ((x ++ t) ++ [47]).take (x ++ t).length = x ++ t := List.take_left
  rw [e1, e2]
  have hu : userP (x ++ t) = ([], x ++ t) := by
    unfold userP
    rw [lastC_no 64 _ (fun b hb => (ha b hb).2.2.2), if_pos (by decide)]
  have hp : hostPort (x ++ t) = some (x, t) := by
    unfold hostPort
    rw [if_neg]
    · rcases ht with rfl | rfl
      · rw [List.append_nil, index_no 58 x (fun b hb => hne b 58 hb (by decide) n58), if_pos (by decide)]
      · rw [index_at 58 [56, 48] x (fun b hb => hne b 58 hb (by decide) n58), if_neg (by omega)]
        have e3 : (x ++ [58, 56, 48]).take ((x.length : Int)).toNat = x := List.take_left
        have e4 : (x ++ [58, 56, 48]).drop ((x.length : Int)).toNat = [58, 56, 48] := List.drop_left
        rw [e3, e4]
    · intro e
      cases x with
      | nil => exact h0 rfl
      | cons b r =>
        simp at e
        subst e
        exact hne 91 91 (List.mem_cons_self ..) (by decide) n91 rfl
  unfold placeV
  rw [hu, hp]
  rfl
/-- Nothing before the colon is bad. -/
theorem parseU_at (s r : Bs) (hs : schemeV s = true) (hr : r.any badU = false) (hc : ∀ b ∈ s, b ≠ 58 ∧ badU b = false) : parseU (s ++ 58 :: r) = special (lower s) r := by
  unfold parseU
  have hb : (s ++ 58 :: r).any badU = false := by
    rw [List.any_append, List.any_cons, hr, show badU 58 = false by decide]
    simp
    exact fun b hb => (hc b hb).2
  rw [if_neg (by rw [hb]; simp), index_at 58 r s (fun b hb => (hc b hb).1), if_neg (by omega)]
  have e1 : (s ++ 58 :: r).take ((s.length : Int)).toNat = s := List.take_left
  have e2 : (s ++ 58 :: r).drop ((s.length : Int).toNat + 1) = r := by
    rw [List.drop_append]
    simp
  rw [e1, e2, if_pos hs]
theorem any_bad_nom (x t : Bs) (hx : ∀ b ∈ x, (65 ≤ b.toNat ∧ b.toNat ≤ 90) ∨ nomB b) (ht : t.any badU = false) : ([47, 47] ++ ((x ++ t) ++ [47]) : Bs).any badU = false := by
  have h1 : x.any badU = false := by
    rw [List.any_eq_false]
    intro b hb e
    have := hx b hb
    have e2 := of_decide_eq_true e
    unfold nomB at this
    omega
  rw [List.any_append, List.any_append, List.any_append, h1, ht]
  decide
def bHTTP : Bs := [72, 84, 84, 80]
/-- The URL of a request in the law of subdomains. -/
theorem parse_request {t : Bs} (h : nameV (lower t) = true) : parseU (bHTTP ++ 58 :: ([47, 47] ++ (((t ++ [46]) ++ [58, 56, 48]) ++ [47]))) = some ⟨bHttp, [], ⟨1, lower t, 0, zer8⟩, -1, [47]⟩ := by
  have hb := lowBytes h
  have hx : ∀ b ∈ t ++ [46], (65 ≤ b.toNat ∧ b.toNat ≤ 90) ∨ nomB b := fun b hx => by
    rcases List.mem_append.1 hx with hx | hx
    · exact hb b hx
    · rw [List.mem_singleton.1 hx]; right; unfold nomB; decide
  rw [parseU_at bHTTP _ (by decide) (any_bad_nom _ _ hx (by decide)) (by decide), show lower bHTTP = bHttp by decide, special_at bHttp _ _ (by decide) hx (by simp) (.inr rfl)]
  unfold placeT
  rw [if_neg (by decide), hostV_low h]
  rfl
/-- A URL of a domain without port. -/
theorem parse_domain (s : Bs) {n : Bs} (h : nameV n = true) (hs : schemeV s = true) (hl : lower s = s) (hp : 0 < portD s) (hc : ∀ b ∈ s, b ≠ 58 ∧ badU b = false) : parseU (s ++ 58 :: ([47, 47] ++ ((n ++ []) ++ [47]))) = some ⟨s, [], ⟨1, n, 0, zer8⟩, -1, [47]⟩ := by
  have hx : ∀ b ∈ n, (65 ≤ b.toNat ∧ b.toNat ≤ 90) ∨ nomB b := fun b hb => .inr (nameV_bytes h b hb)
  rw [parseU_at s _ hs (any_bad_nom _ _ hx (by decide)) hc, hl, special_at s _ _ hp hx (nameV_ne h) (.inl rfl)]
  unfold placeT
  rw [if_neg (by simp), hostV_name h]
  have : portV (([] : Bs).drop 1) = some (-1) := by decide
  rw [this]
  simp only
  split <;> rfl
/-- The URL of a domain with a scheme. -/
def domU (s n : Bs) : UrlP := ⟨s, [], ⟨1, n, 0, zer8⟩, -1, [47]⟩
theorem hostT_dom {n : Bs} (h : nameV n = true) : hostT ⟨1, n, 0, zer8⟩ = n := by
  unfold hostT
  rw [if_pos (by simp [hostOk, h])]
  rfl
theorem textU_dom (s : Bs) {n : Bs} (h : nameV n = true) (hp : 0 < portD s) : textU (domU s n) = s ++ 58 :: ([47, 47] ++ ((n ++ []) ++ [47])) := by
  unfold textU
  have : ¬ portD (domU s n).scheme < 0 := by show ¬ portD s < 0; omega
  rw [if_neg this]
  show s ++ ([58, 47, 47] ++ ((if ([] : Bs) = [] then [] else _) ++ (hostT ⟨1, n, 0, zer8⟩ ++ ((if (-1 : Int) = -1 then [] else _) ++ [47])))) = _
  rw [if_pos rfl, if_pos rfl, hostT_dom h]
  simp
theorem domU_valid (s : Bs) {n : Bs} (h : nameV n = true) (hs : schemeV s = true) (hl : lower s = s) (hp : 0 < portD s) (hc : ∀ b ∈ s, b ≠ 58 ∧ badU b = false) : validU (domU s n) = true := by
  unfold validU
  rw [textU_dom s h hp, parse_domain s h hs hl hp hc]
  exact decide_eq_true rfl
theorem http_valid {n : Bs} (h : nameV n = true) : validU (domU bHttp n) = true := domU_valid _ h (by decide) (by decide) (by decide) (by decide)
theorem https_valid {n : Bs} (h : nameV n = true) : validU (domU bHttps n) = true := domU_valid _ h (by decide) (by decide) (by decide) (by decide)
theorem up_dom (n : Bs) : upgradeU (domU bHttp n) = domU bHttps n := rfl
theorem https_text {n : Bs} (h : nameV n = true) : formatU (domU bHttps n) = bHttps ++ 58 :: ([47, 47] ++ (n ++ [47])) := by
  unfold formatU
  rw [if_pos (https_valid h), textU_dom _ h (by decide)]
  simp
/-- The decision of the law. -/
theorem decide_sub {t : Bs} (h : nameV (lower t) = true) (hl : t.length ≤ 300) (d : Int) (img : Bool) (hd : validB d = true) (c : CtxP) (now : Int) (T : List PinP) (L : List EntP) : decideV (bHTTP ++ 58 :: ([47, 47] ++ (((t ++ [46]) ++ [58, 56, 48]) ++ [47]))) d img c now T L = some (ruleV (domU bHttp (lower t)) d img c (covV now T L ⟨1, lower t, 0, zer8⟩)) := by
  unfold decideV urlV
  rw [if_neg (by simp [bHTTP]; omega), parse_request h]
  simp only
  unfold classV
  rw [if_pos ⟨http_valid h, hd⟩]
  rfl
/-- The coverage by a single pin. -/
theorem covSup_one (now : Int) (p : PinP) : ∀ S : List Bs, (covSup now [p] [] S).source ≠ 0 ↔ p.host ∈ S ∧ ¬ p.expiry ≤ now ∧ p.sub = true
  | [] => by simp [covSup, cov0]
  | s :: r => by
    have ih := covSup_one now p r
    unfold covSup covAt covAt.covL
    by_cases h1 : p.host = s
    · rw [List.find?_cons_of_pos (by simpa using h1)]
      simp only
      by_cases h2 : ¬ p.expiry ≤ now ∧ (false = true ∨ p.sub = true)
      · rw [if_pos h2]
        have : p.sub = true := by simpa using h2.2
        simp [h1, this]
        omega
      · rw [if_neg h2]
        simp only [List.find?_nil]
        rw [ih]
        constructor
        · rintro ⟨a, b⟩; exact ⟨List.mem_cons_of_mem _ a, b⟩
        · rintro ⟨a, b, c⟩; exact absurd ⟨b, .inr c⟩ h2
    · rw [List.find?_cons_of_neg (by simpa using h1)]
      simp only [List.find?_nil]
      rw [ih]
      constructor
      · rintro ⟨a, b⟩; exact ⟨List.mem_cons_of_mem _ a, b⟩
      · rintro ⟨a, b⟩
        rcases List.mem_cons.1 a with a | a
        · exact absurd a h1
        · exact ⟨a, b⟩
theorem cov_one (now : Int) (p : PinP) (n : Bs) (h : nameV n = true) : (covV now [p] [] ⟨1, n, 0, zer8⟩).source ≠ 0 ↔ ¬ p.expiry ≤ now ∧ (p.host = n ∨ (p.sub = true ∧ p.host ∈ supers n)) := by
  unfold covV
  rw [if_pos ⟨rfl, by simp [hostOk, h]⟩]
  have hs := covSup_one now p (supers n)
  simp only
  unfold covAt covAt.covL
  by_cases h1 : p.host = n
  · rw [List.find?_cons_of_pos (by simpa using h1)]
    simp only
    by_cases h2 : p.expiry ≤ now
    · rw [if_neg (fun e => e.1 h2)]
      simp only [List.find?_nil]
      rw [hs]
      constructor
      · rintro ⟨a, b, c⟩; exact absurd h2 b
      · rintro ⟨a, b⟩; exact absurd h2 a
    · rw [if_pos ⟨h2, .inl trivial⟩]
      simp [h1]
      omega
  · rw [List.find?_cons_of_neg (by simpa using h1)]
    simp only [List.find?_nil]
    rw [hs]
    constructor
    · rintro ⟨a, b, c⟩; exact ⟨b, .inr ⟨c, a⟩⟩
    · rintro ⟨a, b | ⟨b, c⟩⟩
      · exact absurd b h1
      · exact ⟨c, a, b⟩
/-- Which reason a decision without context has. -/
theorem rule_sub {n : Bs} (h : nameV n = true) (d : Int) (img : Bool) (v : CovP) : ((ruleV (domU bHttp n) d img ⟨false, false, false, false, []⟩ v).reason = 2 ↔ v.source ≠ 0) ∧ (v.source ≠ 0 → (ruleV (domU bHttp n) d img ⟨false, false, false, false, []⟩ v).url = bHttps ++ 58 :: ([47, 47] ++ (n ++ [47]))) := by
  unfold ruleV
  by_cases hv : v.source ≠ 0
  · rw [if_pos ⟨rfl, hv⟩]
    refine ⟨by simp [hv], fun _ => ?_⟩
    rw [up_dom]
    exact https_text h
  · rw [if_neg (fun e => hv e.2)]
    refine ⟨?_, fun e => absurd e hv⟩
    split
    · simp [hv]
    · split
      · rename_i h2; exact absurd h2.2.1 (by simp)
      · rw [if_pos (.inr rfl)]
        simp [hv]
end Hs
