/- Plain laws on Words and Trim: the words of joined words; trimming twice. No program in sight. Conditions: none. -/
import Derived.Test.YtimfngfimnapoaaDoorPlainAscii
namespace Hs

/-! ### Words -/
theorem wordsAux_mem : ∀ (l cur : Bs), (∀ b ∈ cur, isSpace b = false) → ∀ t ∈ wordsAux cur l, t ≠ [] ∧ (∀ b ∈ t, isSpace b = false) ∧ t.length ≤ cur.length + l.length
  | [], cur, hc, t, ht => by
    unfold wordsAux at ht
    split at ht
    · simp at ht
    · rename_i h
      simp only [List.mem_singleton] at ht
      subst ht
      exact ⟨by simpa using h, hc, by simp⟩
  | b :: r, cur, hc, t, ht => by
    unfold wordsAux at ht
    have hnil : ∀ x ∈ ([] : Bs), isSpace x = false := fun x hx => by cases hx
    split at ht
    · rename_i hb
      split at ht
      · have := wordsAux_mem r [] hnil t ht
        exact ⟨this.1, this.2.1, by have := this.2.2; simp only [List.length_nil, List.length_cons] at *; omega⟩
      · rename_i h
        rcases List.mem_cons.1 ht with rfl | h2
        · exact ⟨by simpa using h, hc, by simp⟩
        · have := wordsAux_mem r [] hnil t h2
          exact ⟨this.1, this.2.1, by have := this.2.2; simp only [List.length_nil, List.length_cons] at *; omega⟩
    · rename_i hb
      have := wordsAux_mem r (cur ++ [b]) (fun x hx => by
        rcases List.mem_append.1 hx with h | h
        · exact hc x h
        · simp only [List.mem_singleton] at h; subst h; simpa using hb) t ht
      exact ⟨this.1, this.2.1, by have := this.2.2; simp only [List.length_append, List.length_cons, List.length_nil] at *; omega⟩
theorem words_mem (l : Bs) (t : Bs) (ht : t ∈ words l) : t ≠ [] ∧ (∀ b ∈ t, isSpace b = false) ∧ t.length ≤ l.length := by
  have := wordsAux_mem l [] (fun b hb => by cases hb) t ht
  simpa using this

/-- Words joined by single spaces. -/
def joinL : List Bs → Bs
  | [] => []
  | t :: r => if r.isEmpty then t else t ++ 32 :: joinL r
theorem joinL_snoc : ∀ (ws : List Bs) (x : Bs), joinL (ws ++ [x]) = joinL ws ++ ((if ws.isEmpty then [] else [32]) ++ x)
  | [], x => by simp [joinL]
  | [t], x => by simp [joinL]
  | t :: u :: r, x => by
    have ih := joinL_snoc (u :: r) x
    have e1 : joinL (t :: u :: r ++ [x]) = t ++ 32 :: joinL (u :: r ++ [x]) := rfl
    have e2 : joinL (t :: u :: r) = t ++ 32 :: joinL (u :: r) := rfl
    rw [e1, e2, ih]
    simp
theorem length_joinL (m : Nat) : ∀ (ws : List Bs), (∀ t ∈ ws, t.length ≤ m) → (joinL ws).length ≤ ws.length * (m + 1)
  | [], _ => by simp [joinL]
  | t :: r, h => by
    have h1 := h t (by simp)
    have ih := length_joinL m r (fun u hu => h u (by simp [hu]))
    unfold joinL
    split
    · simp only [List.length_cons, Nat.add_mul]; omega
    · simp only [List.length_append, List.length_cons, Nat.add_mul]; omega

theorem wordsAux_run : ∀ (t cur r : Bs), (∀ b ∈ t, isSpace b = false) → wordsAux cur (t ++ r) = wordsAux (cur ++ t) r
  | [], cur, r, _ => by simp
  | b :: t, cur, r, h => by
    have hb := h b (by simp)
    simp only [List.cons_append]
    rw [wordsAux, if_neg (by simp [hb]), wordsAux_run t (cur ++ [b]) r (fun x hx => h x (by simp [hx]))]
    simp
theorem words_joinL : ∀ (ws : List Bs), (∀ t ∈ ws, t ≠ [] ∧ ∀ b ∈ t, isSpace b = false) → words (joinL ws) = ws
  | [], _ => by simp [joinL, words, wordsAux]
  | t :: r, h => by
    have ht := h t (by simp)
    have ih := words_joinL r (fun u hu => h u (by simp [hu]))
    have hne : t.isEmpty = false := by simpa using ht.1
    unfold joinL
    by_cases hr : r.isEmpty
    · rw [if_pos hr]
      have hr' : r = [] := by simpa using hr
      subst hr'
      have := wordsAux_run t [] [] ht.2
      rw [List.append_nil] at this
      unfold words
      rw [this]
      simp [wordsAux, ht.1]
    · rw [if_neg hr]
      unfold words
      rw [wordsAux_run t [] _ ht.2, List.nil_append, wordsAux, if_pos (by decide), hne]
      simp only [Bool.false_eq_true, if_false]
      unfold words at ih
      rw [ih]

/-! ### Trim -/
theorem trimL_head : ∀ (l : Bs) (b : UInt8) (r : Bs), trimL l = b :: r → isBlank b = false
  | [], b, r, h => by simp [trimL] at h
  | x :: l, b, r, h => by
    unfold trimL at h
    split at h
    · exact trimL_head l b r h
    · rename_i hx
      injection h with h1 h2
      subst h1
      simpa using hx
theorem trimL_cons (b : UInt8) (r : Bs) (h : isBlank b = false) : trimL (b :: r) = b :: r := by simp [trimL, h]
theorem trimL_idem (l : Bs) : trimL (trimL l) = trimL l := by
  cases h : trimL l with
  | nil => rfl
  | cons b r => exact trimL_cons b r (trimL_head l b r h)
theorem trimR_idem (l : Bs) : trimR (trimR l) = trimR l := by simp [trimR, trimL_idem]
theorem trimL_snoc_not : ∀ (l : Bs) (b : UInt8), isBlank b = false → trimL (l ++ [b]) = trimL l ++ [b]
  | [], b, h => by simp [trimL, h]
  | x :: l, b, h => by
    simp only [List.cons_append, trimL]
    split
    · exact trimL_snoc_not l b h
    · simp
theorem trimR_cons_not (b : UInt8) (r : Bs) (h : isBlank b = false) : trimR (b :: r) = b :: trimR r := by
  unfold trimR
  rw [List.reverse_cons, trimL_snoc_not _ _ h]
  simp
theorem trim_idem (l : Bs) : trim (trim l) = trim l := by
  unfold trim
  cases h : trimL l with
  | nil => rfl
  | cons b r =>
    have hb := trimL_head l b r h
    rw [trimR_cons_not b r hb, trimL_cons b _ hb, trimR_cons_not b _ hb, trimR_idem]
theorem trimL_append : ∀ (l r : Bs), trimL (l ++ r) = if trimL l = [] then trimL r else trimL l ++ r
  | [], r => by simp [trimL]
  | x :: l, r => by
    simp only [List.cons_append, trimL]
    split
    · exact trimL_append l r
    · simp
theorem trim_pad (l : Bs) : trim (([32] ++ l) ++ [9]) = trim l := by
  unfold trim
  have e : trimL (([32] ++ l) ++ [9]) = trimL (l ++ [9]) := by simp [trimL, isBlank]
  rw [e, trimL_append]
  split
  · rename_i h; rw [h]; decide
  · rw [trimR_snoc, if_pos (by decide)]
theorem length_trimL : ∀ (l : Bs), (trimL l).length ≤ l.length
  | [] => by simp [trimL]
  | b :: r => by
    have := length_trimL r
    unfold trimL
    split <;> simp only [List.length_cons] <;> omega
theorem length_trim (l : Bs) : (trim l).length ≤ l.length := by
  have h1 := length_trimL l
  have h2 := length_trimL (trimL l).reverse
  have e : (trim l).length = (trimL (trimL l).reverse).length := by unfold trim trimR; rw [List.length_reverse]
  rw [List.length_reverse] at h2
  omega
end Hs
