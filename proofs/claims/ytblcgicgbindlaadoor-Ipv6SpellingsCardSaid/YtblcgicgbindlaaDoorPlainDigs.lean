/- Plain functions: the digits of a number in a base up to 16, and their laws. No program in sight. Conditions: none. -/
import Derived.Test.YtblcgicgbindlaaDoorPlainIpv4Q
namespace Hs
open Go
set_option linter.unusedVariables false
set_option linter.unusedSimpArgs false

/-- The letter of a digit, in lower case. -/
def hexC (d : Nat) : UInt8 := if d < 10 then UInt8.ofNat (48 + d) else UInt8.ofNat (87 + d)
theorem digV_hexC (d : Nat) (h : d < 16) : digV (hexC d) = d := by
  have : ∀ d : Fin 16, digV (hexC d.1) = d.1 := by decide
  exact this ⟨d, h⟩
/-- The digits of a number in a base. -/
def digsN (b n : Nat) : Bs := if _h : n < b ∨ b < 2 then [hexC n] else digsN b (n / b) ++ [hexC (n % b)]
termination_by n
decreasing_by exact Nat.div_lt_self (by omega) (by omega)
theorem digsN_small {b n : Nat} (h : n < b) : digsN b n = [hexC n] := by rw [digsN, dif_pos (.inl h)]
theorem digsN_big {b n : Nat} (hb : 2 ≤ b) (h : b ≤ n) : digsN b n = digsN b (n / b) ++ [hexC (n % b)] := by rw [digsN, dif_neg (by omega)]
theorem digsN_ne (b n : Nat) : digsN b n ≠ [] := by
  rw [digsN]; split <;> simp
theorem valB_append (base : Nat) : ∀ (a b : Bs) (n : Nat), valB base (a ++ b) n = valB base b (valB base a n)
  | [], b, n => rfl
  | c :: a, b, n => by simp only [List.cons_append, valB]; exact valB_append base a b _
theorem valB_digs (b : Nat) (h2 : 2 ≤ b) (h16 : b ≤ 16) : ∀ (k n : Nat), n < k → valB b (digsN b n) 0 = n
  | 0, n, h => by omega
  | k + 1, n, h => by
    by_cases hs : n < b
    · rw [digsN_small hs, valB, valB, digV_hexC n (by omega)]; omega
    · have hd : n / b < n := Nat.div_lt_self (by omega) (by omega)
      rw [digsN_big h2 (by omega), valB_append, valB_digs b h2 h16 k (n / b) (by omega), valB, valB, digV_hexC _ (by have := Nat.mod_lt n (by omega : b > 0); omega)]
      exact Nat.div_add_mod' n b
theorem digs_mem (b : Nat) (h2 : 2 ≤ b) (h16 : b ≤ 16) : ∀ (k n : Nat), n < k → ∀ x ∈ digsN b n, ∃ d, d < b ∧ x = hexC d
  | 0, n, h => by omega
  | k + 1, n, h => by
    intro x hx
    by_cases hs : n < b
    · rw [digsN_small hs] at hx
      exact ⟨n, hs, by simpa using hx⟩
    · have hd : n / b < n := Nat.div_lt_self (by omega) (by omega)
      rw [digsN_big h2 (by omega)] at hx
      rcases List.mem_append.1 hx with hx | hx
      · exact digs_mem b h2 h16 k (n / b) (by omega) x hx
      · exact ⟨n % b, Nat.mod_lt n (by omega), by simpa using hx⟩
theorem digs_digV (b : Nat) (h2 : 2 ≤ b) (h16 : b ≤ 16) (n : Nat) : ∀ x ∈ digsN b n, digV x < b := by
  intro x hx
  obtain ⟨d, hd, rfl⟩ := digs_mem b h2 h16 (n + 1) n (by omega) x hx
  rw [digV_hexC d (by omega)]; exact hd
theorem allB_digs (b : Nat) (h2 : 2 ≤ b) (h16 : b ≤ 16) (n : Nat) : allB b (digsN b n) = true := by
  unfold allB
  rw [List.all_eq_true]
  intro x hx
  exact decide_eq_true (digs_digV b h2 h16 n x hx)
theorem numB_digs (b : Nat) (h2 : 2 ≤ b) (h16 : b ≤ 16) (n : Nat) (hn : n ≤ 1099511627776) : numB b (digsN b n) = (n, true) := by
  unfold numB
  rw [if_pos (allB_digs b h2 h16 n), satB_zero b (by omega), valB_digs b h2 h16 (n + 1) n (by omega), Nat.min_eq_left hn]
theorem digs_ten : ∀ (k n : Nat), n < k → digsN 10 n = Lib.decDigits n
  | 0, n, h => by omega
  | k + 1, n, h => by
    rw [Lib.decDigits]
    by_cases hs : n < 10
    · rw [digsN_small hs, dif_pos hs, hexC, if_pos hs]
    · rw [digsN_big (by omega) (by omega), dif_neg hs, digs_ten k (n / 10) (by omega), hexC, if_pos (by omega)]
theorem digs_no (b : Nat) (h2 : 2 ≤ b) (h16 : b ≤ 16) (n : Nat) (c : UInt8) (hc : digV c = 99) : ∀ x ∈ digsN b n, x ≠ c := by
  rintro x hx rfl
  have := digs_digV b h2 h16 n x hx
  omega
/-- How many digits at most. -/
theorem digs_len (b : Nat) (h2 : 2 ≤ b) : ∀ (k n : Nat), n < b ^ k → 1 ≤ k → (digsN b n).length ≤ k
  | 0, n, _, h => by omega
  | k + 1, n, h, _ => by
    by_cases hs : n < b
    · rw [digsN_small hs]; simp
    · rw [digsN_big h2 (by omega)]
      have hk : 1 ≤ k := by
        rcases Nat.eq_zero_or_pos k with rfl | hk
        · simp at h; omega
        · exact hk
      have := digs_len b h2 k (n / b) (Nat.div_lt_of_lt_mul (by rw [Nat.pow_succ, Nat.mul_comm] at h; exact h)) hk
      simp; omega
/-- A loop that lays a number's digits, the last ones first: what is laid and what is left. -/
def DigSt (b n : Nat) (s : Bs) (m : Nat) : Prop := (s = [] ∧ m = n) ∨ (s ≠ [] ∧ digsN b n = if m = 0 then s else digsN b m ++ s)
theorem DigSt.step {b n m : Nat} {s : Bs} (h2 : 2 ≤ b) (h : DigSt b n s m) (hm : 0 < m ∨ s = []) : DigSt b n (hexC (m % b) :: s) (m / b) := by
  right
  refine ⟨by simp, ?_⟩
  rcases h with ⟨rfl, rfl⟩ | ⟨hs, he⟩
  · by_cases hb : m < b
    · rw [Nat.div_eq_of_lt hb, if_pos rfl, digsN_small hb, Nat.mod_eq_of_lt hb]
    · have : m / b ≠ 0 := by have := Nat.div_pos (by omega : b ≤ m) (by omega); omega
      rw [if_neg this, digsN_big h2 (by omega)]
  · have hm0 : m ≠ 0 := by rcases hm with h | h; omega; exact absurd h hs
    rw [he, if_neg hm0]
    by_cases hb : m < b
    · rw [Nat.div_eq_of_lt hb, if_pos rfl, digsN_small hb, Nat.mod_eq_of_lt hb]; rfl
    · have : m / b ≠ 0 := by have := Nat.div_pos (by omega : b ≤ m) (by omega); omega
      rw [if_neg this, digsN_big h2 (by omega)]; simp
theorem DigSt.fin {b n : Nat} {s : Bs} (h : DigSt b n s 0) (hs : s ≠ []) : s = digsN b n := by
  rcases h with ⟨h, _⟩ | ⟨_, h⟩
  · exact absurd h hs
  · rw [if_pos rfl] at h; exact h.symm
theorem DigSt.len {b n m : Nat} {s : Bs} (h : DigSt b n s m) : s.length ≤ (digsN b n).length := by
  rcases h with ⟨rfl, _⟩ | ⟨_, h⟩
  · simp
  · rw [h]; split
    · exact Nat.le_refl _
    · simp
/-- The letter at a digit's place. -/
theorem lit_hex (d : Nat) (h : d < 16) : (⟨#[48, 49, 50, 51, 52, 53, 54, 55, 56, 57, 97, 98, 99, 100, 101, 102]⟩ : ByteArray).extract d (d + 1) = mk [hexC d] := by
  have : ∀ d : Fin 16, (⟨#[48, 49, 50, 51, 52, 53, 54, 55, 56, 57, 97, 98, 99, 100, 101, 102]⟩ : ByteArray).extract d.1 (d.1 + 1) = mk [hexC d.1] := by decide
  exact this ⟨d, h⟩
theorem lower_hexC (d : Nat) (h : d < 16) : lowB (hexC d) = hexC d := by
  have : ∀ d : Fin 16, lowB (hexC d.1) = hexC d.1 := by decide
  exact this ⟨d, h⟩
theorem lower_digs (b : Nat) (h2 : 2 ≤ b) (h16 : b ≤ 16) (n : Nat) : lower (digsN b n) = digsN b n := by
  unfold lower
  conv => rhs; rw [← List.map_id (digsN b n)]
  apply List.map_congr_left
  intro x hx
  obtain ⟨d, hd, rfl⟩ := digs_mem b h2 h16 (n + 1) n (by omega) x hx
  exact lower_hexC d (by omega)
end Hs
