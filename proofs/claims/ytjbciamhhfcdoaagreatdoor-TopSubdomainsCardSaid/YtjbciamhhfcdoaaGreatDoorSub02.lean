/- Plain functions of Punycode: thresholds, bias, digits, numbers, decoding, encoding. No program in sight. Conditions: none. -/
import Derived.Test.YtjbciamhhfcdoaaGreatDoorSub01
namespace Hs
open Go
set_option linter.unusedVariables false
set_option linter.unusedSimpArgs false

/-- The value of a digit, or 99. -/
def pv (b : UInt8) : Nat := if 97 ≤ b.toNat ∧ b.toNat ≤ 122 then b.toNat - 97 else if 65 ≤ b.toNat ∧ b.toNat ≤ 90 then b.toNat - 65 else if 48 ≤ b.toNat ∧ b.toNat ≤ 57 then b.toNat - 48 + 26 else 99
theorem pv_cases (b : UInt8) : (97 ≤ b.toNat ∧ b.toNat ≤ 122 ∧ pv b = b.toNat - 97) ∨ (65 ≤ b.toNat ∧ b.toNat ≤ 90 ∧ pv b = b.toNat - 65) ∨ (48 ≤ b.toNat ∧ b.toNat ≤ 57 ∧ pv b = b.toNat - 48 + 26) ∨ (¬ (97 ≤ b.toNat ∧ b.toNat ≤ 122) ∧ ¬ (65 ≤ b.toNat ∧ b.toNat ≤ 90) ∧ ¬ (48 ≤ b.toNat ∧ b.toNat ≤ 57) ∧ pv b = 99) := by
  unfold pv
  split
  · omega
  · split
    · omega
    · split <;> omega
theorem pv_lt {b : UInt8} (h : pv b ≠ 99) : pv b < 36 := by have := pv_cases b; omega
/-- The value of a digit, or -1. -/
def pvI (b : UInt8) : Int := if pv b = 99 then -1 else (pv b : Int)
/-- The byte of a digit. -/
def pd (d : Nat) : UInt8 := if d < 26 then UInt8.ofNat (97 + d) else UInt8.ofNat (22 + d)
theorem pd_nat (d : Nat) (h : d < 36) : (((pd d).toNat : Nat) : Int) = if d < 26 then ((97 + d : Nat) : Int) else ((22 + d : Nat) : Int) := by
  have : ∀ d : Fin 36, (pd d.1).toNat = if d.1 < 26 then 97 + d.1 else 22 + d.1 := by decide
  have := this ⟨d, h⟩
  simp only at this
  rw [this]
  split <;> rfl
/-- The threshold of the digit with number k. -/
def thr (k bias : Nat) : Nat := max 1 (min 26 (36 * (k + 1) - bias))
theorem thr_bounds (k bias : Nat) : 1 ≤ thr k bias ∧ thr k bias ≤ 26 := by unfold thr; omega
/-- The loop of the bias. -/
def adaptL (e k : Nat) : Nat := if h : 455 < e then adaptL (e / 35) (k + 36) else k + 36 * e / (e + 38)
termination_by e
decreasing_by exact Nat.div_lt_self (by omega) (by omega)
theorem adaptL_big {e k : Nat} (h : 455 < e) : adaptL e k = adaptL (e / 35) (k + 36) := by rw [adaptL, dif_pos h]
theorem adaptL_small {e k : Nat} (h : ¬ 455 < e) : adaptL e k = k + 36 * e / (e + 38) := by rw [adaptL, dif_neg h]
/-- The new bias. -/
def adaptN (delta count : Nat) (first : Bool) : Nat := adaptL ((if first = true then delta / 700 else delta / 2) + (if first = true then delta / 700 else delta / 2) / count) 0
theorem adaptL_le : ∀ (j e k : Nat), e < 456 * 35 ^ j → adaptL e k ≤ k + 36 * j + 36
  | 0, e, k, h => by
    rw [adaptL_small (by simp at h; omega)]
    have : 36 * e / (e + 38) ≤ 36 := by
      apply Nat.le_of_lt_succ
      rw [Nat.div_lt_iff_lt_mul (by omega)]
      omega
    omega
  | j + 1, e, k, h => by
    by_cases hb : 455 < e
    · rw [adaptL_big hb]
      have := adaptL_le j (e / 35) (k + 36) (by rw [Nat.pow_succ, ← Nat.mul_assoc] at h; exact Nat.div_lt_of_lt_mul (by rw [Nat.mul_comm]; exact h))
      omega
    · rw [adaptL_small hb]
      have : 36 * e / (e + 38) ≤ 36 := by
        apply Nat.le_of_lt_succ
        rw [Nat.div_lt_iff_lt_mul (by omega)]
        omega
      omega
theorem adaptN_le (delta count : Nat) (first : Bool) (h : delta ≤ 1099511627776) : adaptN delta count first ≤ 324 := by
  unfold adaptN
  have h1 : (if first = true then delta / 700 else delta / 2) ≤ 549755813888 := by split <;> omega
  generalize (if first = true then delta / 700 else delta / 2) = d at h1
  have h2 : d / count ≤ d := Nat.div_le_self _ _
  have := adaptL_le 8 (d + d / count) 0 (by have : (35 : Nat) ^ 8 = 2251875390625 := by decide
                                            omega)
  omega
/-- A code point. -/
def ptOk (n : Nat) : Bool := decide (n ≤ 1114111 ∧ (n < 55296 ∨ 57343 < n))
/-- A number: what is reached and what is left. -/
def numD : Bs → Nat → Nat → Nat → Nat → Option (Nat × Bs)
  | [], _, _, _, _ => none
  | b :: r, i, w, k, bias =>
    if pv b = 99 then none
    else if 1099511627776 < i + pv b * w then none
    else if pv b < thr k bias then some (i + pv b * w, r)
    else if 1099511627776 < w * (36 - thr k bias) then none
    else numD r (i + pv b * w) (w * (36 - thr k bias)) (k + 1) bias
theorem numD_short : ∀ (l : Bs) (i w k bias : Nat) (p : Nat × Bs), numD l i w k bias = some p → p.2.length < l.length ∧ i ≤ p.1 ∧ p.1 ≤ 1099511627776
  | [], i, w, k, bias, p, h => by cases h
  | b :: r, i, w, k, bias, p, h => by
    unfold numD at h
    split at h
    · cases h
    · split at h
      · cases h
      · split at h
        · cases h
          simp
          omega
        · split at h
          · cases h
          · have := numD_short r _ _ _ _ p h
            simp
            omega
/-- A list with an element put in. -/
def putIn (l : List Nat) (i n : Nat) : List Nat := l.take i ++ n :: l.drop i
theorem length_putIn (l : List Nat) (i n : Nat) : (putIn l i n).length = l.length + 1 := by simp [putIn]; omega
/-- The code points behind those that are read already. -/
def decR : Nat → Bs → Nat → Nat → Nat → Bool → List Nat → Option (List Nat)
  | _, [], _, _, _, _, pts => some pts
  | 0, _ :: _, _, _, _, _, _ => none
  | fuel + 1, b :: r, n, i, bias, first, pts => match numD (b :: r) i 1 0 bias with
    | none => none
    | some p => if ptOk (n + p.1 / (pts.length + 1)) = false then none
      else if 256 < pts.length + 1 then none
      else decR fuel p.2 (n + p.1 / (pts.length + 1)) (p.1 % (pts.length + 1) + 1) (adaptN (p.1 - i) (pts.length + 1) first) false (putIn pts (p.1 % (pts.length + 1)) (n + p.1 / (pts.length + 1)))
/-- Enough fuel is enough. -/
theorem decR_fuel : ∀ (f g : Nat) (l : Bs) (n i bias : Nat) (first : Bool) (pts : List Nat), l.length ≤ f → l.length ≤ g → decR f l n i bias first pts = decR g l n i bias first pts
  | _, _, [], _, _, _, _, _, _, _ => by simp [decR]
  | 0, _, b :: r, _, _, _, _, _, h, _ => by simp at h
  | f + 1, 0, b :: r, _, _, _, _, _, _, h => by simp at h
  | f + 1, g + 1, b :: r, n, i, bias, first, pts, hf, hg => by
    unfold decR
    cases hn : numD (b :: r) i 1 0 bias with
    | none => rfl
    | some p =>
      have := (numD_short _ _ _ _ _ p hn).1
      simp only [List.length_cons] at this hf hg
      simp only
      rw [decR_fuel f g p.2 _ _ _ _ _ (by omega) (by omega)]
/-- The code points of the digits of a text. -/
def decL (l : Bs) (n i bias : Nat) (first : Bool) (pts : List Nat) : Option (List Nat) := decR l.length l n i bias first pts
theorem decL_nil (n i bias : Nat) (first : Bool) (pts : List Nat) : decL [] n i bias first pts = some pts := by simp [decL, decR]
theorem decL_none {l : Bs} (h0 : l ≠ []) {n i bias : Nat} {first : Bool} {pts : List Nat} (h : numD l i 1 0 bias = none) : decL l n i bias first pts = none := by
  cases l with
  | nil => exact absurd rfl h0
  | cons b r => simp only [decL, List.length_cons, decR, h]
theorem decL_some {l : Bs} {n i bias : Nat} {first : Bool} {pts : List Nat} {p : Nat × Bs} (h : numD l i 1 0 bias = some p) : decL l n i bias first pts = if ptOk (n + p.1 / (pts.length + 1)) = false then none else if 256 < pts.length + 1 then none else decL p.2 (n + p.1 / (pts.length + 1)) (p.1 % (pts.length + 1) + 1) (adaptN (p.1 - i) (pts.length + 1) first) false (putIn pts (p.1 % (pts.length + 1)) (n + p.1 / (pts.length + 1))) := by
  cases l with
  | nil => simp [numD] at h
  | cons b r =>
    have hs := (numD_short _ _ _ _ _ p h).1
    simp only [List.length_cons] at hs
    simp only [decL, List.length_cons, decR, h]
    rw [decR_fuel r.length p.2.length p.2 _ _ _ _ _ (by omega) (Nat.le_refl _)]
/-- Where the last hyphen stands, or -1. -/
def dashI : Bs → Int
  | [] => -1
  | b :: r => if 0 ≤ dashI r then dashI r + 1 else if b = 45 then 0 else -1
theorem dashI_bounds : ∀ l : Bs, -1 ≤ dashI l ∧ dashI l < l.length
  | [] => by simp [dashI]
  | b :: r => by
    have := dashI_bounds r
    unfold dashI
    split
    · simp; omega
    · split <;> simp <;> omega
/-- What is read before the digits, and the digits. -/
def cutD (l : Bs) : Bs × Bs := if 0 < dashI l then (l.take (dashI l).toNat, l.drop ((dashI l).toNat + 1)) else ([], l)
theorem cutD_len (l : Bs) : (cutD l).1.length + (cutD l).2.length ≤ l.length := by
  have := dashI_bounds l
  unfold cutD
  split
  · simp; omega
  · simp
/-- The code points of a text. -/
def decV (l : Bs) : Option (List Nat) :=
  if 1024 < l.length then none
  else if l.any (fun b => decide (128 ≤ b.toNat)) = true then none
  else if 256 < (cutD l).1.length then none
  else decL (cutD l).2 128 0 72 true ((cutD l).1.map UInt8.toNat)

/-! ### Encoding -/
/-- The digits of a number. -/
def encN (q k bias : Nat) : Bs := if h : q < thr k bias then [pd q] else pd (thr k bias + (q - thr k bias) % (36 - thr k bias)) :: encN ((q - thr k bias) / (36 - thr k bias)) (k + 1) bias
termination_by q
decreasing_by
  have h1 := thr_bounds k bias
  have h2 := Nat.div_le_self (q - thr k bias) (36 - thr k bias)
  omega
theorem encN_small {q k bias : Nat} (h : q < thr k bias) : encN q k bias = [pd q] := by rw [encN, dif_pos h]
theorem encN_big {q k bias : Nat} (h : ¬ q < thr k bias) : encN q k bias = pd (thr k bias + (q - thr k bias) % (36 - thr k bias)) :: encN ((q - thr k bias) / (36 - thr k bias)) (k + 1) bias := by rw [encN, dif_neg h]
theorem encN_len : ∀ (j q k bias : Nat), q < 10 ^ j → (encN q k bias).length ≤ j + 1
  | 0, q, k, bias, h => by
    have := thr_bounds k bias
    rw [encN_small (by simp at h; omega)]
    simp
  | j + 1, q, k, bias, h => by
    by_cases hs : q < thr k bias
    · rw [encN_small hs]; simp
    · have h1 := thr_bounds k bias
      rw [encN_big hs, List.length_cons]
      have h2 : (q - thr k bias) / (36 - thr k bias) < 10 ^ j := by
        apply Nat.div_lt_of_lt_mul
        rw [Nat.pow_succ] at h
        have h3 : 10 ^ j * 10 ≤ (36 - thr k bias) * 10 ^ j := by rw [Nat.mul_comm]; exact Nat.mul_le_mul_right _ (by omega)
        omega
      have := encN_len j _ (k + 1) bias h2
      omega
/-- One pass over the code points: those that are n are laid. -/
def encPass (n b0 : Nat) : List Nat → Bs → Nat → Nat → Nat → Bs × Nat × Nat × Nat
  | [], out, delta, bias, done => (out, delta, bias, done)
  | p :: r, out, delta, bias, done =>
    if p < n then encPass n b0 r out (delta + 1) bias done
    else if p = n then encPass n b0 r (out ++ encN delta 0 bias) 0 (adaptN delta (done + 1) (decide (done = b0))) (done + 1)
    else encPass n b0 r out delta bias done
/-- The least of the code points that are not below n; D if there is none. -/
def minGE (n D : Nat) : List Nat → Nat
  | [] => D
  | p :: r => if n ≤ p then min p (minGE n D r) else minGE n D r
/-- The passes. -/
def encR (pts : List Nat) (b0 : Nat) : Nat → Nat → Bs → Nat → Nat → Nat → Bs
  | 0, _, out, _, _, _ => out
  | f + 1, n, out, delta, bias, done =>
    if pts.length ≤ done then out
    else encR pts b0 f (minGE n 1114112 pts + 1)
      (encPass (minGE n 1114112 pts) b0 pts out (delta + (minGE n 1114112 pts - n) * (done + 1)) bias done).1
      ((encPass (minGE n 1114112 pts) b0 pts out (delta + (minGE n 1114112 pts - n) * (done + 1)) bias done).2.1 + 1)
      (encPass (minGE n 1114112 pts) b0 pts out (delta + (minGE n 1114112 pts - n) * (done + 1)) bias done).2.2.1
      (encPass (minGE n 1114112 pts) b0 pts out (delta + (minGE n 1114112 pts - n) * (done + 1)) bias done).2.2.2
/-- The bytes that stand for themselves. -/
def basicB (pts : List Nat) : Bs := (pts.filter (fun p => decide (p < 128))).map UInt8.ofNat
/-- The text of code points. -/
def encV (pts : List Nat) : Option Bs :=
  if 256 < pts.length then none
  else if pts.all ptOk = false then none
  else some (encR pts (basicB pts).length pts.length 128 (basicB pts ++ if (basicB pts).length = 0 then [] else [45]) 0 72 (basicB pts).length)

/-! ### Counting -/
def below (n : Nat) (l : List Nat) : Nat := (l.filter (fun p => decide (p < n))).length
def equals (n : Nat) (l : List Nat) : Nat := (l.filter (fun p => decide (p = n))).length
theorem below_succ (n : Nat) : ∀ l : List Nat, below (n + 1) l = below n l + equals n l
  | [] => rfl
  | p :: r => by
    have ih := below_succ n r
    unfold below equals at *
    simp only [List.filter_cons]
    by_cases h1 : p < n
    · rw [if_pos (by simp; omega), if_pos (by simpa using h1), if_neg (by simp; omega)]
      simp only [List.length_cons]; omega
    · by_cases h2 : p = n
      · rw [if_pos (by simp; omega), if_neg (by simpa using h1), if_pos (by simpa using h2)]
        simp only [List.length_cons]; omega
      · rw [if_neg (by simp; omega), if_neg (by simpa using h1), if_neg (by simpa using h2)]
        exact ih
theorem below_le (n : Nat) (l : List Nat) : below n l ≤ l.length := List.length_filter_le _ _
theorem below_same {n m : Nat} (hnm : n ≤ m) : ∀ l : List Nat, (∀ p ∈ l, n ≤ p → m ≤ p) → below m l = below n l
  | [], _ => rfl
  | p :: r, h => by
    have ih := below_same hnm r (fun q hq => h q (List.mem_cons_of_mem _ hq))
    have hp := h p (List.mem_cons_self ..)
    unfold below at *
    simp only [List.filter_cons]
    by_cases h1 : p < n
    · rw [if_pos (by simp; omega), if_pos (by simpa using h1)]
      simp only [List.length_cons]; omega
    · rw [if_neg (by simp; omega), if_neg (by simpa using h1)]
      exact ih
theorem minGE_le (n D : Nat) : ∀ l : List Nat, ∀ p ∈ l, n ≤ p → minGE n D l ≤ p
  | [], p, h, _ => by cases h
  | q :: r, p, h, hn => by
    unfold minGE
    rcases List.mem_cons.1 h with rfl | h
    · rw [if_pos hn]; omega
    · have := minGE_le n D r p h hn
      split <;> omega
theorem minGE_ge (n D : Nat) (hD : n ≤ D) : ∀ l : List Nat, n ≤ minGE n D l
  | [] => hD
  | q :: r => by
    have := minGE_ge n D hD r
    unfold minGE
    split <;> omega
theorem minGE_none (n D : Nat) : ∀ l : List Nat, (∀ p ∈ l, n ≤ p → D < p) → minGE n D l = D
  | [], _ => rfl
  | q :: r, h => by
    have ih := minGE_none n D r (fun p hp => h p (List.mem_cons_of_mem _ hp))
    have hq := h q (List.mem_cons_self ..)
    unfold minGE
    rw [ih]
    split
    · have := hq (by assumption); omega
    · rfl
theorem minGE_mem (n D : Nat) : ∀ l : List Nat, (∃ p ∈ l, n ≤ p ∧ p ≤ D) → minGE n D l ∈ l ∨ minGE n D l = D
  | [], h => by obtain ⟨p, hp, _⟩ := h; cases hp
  | q :: r, h => by
    unfold minGE
    by_cases hr : ∃ p ∈ r, n ≤ p ∧ p ≤ D
    · have ih := minGE_mem n D r hr
      split
      · rcases Nat.le_total q (minGE n D r) with hh | hh
        · rw [Nat.min_eq_left hh]; exact .inl (List.mem_cons_self ..)
        · rw [Nat.min_eq_right hh]
          rcases ih with h1 | h1
          · exact .inl (List.mem_cons_of_mem _ h1)
          · exact .inr h1
      · rcases ih with h1 | h1
        · exact .inl (List.mem_cons_of_mem _ h1)
        · exact .inr h1
    · have hD : minGE n D r = D := minGE_none n D r (fun p hp hn => by
        rcases Nat.lt_or_ge D p with h1 | h1
        · exact h1
        · exact absurd ⟨p, hp, hn, h1⟩ hr)
      rw [hD]
      split
      · rcases Nat.le_total q D with hh | hh
        · rw [Nat.min_eq_left hh]; exact .inl (List.mem_cons_self ..)
        · rw [Nat.min_eq_right hh]; exact .inr rfl
      · exact .inr rfl
/-- The default does not matter where it is not needed. -/
theorem minGE_default (n D E : Nat) : ∀ l : List Nat, (∃ p ∈ l, n ≤ p) → (∀ p ∈ l, p ≤ D ∧ p ≤ E) → minGE n D l = minGE n E l
  | [], h, _ => by obtain ⟨p, hp, _⟩ := h; cases hp
  | q :: r, h, hl => by
    unfold minGE
    by_cases hr : ∃ p ∈ r, n ≤ p
    · rw [minGE_default n D E r hr (fun p hp => hl p (List.mem_cons_of_mem _ hp))]
    · have hq : n ≤ q := by
        obtain ⟨p, hp, hn⟩ := h
        rcases List.mem_cons.1 hp with rfl | hp
        · exact hn
        · exact absurd ⟨p, hp, hn⟩ hr
      have e1 : minGE n D r = D := minGE_none n D r (fun p hp hn => absurd ⟨p, hp, hn⟩ hr)
      have e2 : minGE n E r = E := minGE_none n E r (fun p hp hn => absurd ⟨p, hp, hn⟩ hr)
      have := hl q (List.mem_cons_self ..)
      rw [if_pos hq, if_pos hq, e1, e2, Nat.min_eq_left this.1, Nat.min_eq_left this.2]
/-- Where not all code points are below n, there is one that is not. -/
theorem exists_ge {n : Nat} : ∀ {l : List Nat}, below n l < l.length → ∃ p ∈ l, n ≤ p
  | [], h => by simp [below] at h
  | q :: r, h => by
    by_cases hq : n ≤ q
    · exact ⟨q, List.mem_cons_self .., hq⟩
    · have : below n r < r.length := by
        unfold below at h ⊢
        rw [List.filter_cons, if_pos (by simp; omega)] at h
        simpa using h
      obtain ⟨p, hp, hn⟩ := exists_ge this
      exact ⟨p, List.mem_cons_of_mem _ hp, hn⟩
theorem equals_pos {n : Nat} : ∀ {l : List Nat}, n ∈ l → 0 < equals n l
  | [], h => by cases h
  | q :: r, h => by
    unfold equals
    rw [List.filter_cons]
    rcases List.mem_cons.1 h with rfl | h
    · rw [if_pos (by simp)]; simp
    · have := equals_pos h
      unfold equals at this
      split
      · simp
      · exact this
/-- What a pass does to the number of those that are laid. -/
theorem encPass_done (n b0 : Nat) : ∀ (l : List Nat) (out : Bs) (delta bias done : Nat), (encPass n b0 l out delta bias done).2.2.2 = done + equals n l
  | [], out, delta, bias, done => rfl
  | p :: r, out, delta, bias, done => by
    unfold encPass equals
    rw [List.filter_cons]
    by_cases h1 : p < n
    · rw [if_pos h1, encPass_done n b0 r, if_neg (by simp; omega)]; rfl
    · rw [if_neg h1]
      by_cases h2 : p = n
      · rw [if_pos h2, encPass_done n b0 r, if_pos (by simpa using h2), List.length_cons]
        show done + 1 + equals n r = _
        unfold equals; omega
      · rw [if_neg h2, encPass_done n b0 r, if_neg (by simpa using h2)]; rfl
end Hs
namespace Hs
open Go
set_option linter.unusedVariables false
set_option linter.unusedSimpArgs false
/-- What a pass leaves of the distance. -/
theorem encPass_delta (n b0 : Nat) : ∀ (l : List Nat) (out : Bs) (delta bias done : Nat), (encPass n b0 l out delta bias done).2.1 ≤ delta + l.length ∧ (n ∈ l → (encPass n b0 l out delta bias done).2.1 ≤ l.length)
  | [], out, delta, bias, done => ⟨by simp [encPass], by simp⟩
  | p :: r, out, delta, bias, done => by
    unfold encPass
    by_cases h1 : p < n
    · rw [if_pos h1]
      have ih := encPass_delta n b0 r out (delta + 1) bias done
      refine ⟨by have := ih.1; simp; omega, fun h => ?_⟩
      rcases List.mem_cons.1 h with h | h
      · omega
      · have := ih.2 h; simp; omega
    · rw [if_neg h1]
      by_cases h2 : p = n
      · rw [if_pos h2]
        have ih := encPass_delta n b0 r (out ++ encN delta 0 bias) 0 (adaptN delta (done + 1) (decide (done = b0))) (done + 1)
        refine ⟨by have := ih.1; simp; omega, fun h => by have := ih.1; simp; omega⟩
      · rw [if_neg h2]
        have ih := encPass_delta n b0 r out delta bias done
        refine ⟨by have := ih.1; simp; omega, fun h => ?_⟩
        rcases List.mem_cons.1 h with h | h
        · exact absurd h.symm h2
        · have := ih.2 h; simp; omega
/-- How the passes go on. -/
structure EncSt (pts : List Nat) (b0 : Nat) (R : Bs) (n : Nat) (out : Bs) (delta bias done : Nat) : Prop where
  rest : ∃ f, R = encR pts b0 f n out delta bias done ∧ pts.length ≤ done + f
  count : done = below n pts
  small : delta ≤ 257
  fits : out.length ≤ 257 + 11 * done
  low : bias ≤ 324
theorem EncSt.fin {pts : List Nat} {b0 : Nat} {R : Bs} {n : Nat} {out : Bs} {delta bias done : Nat} (h : EncSt pts b0 R n out delta bias done) (hd : pts.length ≤ done) : R = out := by
  obtain ⟨f, hf, _⟩ := h.rest
  cases f with
  | zero => rw [hf]; rfl
  | succ f => rw [hf, encR, if_pos hd]
theorem EncSt.more {pts : List Nat} {b0 : Nat} {R : Bs} {n : Nat} {out : Bs} {delta bias done : Nat} (h : EncSt pts b0 R n out delta bias done) (hd : done < pts.length) (hp : ∀ p ∈ pts, p ≤ 1114111) :
    n ≤ minGE n 1114112 pts ∧ minGE n 1114112 pts ≤ 1114111 ∧ minGE n 1114112 pts ∈ pts ∧ below (minGE n 1114112 pts) pts = done ∧ ∃ p ∈ pts, n ≤ p := by
  have hc := h.count
  obtain ⟨p, hm, hn⟩ := exists_ge (n := n) (l := pts) (by omega)
  have h1 := minGE_le n 1114112 pts p hm hn
  have h2 := hp p hm
  have h3 := minGE_mem n 1114112 pts ⟨p, hm, hn, by omega⟩
  have h4 : minGE n 1114112 pts ∈ pts := by
    rcases h3 with h | h
    · exact h
    · omega
  have h5 := minGE_ge n 1114112 (by omega) pts
  exact ⟨h5, by omega, h4, by rw [hc]; exact below_same h5 pts (fun q hq hnq => minGE_le n 1114112 pts q hq hnq), p, hm, hn⟩
theorem EncSt.next {pts : List Nat} {b0 : Nat} {R : Bs} {n : Nat} {out : Bs} {delta bias done : Nat} (h : EncSt pts b0 R n out delta bias done) (hd : done < pts.length) (hl : pts.length ≤ 256) (hp : ∀ p ∈ pts, p ≤ 1114111) (S : Bs × Nat × Nat × Nat)
    (hS : S = encPass (minGE n 1114112 pts) b0 pts out (delta + (minGE n 1114112 pts - n) * (done + 1)) bias done) (hout : S.1.length ≤ 257 + 11 * S.2.2.2) (hbias : S.2.2.1 ≤ 324) : EncSt pts b0 R (minGE n 1114112 pts + 1) S.1 (S.2.1 + 1) S.2.2.1 S.2.2.2 := by
  obtain ⟨h1, h2, h3, h4, _⟩ := h.more hd hp
  obtain ⟨f, hf, hlen⟩ := h.rest
  have hdone : S.2.2.2 = done + equals (minGE n 1114112 pts) pts := by rw [hS, encPass_done]
  have hpos := equals_pos h3
  refine ⟨?_, ?_, ?_, hout, hbias⟩
  · cases f with
    | zero => omega
    | succ f =>
      refine ⟨f, ?_, by omega⟩
      rw [hf, encR, if_neg (by omega), ← hS]
  · rw [hdone, below_succ, h4]
  · have := (encPass_delta (minGE n 1114112 pts) b0 pts out (delta + (minGE n 1114112 pts - n) * (done + 1)) bias done).2 h3
    rw [← hS] at this
    omega
theorem enc_start (pts : List Nat) (hl : pts.length ≤ 256) : EncSt pts (basicB pts).length (encR pts (basicB pts).length pts.length 128 (basicB pts ++ if (basicB pts).length = 0 then [] else [45]) 0 72 (basicB pts).length) 128 (basicB pts ++ if (basicB pts).length = 0 then [] else [45]) 0 72 (basicB pts).length := by
  have hb : (basicB pts).length = below 128 pts := by unfold basicB below; rw [List.length_map]
  have hle := below_le 128 pts
  refine ⟨⟨pts.length, rfl, by omega⟩, hb, by omega, ?_, by omega⟩
  split <;> simp <;> omega
/-- A step of a pass. -/
theorem encPass_lt {n b0 p : Nat} {r : List Nat} {out : Bs} {delta bias done : Nat} (h : p < n) : encPass n b0 (p :: r) out delta bias done = encPass n b0 r out (delta + 1) bias done := by rw [encPass, if_pos h]
theorem encPass_eq {n b0 p : Nat} {r : List Nat} {out : Bs} {delta bias done : Nat} (h : p = n) : encPass n b0 (p :: r) out delta bias done = encPass n b0 r (out ++ encN delta 0 bias) 0 (adaptN delta (done + 1) (decide (done = b0))) (done + 1) := by rw [encPass, if_neg (by omega), if_pos h]
theorem encPass_gt {n b0 p : Nat} {r : List Nat} {out : Bs} {delta bias done : Nat} (h : n < p) : encPass n b0 (p :: r) out delta bias done = encPass n b0 r out delta bias done := by rw [encPass, if_neg (by omega), if_neg (by omega)]
end Hs
