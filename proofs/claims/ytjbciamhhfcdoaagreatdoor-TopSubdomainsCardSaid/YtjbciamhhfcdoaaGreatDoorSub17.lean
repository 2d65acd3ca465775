/- Plain functions of the layer seconds: periods, points in time; decimal digits; and their laws. No program in sight. Conditions: none.
   Plain laws of layer 10: what Format writes is read back. No program in sight. Conditions: none.
   Plain functions: the digits of a number in a base up to 16, and their laws. No program in sight. Conditions: none.
   Plain laws of layer 10: numbers that are too large. No program in sight. Conditions: none.
   Plain law of layer 10: the reference's test of the last part is the program's. No program in sight. Conditions: none. -/
import Derived.Test.YtjbciamhhfcdoaaGreatDoorSub01
import Derived.Lib.ItoaNum
import Derived.Test.YtjbciamhhfcdoaaGreatDoorSub05
namespace Hs
open Go

/-- The number of digits, limited at every step to 2147483647. -/
def satV : Bs → Nat → Nat
  | [], n => n
  | b :: r, n => satV r (min (10 * n + (b.toNat - 48)) 2147483647)
/-- The number of digits. -/
def valV : Bs → Nat → Nat
  | [], n => n
  | b :: r, n => valV r (10 * n + (b.toNat - 48))
theorem satV_min : ∀ (l : Bs) (v : Nat), satV l (min v 2147483647) = min (valV l v) 2147483647
  | [], v => rfl
  | b :: r, v => by
    have ih := satV_min r (10 * v + (b.toNat - 48))
    rw [satV, valV, ← ih]
    congr 1
    omega
theorem satV_zero (l : Bs) : satV l 0 = min (valV l 0) 2147483647 := satV_min l 0
theorem satV_le (l : Bs) : satV l 0 ≤ 2147483647 := by rw [satV_zero]; omega
theorem satV_snoc : ∀ (l : Bs) (b : UInt8) (n : Nat), satV (l ++ [b]) n = min (10 * satV l n + (b.toNat - 48)) 2147483647
  | [], b, n => rfl
  | c :: l, b, n => by
    simp only [List.cons_append, satV]
    exact satV_snoc l b _
theorem satV_take (l : Bs) (k : Nat) (h : k < l.length) : satV (l.take (k + 1)) 0 = min (10 * satV (l.take k) 0 + (l[k].toNat - 48)) 2147483647 := by
  rw [List.take_succ_eq_append_getElem h, satV_snoc]
theorem valV_append : ∀ (a b : Bs) (n : Nat), valV (a ++ b) n = valV b (valV a n)
  | [], b, n => rfl
  | c :: a, b, n => by simp only [List.cons_append, valV]; exact valV_append a b _
theorem valV_ge : ∀ (l : Bs) (n : Nat), n ≤ valV l n
  | [], n => Nat.le_refl _
  | b :: r, n => by
    have := valV_ge r (10 * n + (b.toNat - 48))
    simp only [valV]; omega

/-- What Parse of seconds returns. -/
def secR (l : Bs) : Nat × Bool := if l.all isDigit then (satV l 0, !l.isEmpty) else (0, false)
theorem secR_digits (l : Bs) : secR l = if digits l then (satV l 0, true) else (0, false) := by
  unfold secR digits
  cases h : l.all isDigit
  · simp
  · cases l with
    | nil => rfl
    | cons b r => simp

/-! ### Decimal digits -/
theorem digit_byte (d : Nat) (h : d < 10) : isDigit (UInt8.ofNat (48 + d)) = true ∧ (UInt8.ofNat (48 + d)).toNat - 48 = d := by
  have e : (UInt8.ofNat (48 + d)).toNat = 48 + d := by simp; omega
  refine ⟨decide_eq_true (by omega), by omega⟩
theorem decDigits_all (u : Nat) : (Lib.decDigits u).all isDigit = true := by
  rw [Lib.decDigits]
  split
  · rename_i h
    show (isDigit (UInt8.ofNat (48 + u)) && true) = true
    rw [(digit_byte u h).1]; rfl
  · rename_i h
    rw [List.all_append, decDigits_all (u / 10)]
    show (true && (isDigit (UInt8.ofNat (48 + u % 10)) && true)) = true
    rw [(digit_byte (u % 10) (by omega)).1]; rfl
termination_by u
decreasing_by omega
theorem decDigits_ne (u : Nat) : Lib.decDigits u ≠ [] := by
  rw [Lib.decDigits]
  split <;> simp
theorem decDigits_val (u : Nat) : valV (Lib.decDigits u) 0 = u := by
  rw [Lib.decDigits]
  split
  · rename_i h
    simp only [valV, (digit_byte u h).2]; omega
  · rename_i h
    rw [valV_append, decDigits_val (u / 10)]
    simp only [valV, (digit_byte (u % 10) (by omega)).2]; omega
termination_by u
decreasing_by omega
theorem decDigits_len (u : Nat) (h : u ≤ 9999999999) : (Lib.decDigits u).length ≤ 10 := by
  have step : ∀ (k u : Nat), 0 < k → u < 10 ^ k → (Lib.decDigits u).length ≤ k := by
    intro k
    induction k with
    | zero => intro u h; omega
    | succ k ih =>
      intro u _ hu
      rw [Lib.decDigits]
      split
      · simp
      · rename_i h10
        have hk : 0 < k := by
          rcases Nat.eq_zero_or_pos k with rfl | h
          · simp at hu; omega
          · exact h
        have := ih (u / 10) hk (by rw [Nat.pow_succ] at hu; omega)
        simp; omega
  exact step 10 u (by omega) (by omega)
theorem secR_dec (u : Nat) : secR (Lib.decDigits u) = (min u 2147483647, true) := by
  unfold secR
  rw [if_pos (decDigits_all u), satV_zero, decDigits_val]
  have := decDigits_ne u
  simp [this]
theorem secR_zeros_dec (u : Nat) : secR ([48, 48, 48] ++ Lib.decDigits u) = (min u 2147483647, true) := by
  unfold secR
  have h : ([48, 48, 48] ++ Lib.decDigits u).all isDigit = true := by rw [List.all_append, decDigits_all u]; decide
  rw [if_pos h, satV_zero, valV_append]
  have e : valV [48, 48, 48] 0 = 0 := by decide
  rw [e, decDigits_val]
  simp
theorem secR_le (l : Bs) : (secR l).1 ≤ 2147483647 := by
  unfold secR
  split
  · exact satV_le l
  · simp

/-- A number limited to a range from 0. -/
def lim (n m : Int) : Int := min (max n 0) m
def MaxT : Int := 1099511627776
def MaxA : Int := 2147483647
def expiryV (now age : Int) : Int := min (lim now MaxT + lim age MaxA) MaxT
end Hs
namespace Hs
open Go

theorem isDigit_ne46 (b : UInt8) (h : isDigit b = true) : b ≠ 46 := by
  rintro rfl
  exact absurd h (by decide)
theorem dec_no46 (n : Nat) : ∀ x ∈ Lib.decDigits n, x ≠ 46 := fun x hx => isDigit_ne46 x (List.all_eq_true.1 (decDigits_all n) x hx)
theorem splitD_fmt (v : Nat) : splitD 46 (fmtV v) = [Lib.decDigits (v / 16777216 % 256), Lib.decDigits (v / 65536 % 256), Lib.decDigits (v / 256 % 256), Lib.decDigits (v % 256)] := by
  unfold fmtV
  rw [splitD_at _ _ _ (dec_no46 _), splitD_at _ _ _ (dec_no46 _), splitD_at _ _ _ (dec_no46 _), splitD_none _ _ (dec_no46 _)]
theorem digV_of (b : UInt8) (h : isDigit b = true) : digV b = b.toNat - 48 ∧ digV b < 10 := by
  unfold isDigit at h
  unfold digV
  simp at h
  have h1 := h.1; have h2 := h.2
  rw [if_pos (by omega)]
  omega
theorem allB_dec (n : Nat) : allB 10 (Lib.decDigits n) = true := by
  unfold allB
  rw [List.all_eq_true]
  intro x hx
  exact decide_eq_true (digV_of x (List.all_eq_true.1 (decDigits_all n) x hx)).2
theorem valB_val : ∀ (l : Bs) (n : Nat), l.all isDigit = true → valB 10 l n = valV l n
  | [], n, _ => rfl
  | b :: r, n, h => by
    rw [List.all_cons, Bool.and_eq_true] at h
    rw [valB, valV, valB_val r _ h.2, (digV_of b h.1).1]
    congr 1
    omega
theorem numB_dec (n : Nat) (h : n ≤ 1099511627776) : numB 10 (Lib.decDigits n) = (n, true) := by
  unfold numB
  rw [if_pos (allB_dec n), satB_zero 10 (by decide), valB_val _ _ (decDigits_all n), decDigits_val, Nat.min_eq_left h]
theorem strN_dec (n : Nat) (h : n ≤ 255) : strN (Lib.decDigits n) = some n := by
  unfold strN
  rw [numB_dec n (by omega), if_pos ⟨rfl, h, rfl⟩]
theorem addr_sum (v : Nat) (h : v < 4294967296) : (((0 * 256 + v / 16777216 % 256) * 256 + v / 65536 % 256) * 256 + v / 256 % 256) * 256 + v % 256 = v := by omega
theorem parse_fmt (v : Nat) (h : v < 4294967296) : parseV (fmtV v) = (v, true) := by
  unfold parseV
  rw [splitD_fmt, if_pos (by simp)]
  simp only [strF, strN_dec _ (by omega : v / 16777216 % 256 ≤ 255), strN_dec _ (by omega : v / 65536 % 256 ≤ 255), strN_dec _ (by omega : v / 256 % 256 ≤ 255), strN_dec _ (by omega : v % 256 ≤ 255), addr_sum v h]
  rfl
theorem dec_ne (n : Nat) : Lib.decDigits n ≠ [] := decDigits_ne n
theorem hexP_dec (n : Nat) : hexP (Lib.decDigits n) = false := by
  have h := decDigits_all n
  unfold hexP
  split
  · rename_i a b r e
    rw [e] at h
    simp only [List.all_cons, Bool.and_eq_true] at h
    have h2 := h.2.1
    apply decide_eq_false
    rintro ⟨_, rfl | rfl⟩ <;> exact absurd h2 (by decide)
  · rfl
theorem dec_lead : ∀ (k n : Nat), n < k → 1 < (Lib.decDigits n).length → (Lib.decDigits n)[0]? ≠ some 48
  | 0, n, h, _ => by omega
  | k + 1, n, h, h1 => by
    by_cases h10 : n < 10
    · rw [Lib.decDigits_one h10] at h1; simp at h1
    · have e : Lib.decDigits n = Lib.decDigits (n / 10) ++ [UInt8.ofNat (48 + n % 10)] := by rw [Lib.decDigits, dif_neg h10]
      rw [e, List.getElem?_append_left (List.length_pos_iff.2 (decDigits_ne _))]
      by_cases h2 : n / 10 < 10
      · rw [Lib.decDigits_one h2]
        intro h3
        have h4 : (UInt8.ofNat (48 + n / 10)).toNat = 48 := by
          have := Option.some.inj h3
          rw [show UInt8.ofNat (48 + n / 10) = 48 from this]; rfl
        have h5 := (digit_byte (n / 10) h2).2
        rw [h4] at h5
        omega
      · refine dec_lead k (n / 10) (by omega) ?_
        have e2 : Lib.decDigits (n / 10) = Lib.decDigits (n / 10 / 10) ++ [UInt8.ofNat (48 + n / 10 % 10)] := by rw [Lib.decDigits, dif_neg h2]
        have h6 := List.length_pos_iff.2 (decDigits_ne (n / 10 / 10))
        rw [e2]
        simp
        exact h6
theorem numP_dec (n : Nat) (h : n ≤ 1099511627776) : numP (Lib.decDigits n) = (n, true) := by
  unfold numP
  rw [if_neg (decDigits_ne n), hexP_dec, if_neg (by decide), if_neg (fun h2 => dec_lead (n + 1) n (by omega) h2.1 h2.2), numB_dec n h]
theorem partsD_of (l p : Bs) (r : List Bs) (h : splitD 46 l = r ++ [p]) (hp : p ≠ []) : partsD l = r ++ [p] := by
  unfold partsD
  rw [h, if_neg (by simp [hp])]
theorem partsD_dot (l p : Bs) (r : List Bs) (h : splitD 46 l = (r ++ [p]) ++ [[]]) : partsD l = r ++ [p] := by
  unfold partsD
  rw [h, if_pos (by simp), List.dropLast_concat]
theorem parts_fmt (v : Nat) : partsD (fmtV v) = [Lib.decDigits (v / 16777216 % 256), Lib.decDigits (v / 65536 % 256), Lib.decDigits (v / 256 % 256)] ++ [Lib.decDigits (v % 256)] :=
  partsD_of _ _ _ (splitD_fmt v) (decDigits_ne _)
theorem parts_fmt_dot (v : Nat) : partsD (fmtV v ++ [46]) = [Lib.decDigits (v / 16777216 % 256), Lib.decDigits (v / 65536 % 256), Lib.decDigits (v / 256 % 256)] ++ [Lib.decDigits (v % 256)] := by
  refine partsD_dot _ _ _ ?_
  unfold fmtV
  simp only [List.append_assoc, List.cons_append]
  rw [splitD_at _ _ _ (dec_no46 _), splitD_at _ _ _ (dec_no46 _), splitD_at _ _ _ (dec_no46 _), splitD_at _ _ _ (dec_no46 _)]
  rfl
theorem nums_fmt (v : Nat) (h : v < 4294967296) : numsV (fmtV v) = (v, true) := by
  have h1 := numP_dec (v / 16777216 % 256) (by omega)
  have h2 := numP_dec (v / 65536 % 256) (by omega)
  have h3 := numP_dec (v / 256 % 256) (by omega)
  have h4 := numP_dec (v % 256) (by omega)
  unfold numsV
  rw [parts_fmt, if_pos (by simp)]
  simp only [List.cons_append, List.nil_append, List.length_cons, List.length_nil, Nat.reduceAdd, Nat.reduceSub, Nat.reduceMul, numF, h1, h2, h3, h4, Nat.reducePow, true_and]
  rw [if_pos (by omega), if_pos (by omega), if_pos (by omega), if_pos (by omega), addr_sum v h]
  rfl
theorem numeric_of (l p : Bs) (n : Nat) (h : (partsD l).getLast? = some p) (hp : p = Lib.decDigits n) (hn : n ≤ 1099511627776) : numericV l = true := by
  unfold numericV
  rw [h]
  subst hp
  simp only [Option.getD_some, hexP_dec, numB_dec n hn]
  cases he : (Lib.decDigits n).isEmpty
  · rfl
  · exact absurd (by simpa using he) (decDigits_ne n)
theorem numeric_fmt (v : Nat) : numericV (fmtV v) = true := numeric_of _ _ (v % 256) (by rw [parts_fmt]; simp) rfl (by omega)
theorem numeric_fmt_dot (v : Nat) : numericV (fmtV v ++ [46]) = true := numeric_of _ _ (v % 256) (by rw [parts_fmt_dot]; simp) rfl (by omega)
/-- Parts joined by a byte. -/
def joinD (c : UInt8) : List Bs → Bs
  | [] => []
  | [p] => p
  | p :: q :: r => p ++ c :: joinD c (q :: r)
theorem joinD_cons (c b : UInt8) (h : Bs) (t : List Bs) : joinD c ((b :: h) :: t) = b :: joinD c (h :: t) := by
  cases t <;> rfl
theorem joinD_split (c : UInt8) : ∀ l : Bs, joinD c (splitD c l) = l
  | [] => rfl
  | b :: r => by
    have ih := joinD_split c r
    unfold splitD
    split
    · rename_i hb
      subst hb
      cases hs : splitD b r with
      | nil => exact absurd hs (splitD_ne b r)
      | cons h t => rw [hs] at ih; show [] ++ b :: joinD b (h :: t) = _; rw [ih]; rfl
    · cases hs : splitD c r with
      | nil => exact absurd hs (splitD_ne c r)
      | cons h t => rw [hs] at ih; simp only; rw [joinD_cons, ih]
theorem strN_some {p : Bs} {n : Nat} (h : strN p = some n) : p = Lib.decDigits n ∧ n ≤ 255 := by
  unfold strN at h
  split at h
  · rename_i h2
    cases h
    exact ⟨h2.2.2.symm, h2.2.1⟩
  · cases h
theorem parse_back (l : Bs) (c : Nat) (h : parseV l = (c, true)) : c < 4294967296 ∧ fmtV c = l ∧ numericV l = true := by
  unfold parseV at h
  split at h
  · rename_i h4
    match hs : splitD 46 l, h4 with
    | [p, q, r, t], _ =>
      rw [hs] at h
      cases hp : strN p with
      | none => simp [strF, hp, optV] at h
      | some a =>
      cases hq : strN q with
      | none => simp [strF, hp, hq, optV] at h
      | some b =>
      cases hr : strN r with
      | none => simp [strF, hp, hq, hr, optV] at h
      | some d =>
      cases ht : strN t with
      | none => simp [strF, hp, hq, hr, ht, optV] at h
      | some e =>
        simp only [strF, hp, hq, hr, ht, optV, Prod.mk.injEq, and_true] at h
        obtain ⟨p1, p2⟩ := strN_some hp
        obtain ⟨q1, q2⟩ := strN_some hq
        obtain ⟨r1, r2⟩ := strN_some hr
        obtain ⟨t1, t2⟩ := strN_some ht
        refine ⟨by omega, ?_, numeric_of l t e ?_ t1 (by omega)⟩
        · have hj := joinD_split 46 l
          rw [hs] at hj
          have e1 : c / 16777216 % 256 = a := by omega
          have e2 : c / 65536 % 256 = b := by omega
          have e3 : c / 256 % 256 = d := by omega
          have e4 : c % 256 = e := by omega
          unfold fmtV
          rw [e1, e2, e3, e4, ← p1, ← q1, ← r1, ← t1]
          exact hj
        · rw [partsD_of l t [p, q, r] hs (by rw [t1]; exact decDigits_ne e)]; simp
  · cases h
theorem fmtV_len (v : Nat) : (fmtV v).length ≤ 44 := by
  have h : ∀ q, (Lib.decDigits (q % 256)).length ≤ 10 := fun q => decDigits_len _ (by omega)
  have h1 := h (v / 16777216); have h2 := h (v / 65536); have h3 := h (v / 256); have h4 := h v
  unfold fmtV
  simp
  omega
end Hs
namespace Hs
open Go
set_option linter.unusedVariables false
set_option linter.unusedSimpArgs false

/-- The letter of a digit, in lower case. -/
def hexC (d : Nat) : UInt8 := if d < 10 then UInt8.ofNat (48 + d) else UInt8.ofNat (87 + d)
theorem digV_hexC (d : Nat) (h : d < 16) : digV (hexC d) = d := by
  have : ∀ d : Fin 16, digV (hexC d.1) = d.1 := by decide
  exact this ⟨d, h⟩
/-- The digits of a number in a base. -/
def digsN (b n : Nat) : Bs := if _h : n < b ∨ b < 2 then [hexC n] else digsN b (n / b) ++ [hexC (n % b)]
termination_by n
decreasing_by exact Nat.div_lt_self (by omega) (by omega)
theorem digsN_small {b n : Nat} (h : n < b) : digsN b n = [hexC n] := by rw [digsN, dif_pos (.inl h)]
theorem digsN_big {b n : Nat} (hb : 2 ≤ b) (h : b ≤ n) : digsN b n = digsN b (n / b) ++ [hexC (n % b)] := by rw [digsN, dif_neg (by omega)]
theorem digsN_ne (b n : Nat) : digsN b n ≠ [] := by
  rw [digsN]; split <;> simp
theorem valB_append (base : Nat) : ∀ (a b : Bs) (n : Nat), valB base (a ++ b) n = valB base b (valB base a n)
  | [], b, n => rfl
  | c :: a, b, n => by simp only [List.cons_append, valB]; exact valB_append base a b _
theorem valB_digs (b : Nat) (h2 : 2 ≤ b) (h16 : b ≤ 16) : ∀ (k n : Nat), n < k → valB b (digsN b n) 0 = n
  | 0, n, h => by omega
  | k + 1, n, h => by
    by_cases hs : n < b
    · rw [digsN_small hs, valB, valB, digV_hexC n (by omega)]; omega
    · have hd : n / b < n := Nat.div_lt_self (by omega) (by omega)
      rw [digsN_big h2 (by omega), valB_append, valB_digs b h2 h16 k (n / b) (by omega), valB, valB, digV_hexC _ (by have := Nat.mod_lt n (by omega : b > 0); omega)]
      exact Nat.div_add_mod' n b
theorem digs_mem (b : Nat) (h2 : 2 ≤ b) (h16 : b ≤ 16) : ∀ (k n : Nat), n < k → ∀ x ∈ digsN b n, ∃ d, d < b ∧ x = hexC d
  | 0, n, h => by omega
  | k + 1, n, h => by
    intro x hx
    by_cases hs : n < b
    · rw [digsN_small hs] at hx
      exact ⟨n, hs, by simpa using hx⟩
    · have hd : n / b < n := Nat.div_lt_self (by omega) (by omega)
      rw [digsN_big h2 (by omega)] at hx
      rcases List.mem_append.1 hx with hx | hx
      · exact digs_mem b h2 h16 k (n / b) (by omega) x hx
      · exact ⟨n % b, Nat.mod_lt n (by omega), by simpa using hx⟩
theorem digs_digV (b : Nat) (h2 : 2 ≤ b) (h16 : b ≤ 16) (n : Nat) : ∀ x ∈ digsN b n, digV x < b := by
  intro x hx
  obtain ⟨d, hd, rfl⟩ := digs_mem b h2 h16 (n + 1) n (by omega) x hx
  rw [digV_hexC d (by omega)]; exact hd
theorem allB_digs (b : Nat) (h2 : 2 ≤ b) (h16 : b ≤ 16) (n : Nat) : allB b (digsN b n) = true := by
  unfold allB
  rw [List.all_eq_true]
  intro x hx
  exact decide_eq_true (digs_digV b h2 h16 n x hx)
theorem numB_digs (b : Nat) (h2 : 2 ≤ b) (h16 : b ≤ 16) (n : Nat) (hn : n ≤ 1099511627776) : numB b (digsN b n) = (n, true) := by
  unfold numB
  rw [if_pos (allB_digs b h2 h16 n), satB_zero b (by omega), valB_digs b h2 h16 (n + 1) n (by omega), Nat.min_eq_left hn]
theorem digs_ten : ∀ (k n : Nat), n < k → digsN 10 n = Lib.decDigits n
  | 0, n, h => by omega
  | k + 1, n, h => by
    rw [Lib.decDigits]
    by_cases hs : n < 10
    · rw [digsN_small hs, dif_pos hs, hexC, if_pos hs]
    · rw [digsN_big (by omega) (by omega), dif_neg hs, digs_ten k (n / 10) (by omega), hexC, if_pos (by omega)]
theorem digs_no (b : Nat) (h2 : 2 ≤ b) (h16 : b ≤ 16) (n : Nat) (c : UInt8) (hc : digV c = 99) : ∀ x ∈ digsN b n, x ≠ c := by
  rintro x hx rfl
  have := digs_digV b h2 h16 n x hx
  omega
/-- How many digits at most. -/
theorem digs_len (b : Nat) (h2 : 2 ≤ b) : ∀ (k n : Nat), n < b ^ k → 1 ≤ k → (digsN b n).length ≤ k
  | 0, n, _, h => by omega
  | k + 1, n, h, _ => by
    by_cases hs : n < b
    · rw [digsN_small hs]; simp
    · rw [digsN_big h2 (by omega)]
      have hk : 1 ≤ k := by
        rcases Nat.eq_zero_or_pos k with rfl | hk
        · simp at h; omega
        · exact hk
      have := digs_len b h2 k (n / b) (Nat.div_lt_of_lt_mul (by rw [Nat.pow_succ, Nat.mul_comm] at h; exact h)) hk
      simp; omega
/-- A loop that lays a number's digits, the last ones first: what is laid and what is left. -/
def DigSt (b n : Nat) (s : Bs) (m : Nat) : Prop := (s = [] ∧ m = n) ∨ (s ≠ [] ∧ digsN b n = if m = 0 then s else digsN b m ++ s)
theorem DigSt.step {b n m : Nat} {s : Bs} (h2 : 2 ≤ b) (h : DigSt b n s m) (hm : 0 < m ∨ s = []) : DigSt b n (hexC (m % b) :: s) (m / b) := by
  right
  refine ⟨by simp, ?_⟩
  rcases h with ⟨rfl, rfl⟩ | ⟨hs, he⟩
  · by_cases hb : m < b
    · rw [Nat.div_eq_of_lt hb, if_pos rfl, digsN_small hb, Nat.mod_eq_of_lt hb]
    · have : m / b ≠ 0 := by have := Nat.div_pos (by omega : b ≤ m) (by omega); omega
      rw [if_neg this, digsN_big h2 (by omega)]
  · have hm0 : m ≠ 0 := by rcases hm with h | h; omega; exact absurd h hs
    rw [he, if_neg hm0]
    by_cases hb : m < b
    · rw [Nat.div_eq_of_lt hb, if_pos rfl, digsN_small hb, Nat.mod_eq_of_lt hb]; rfl
    · have : m / b ≠ 0 := by have := Nat.div_pos (by omega : b ≤ m) (by omega); omega
      rw [if_neg this, digsN_big h2 (by omega)]; simp
theorem DigSt.fin {b n : Nat} {s : Bs} (h : DigSt b n s 0) (hs : s ≠ []) : s = digsN b n := by
  rcases h with ⟨h, _⟩ | ⟨_, h⟩
  · exact absurd h hs
  · rw [if_pos rfl] at h; exact h.symm
theorem DigSt.len {b n m : Nat} {s : Bs} (h : DigSt b n s m) : s.length ≤ (digsN b n).length := by
  rcases h with ⟨rfl, _⟩ | ⟨_, h⟩
  · simp
  · rw [h]; split
    · exact Nat.le_refl _
    · simp
/-- The letter at a digit's place. -/
theorem lit_hex (d : Nat) (h : d < 16) : (⟨#[48, 49, 50, 51, 52, 53, 54, 55, 56, 57, 97, 98, 99, 100, 101, 102]⟩ : ByteArray).extract d (d + 1) = mk [hexC d] := by
  have : ∀ d : Fin 16, (⟨#[48, 49, 50, 51, 52, 53, 54, 55, 56, 57, 97, 98, 99, 100, 101, 102]⟩ : ByteArray).extract d.1 (d.1 + 1) = mk [hexC d.1] := by decide
  exact this ⟨d, h⟩
theorem lower_hexC (d : Nat) (h : d < 16) : lowB (hexC d) = hexC d := by
  have : ∀ d : Fin 16, lowB (hexC d.1) = hexC d.1 := by decide
  exact this ⟨d, h⟩
theorem lower_digs (b : Nat) (h2 : 2 ≤ b) (h16 : b ≤ 16) (n : Nat) : lower (digsN b n) = digsN b n := by
  unfold lower
  conv => rhs; rw [← List.map_id (digsN b n)]
  apply List.map_congr_left
  intro x hx
  obtain ⟨d, hd, rfl⟩ := digs_mem b h2 h16 (n + 1) n (by omega) x hx
  exact lower_hexC d (by omega)
end Hs
namespace Hs
open Go

/-- The text "1." written m times. -/
def ones : Nat → Bs
  | 0 => []
  | m + 1 => ones m ++ [49, 46]
theorem split_ones : ∀ (m : Nat) (t : Bs), splitD 46 (ones m ++ t) = List.replicate m [49] ++ splitD 46 t
  | 0, t => rfl
  | m + 1, t => by
    have e : splitD 46 (49 :: 46 :: t) = [49] :: splitD 46 t := splitD_at 46 t [49] (by decide)
    rw [ones, List.append_assoc]
    show splitD 46 (ones m ++ (49 :: 46 :: t)) = _
    rw [split_ones m, e, List.replicate_succ']
    simp
theorem parts_ones (m : Nat) (t : Bs) (ht : t ≠ []) (h46 : ∀ x ∈ t, x ≠ 46) : partsD (ones m ++ t) = List.replicate m [49] ++ [t] :=
  partsD_of _ _ _ (by rw [split_ones, splitD_none 46 t h46]) ht
theorem hexP_digits (l : Bs) (h : l.all isDigit = true) : hexP l = false := by
  unfold hexP
  split
  · rename_i a b r
    simp only [List.all_cons, Bool.and_eq_true] at h
    have h2 := h.2.1
    apply decide_eq_false
    rintro ⟨_, rfl | rfl⟩ <;> exact absurd h2 (by decide)
  · rfl
theorem allB_digits (l : Bs) (h : l.all isDigit = true) : allB 10 l = true := by
  unfold allB
  rw [List.all_eq_true] at h ⊢
  intro x hx
  exact decide_eq_true (digV_of x (h x hx)).2
theorem numP_digits (l : Bs) (h : l.all isDigit = true) (hne : l ≠ []) (hl : 1 < l.length → l[0]? ≠ some 48) : numP l = (min (valV l 0) 1099511627776, true) := by
  unfold numP
  rw [if_neg hne, hexP_digits l h, if_neg (by decide), if_neg (fun h2 => hl h2.1 h2.2)]
  unfold numB
  rw [if_pos (allB_digits l h), satB_zero 10 (by decide), valB_val l _ h]
theorem numP_one : numP [49] = (1, true) := by rfl
theorem dec_two (x : Nat) (h : 10 ≤ x) : 1 < (Lib.decDigits x).length := by
  have e : Lib.decDigits x = Lib.decDigits (x / 10) ++ [UInt8.ofNat (48 + x % 10)] := by rw [Lib.decDigits, dif_neg (by omega)]
  have h6 := List.length_pos_iff.2 (decDigits_ne (x / 10))
  rw [e]
  simp
  exact h6
theorem big_digits (x k : Nat) : (Lib.decDigits x ++ List.replicate k 48).all isDigit = true := by
  rw [List.all_append, decDigits_all, Bool.true_and, List.all_eq_true]
  intro y hy
  rw [List.eq_of_mem_replicate hy]
  decide
theorem big_ge (x k : Nat) (hx : 256 ≤ x) : ∃ y, numP (Lib.decDigits x ++ List.replicate k 48) = (y, true) ∧ min x 1099511627776 ≤ y := by
  refine ⟨_, numP_digits _ (big_digits x k) (by simp [decDigits_ne]) (fun _ => ?_), ?_⟩
  · rw [List.getElem?_append_left (List.length_pos_iff.2 (decDigits_ne _))]
    exact dec_lead (x + 1) x (by omega) (dec_two x (by omega))
  · have h1 := valV_ge (List.replicate k 48) (valV (Lib.decDigits x) 0)
    rw [← valV_append, decDigits_val] at h1
    omega
theorem big_no46 (x k : Nat) : ∀ y ∈ Lib.decDigits x ++ List.replicate k 48, y ≠ 46 := fun y hy => isDigit_ne46 y (List.all_eq_true.1 (big_digits x k) y hy)
theorem nums_big (m x k F : Nat) (hm : m ≤ 3) (hF : F = 8 * (4 - m)) (hx : 2 ^ F ≤ x) : numsV (ones m ++ (Lib.decDigits x ++ List.replicate k 48)) = (0, false) := by
  have hF8 : 256 ≤ 2 ^ F := by
    have : 2 ^ 8 ≤ 2 ^ F := Nat.pow_le_pow_right (by decide) (by omega)
    exact this
  have hF9 : 2 ^ F ≤ 1099511627776 := by
    have : 2 ^ F ≤ 2 ^ 40 := Nat.pow_le_pow_right (by decide) (by omega)
    exact this
  obtain ⟨y, hy, hge⟩ := big_ge x k (by omega)
  unfold numsV
  rw [parts_ones m _ (by simp [decDigits_ne]) (big_no46 x k)]
  have hno : ¬ y < 2 ^ F := by omega
  subst hF
  rcases (by omega : m = 0 ∨ m = 1 ∨ m = 2 ∨ m = 3) with rfl | rfl | rfl | rfl
  all_goals
    simp at hno
    simp [List.replicate, numF, numP_one, hy, Nat.not_lt.2 hno, optV]
theorem nums_least (m F : Nat) (hm : m ≤ 3) (hF : F = 8 * (4 - m)) : (numsV (ones m ++ Lib.decDigits (2 ^ F - 1))).2 = true := by
  have h := numP_dec (2 ^ F - 1) (by have : 2 ^ F ≤ 2 ^ 40 := Nat.pow_le_pow_right (by decide) (by omega)
                                     have e : (2 : Nat) ^ 40 = 1099511627776 := by decide
                                     omega)
  unfold numsV
  rw [parts_ones m _ (decDigits_ne _) (dec_no46 _)]
  subst hF
  rcases (by omega : m = 0 ∨ m = 1 ∨ m = 2 ∨ m = 3) with rfl | rfl | rfl | rfl
  all_goals
    simp at h
    simp [List.replicate, numF, numP_one, h, optV]
theorem nums_256 (m : Nat) (hm : m ≤ 3) : numsV ([50, 53, 54, 46] ++ (ones m ++ [49])) = (0, false) := by
  rcases (by omega : m = 0 ∨ m = 1 ∨ m = 2 ∨ m = 3) with rfl | rfl | rfl | rfl
  all_goals rfl
theorem ones_len (m : Nat) : (ones m).length = 2 * m := by
  induction m with
  | zero => rfl
  | succ m ih => rw [ones, List.length_append, ih]; simp; omega
end Hs
namespace Hs
open Go

theorem digV_lt (b : UInt8) : decide (digV b < 10) = isDigit b := by
  cases h : isDigit b
  · apply decide_eq_false
    unfold isDigit at h
    simp at h
    unfold digV
    by_cases h1 : 48 ≤ b.toNat ∧ b.toNat ≤ 57
    · have := h h1.1; omega
    · rw [if_neg h1]
      split
      · omega
      · split <;> omega
  · exact decide_eq_true (digV_of b h).2
theorem allB_all (l : Bs) : allB 10 l = l.all isDigit := by
  unfold allB
  congr 1
  funext b
  exact digV_lt b
theorem num_ten (l : Bs) : (numB 10 l).2 = l.all isDigit := by
  unfold numB
  rw [allB_all]
  cases l.all isDigit <;> rfl
/-- The reference's test of a last part. -/
def lastR (p : Bs) : Bool := if digits p then true else (numP p).2 && decide (p[1]? = some 120 ∨ p[1]? = some 88)
theorem lastR_eq (p : Bs) : lastR p = if hexP p then (numP p).2 else (numB 10 p).2 && !p.isEmpty := by
  unfold lastR
  rw [num_ten]
  cases hd : digits p
  · match p, hd with
    | [], _ => rfl
    | [a], hd => simp [digits] at hd; simp [hexP, hd]
    | a :: b :: r, hd =>
      by_cases hb : b = 120 ∨ b = 88
      · by_cases ha : a = 48
        · have : hexP (a :: b :: r) = true := by simp [hexP, ha, hb]
          rw [this]; simp [hb]
        · have h1 : hexP (a :: b :: r) = false := by simp [hexP, ha]
          have h2 : isDigit b = false := by rcases hb with rfl | rfl <;> decide
          have h3 : numP (a :: b :: r) = numB 10 (a :: b :: r) := by
            unfold numP
            rw [if_neg (by simp), h1, if_neg (by decide), if_neg (by simp [ha])]
          rw [h1, h3, num_ten]
          simp [h2]
      · have h1 : hexP (a :: b :: r) = false := by simp [hexP]; intro _; exact ⟨fun e => hb (.inl e), fun e => hb (.inr e)⟩
        rw [h1]
        unfold digits at hd
        simp only [List.isEmpty_cons, Bool.not_false, Bool.true_and] at hd
        rw [hd]
        simp
        intro _
        exact ⟨fun e => hb (.inl e), fun e => hb (.inr e)⟩
  · have h2 : p.all isDigit = true ∧ p.isEmpty = false := by
      unfold digits at hd
      simpa [and_comm] using hd
    rw [hexP_digits p h2.1, h2.1, h2.2]
    rfl
end Hs
