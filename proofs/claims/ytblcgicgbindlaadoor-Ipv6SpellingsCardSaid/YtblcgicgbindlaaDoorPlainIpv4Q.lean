/- Plain laws of layer 10: what Format writes is read back. No program in sight. Conditions: none. -/
import Derived.Test.YtblcgicgbindlaaDoorPlainIpv4P
import Derived.Test.YtblcgicgbindlaaDoorPlainSeconds
namespace Hs
open Go

theorem isDigit_ne46 (b : UInt8) (h : isDigit b = true) : b ≠ 46 := by
  rintro rfl
  exact absurd h (by decide)
theorem dec_no46 (n : Nat) : ∀ x ∈ Lib.decDigits n, x ≠ 46 := fun x hx => isDigit_ne46 x (List.all_eq_true.1 (decDigits_all n) x hx)
theorem splitD_fmt (v : Nat) : splitD 46 (fmtV v) = [Lib.decDigits (v / 16777216 % 256), Lib.decDigits (v / 65536 % 256), Lib.decDigits (v / 256 % 256), Lib.decDigits (v % 256)] := by
  unfold fmtV
  rw [splitD_at _ _ _ (dec_no46 _), splitD_at _ _ _ (dec_no46 _), splitD_at _ _ _ (dec_no46 _), splitD_none _ _ (dec_no46 _)]
theorem digV_of (b : UInt8) (h : isDigit b = true) : digV b = b.toNat - 48 ∧ digV b < 10 := by
  unfold isDigit at h
  unfold digV
  simp at h
  have h1 := h.1; have h2 := h.2
  rw [if_pos (by omega)]
  omega
theorem allB_dec (n : Nat) : allB 10 (Lib.decDigits n) = true := by
  unfold allB
  rw [List.all_eq_true]
  intro x hx
  exact decide_eq_true (digV_of x (List.all_eq_true.1 (decDigits_all n) x hx)).2
theorem valB_val : ∀ (l : Bs) (n : Nat), l.all isDigit = true → valB 10 l n = valV l n
  | [], n, _ => rfl
  | b :: r, n, h => by
    rw [List.all_cons, Bool.and_eq_true] at h
    rw [valB, valV, valB_val r _ h.2, (digV_of b h.1).1]
    congr 1
    omega
theorem numB_dec (n : Nat) (h : n ≤ 1099511627776) : numB 10 (Lib.decDigits n) = (n, true) := by
  unfold numB
  rw [if_pos (allB_dec n), satB_zero 10 (by decide), valB_val _ _ (decDigits_all n), decDigits_val, Nat.min_eq_left h]
theorem strN_dec (n : Nat) (h : n ≤ 255) : strN (Lib.decDigits n) = some n := by
  unfold strN
  rw [numB_dec n (by omega), if_pos ⟨rfl, h, rfl⟩]
theorem addr_sum (v : Nat) (h : v < 4294967296) : (((0 * 256 + v / 16777216 % 256) * 256 + v / 65536 % 256) * 256 + v / 256 % 256) * 256 + v % 256 = v := by omega
theorem parse_fmt (v : Nat) (h : v < 4294967296) : parseV (fmtV v) = (v, true) := by
  unfold parseV
  rw [splitD_fmt, if_pos (by simp)]
  simp only [strF, strN_dec _ (by omega : v / 16777216 % 256 ≤ 255), strN_dec _ (by omega : v / 65536 % 256 ≤ 255), strN_dec _ (by omega : v / 256 % 256 ≤ 255), strN_dec _ (by omega : v % 256 ≤ 255), addr_sum v h]
  rfl
theorem dec_ne (n : Nat) : Lib.decDigits n ≠ [] := decDigits_ne n
theorem hexP_dec (n : Nat) : hexP (Lib.decDigits n) = false := by
  have h := decDigits_all n
  unfold hexP
  split
  · rename_i a b r e
    rw [e] at h
    simp only [List.all_cons, Bool.and_eq_true] at h
    have h2 := h.2.1
    apply decide_eq_false
    rintro ⟨_, rfl | rfl⟩ <;> exact absurd h2 (by decide)
  · rfl
theorem dec_lead : ∀ (k n : Nat), n < k → 1 < (Lib.decDigits n).length → (Lib.decDigits n)[0]? ≠ some 48
  | 0, n, h, _ => by omega
  | k + 1, n, h, h1 => by
    by_cases h10 : n < 10
    · rw [Lib.decDigits_one h10] at h1; simp at h1
    · have e : Lib.decDigits n = Lib.decDigits (n / 10) ++ [UInt8.ofNat (48 + n % 10)] := by rw [Lib.decDigits, dif_neg h10]
      rw [e, List.getElem?_append_left (List.length_pos_iff.2 (decDigits_ne _))]
      by_cases h2 : n / 10 < 10
      · rw [Lib.decDigits_one h2]
        intro h3
        have h4 : (UInt8.ofNat (48 + n / 10)).toNat = 48 := by
          have := Option.some.inj h3
          rw [show UInt8.ofNat (48 + n / 10) = 48 from this]; rfl
        have h5 := (digit_byte (n / 10) h2).2
        rw [h4] at h5
        omega
      · refine dec_lead k (n / 10) (by omega) ?_
        have e2 : Lib.decDigits (n / 10) = Lib.decDigits (n / 10 / 10) ++ [UInt8.ofNat (48 + n / 10 % 10)] := by rw [Lib.decDigits, dif_neg h2]
        have h6 := List.length_pos_iff.2 (decDigits_ne (n / 10 / 10))
        rw [e2]
        simp
        exact h6
theorem numP_dec (n : Nat) (h : n ≤ 1099511627776) : numP (Lib.decDigits n) = (n, true) := by
  unfold numP
  rw [if_neg (decDigits_ne n), hexP_dec, if_neg (by decide), if_neg (fun h2 => dec_lead (n + 1) n (by omega) h2.1 h2.2), numB_dec n h]
theorem partsD_of (l p : Bs) (r : List Bs) (h : splitD 46 l = r ++ [p]) (hp : p ≠ []) : partsD l = r ++ [p] := by
  unfold partsD
  rw [h, if_neg (by simp [hp])]
theorem partsD_dot (l p : Bs) (r : List Bs) (h : splitD 46 l = (r ++ [p]) ++ [[]]) : partsD l = r ++ [p] := by
  unfold partsD
  rw [h, if_pos (by simp), List.dropLast_concat]
theorem parts_fmt (v : Nat) : partsD (fmtV v) = [Lib.decDigits (v / 16777216 % 256), Lib.decDigits (v / 65536 % 256), Lib.decDigits (v / 256 % 256)] ++ [Lib.decDigits (v % 256)] :=
  partsD_of _ _ _ (splitD_fmt v) (decDigits_ne _)
theorem parts_fmt_dot (v : Nat) : partsD (fmtV v ++ [46]) = [Lib.decDigits (v / 16777216 % 256), Lib.decDigits (v / 65536 % 256), Lib.decDigits (v / 256 % 256)] ++ [Lib.decDigits (v % 256)] := by
  refine partsD_dot _ _ _ ?_
  unfold fmtV
  simp only [List.append_assoc, List.cons_append]
  rw [splitD_at _ _ _ (dec_no46 _), splitD_at _ _ _ (dec_no46 _), splitD_at _ _ _ (dec_no46 _), splitD_at _ _ _ (dec_no46 _)]
  rfl
theorem nums_fmt (v : Nat) (h : v < 4294967296) : numsV (fmtV v) = (v, true) := by
  have h1 := numP_dec (v / 16777216 % 256) (by omega)
  have h2 := numP_dec (v / 65536 % 256) (by omega)
  have h3 := numP_dec (v / 256 % 256) (by omega)
  have h4 := numP_dec (v % 256) (by omega)
  unfold numsV
  rw [parts_fmt, if_pos (by simp)]
  simp only [List.cons_append, List.nil_append, List.length_cons, List.length_nil, Nat.reduceAdd, Nat.reduceSub, Nat.reduceMul, numF, h1, h2, h3, h4, Nat.reducePow, true_and]
  rw [if_pos (by omega), if_pos (by omega), if_pos (by omega), if_pos (by omega), addr_sum v h]
  rfl
theorem numeric_of (l p : Bs) (n : Nat) (h : (partsD l).getLast? = some p) (hp : p = Lib.decDigits n) (hn : n ≤ 1099511627776) : numericV l = true := by
  unfold numericV
  rw [h]
  subst hp
  simp only [Option.getD_some, hexP_dec, numB_dec n hn]
  cases he : (Lib.decDigits n).isEmpty
  · rfl
  · exact absurd (by simpa using he) (decDigits_ne n)
theorem numeric_fmt (v : Nat) : numericV (fmtV v) = true := numeric_of _ _ (v % 256) (by rw [parts_fmt]; simp) rfl (by omega)
theorem numeric_fmt_dot (v : Nat) : numericV (fmtV v ++ [46]) = true := numeric_of _ _ (v % 256) (by rw [parts_fmt_dot]; simp) rfl (by omega)
/-- Parts joined by a byte. -/
def joinD (c : UInt8) : List Bs → Bs
  | [] => []
  | [p] => p
  | p :: q :: r => p ++ c :: joinD c (q :: r)
theorem joinD_cons (c b : UInt8) (h : Bs) (t : List Bs) : joinD c ((b :: h) :: t) = b :: joinD c (h :: t) := by
  cases t <;> rfl
theorem joinD_split (c : UInt8) : ∀ l : Bs, joinD c (splitD c l) = l
  | [] => rfl
  | b :: r => by
    have ih := joinD_split c r
    unfold splitD
    split
    · rename_i hb
      subst hb
      cases hs : splitD b r with
      | nil => exact absurd hs (splitD_ne b r)
      | cons h t => rw [hs] at ih; show [] ++ b :: joinD b (h :: t) = _; rw [ih]; rfl
    · cases hs : splitD c r with
      | nil => exact absurd hs (splitD_ne c r)
      | cons h t => rw [hs] at ih; simp only; rw [joinD_cons, ih]
theorem strN_some {p : Bs} {n : Nat} (h : strN p = some n) : p = Lib.decDigits n ∧ n ≤ 255 := by
  unfold strN at h
  split at h
  · rename_i h2
    cases h
    exact ⟨h2.2.2.symm, h2.2.1⟩
  · cases h
theorem parse_back (l : Bs) (c : Nat) (h : parseV l = (c, true)) : c < 4294967296 ∧ fmtV c = l ∧ numericV l = true := by
  unfold parseV at h
  split at h
  · rename_i h4
    match hs : splitD 46 l, h4 with
    | [p, q, r, t], _ =>
      rw [hs] at h
      cases hp : strN p with
      | none => simp [strF, hp, optV] at h
      | some a =>
      cases hq : strN q with
      | none => simp [strF, hp, hq, optV] at h
      | some b =>
      cases hr : strN r with
      | none => simp [strF, hp, hq, hr, optV] at h
      | some d =>
      cases ht : strN t with
      | none => simp [strF, hp, hq, hr, ht, optV] at h
      | some e =>
        simp only [strF, hp, hq, hr, ht, optV, Prod.mk.injEq, and_true] at h
        obtain ⟨p1, p2⟩ := strN_some hp
        obtain ⟨q1, q2⟩ := strN_some hq
        obtain ⟨r1, r2⟩ := strN_some hr
        obtain ⟨t1, t2⟩ := strN_some ht
        refine ⟨by omega, ?_, numeric_of l t e ?_ t1 (by omega)⟩
        · have hj := joinD_split 46 l
          rw [hs] at hj
          have e1 : c / 16777216 % 256 = a := by omega
          have e2 : c / 65536 % 256 = b := by omega
          have e3 : c / 256 % 256 = d := by omega
          have e4 : c % 256 = e := by omega
          unfold fmtV
          rw [e1, e2, e3, e4, ← p1, ← q1, ← r1, ← t1]
          exact hj
        · rw [partsD_of l t [p, q, r] hs (by rw [t1]; exact decDigits_ne e)]; simp
  · cases h
theorem fmtV_len (v : Nat) : (fmtV v).length ≤ 44 := by
  have h : ∀ q, (Lib.decDigits (q % 256)).length ≤ 10 := fun q => decDigits_len _ (by omega)
  have h1 := h (v / 16777216); have h2 := h (v / 65536); have h3 := h (v / 256); have h4 := h v
  unfold fmtV
  simp
  omega
end Hs
