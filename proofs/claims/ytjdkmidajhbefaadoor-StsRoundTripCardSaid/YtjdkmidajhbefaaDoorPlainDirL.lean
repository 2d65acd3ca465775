/- Plain laws of the layer directive: concatenation, blanks, round trip. No program in sight. Conditions: none. -/
import Derived.Test.YtjdkmidajhbefaaDoorPlainDir
namespace Hs

/-! ### Shifts: reading from an index on is reading the rest -/
theorem tokEnd_shift (l : Bs) (c i : Nat) : tokEnd l (c + i) = c + tokEnd (l.drop c) i := by unfold tokEnd; rw [List.drop_drop]; omega
theorem blkEnd_shift (l : Bs) (c i : Nat) : blkEnd l (c + i) = c + blkEnd (l.drop c) i := by unfold blkEnd; rw [List.drop_drop]; omega
theorem atN_shift (l : Bs) (c i : Nat) : atN l (c + i) = atN (l.drop c) i := by
  by_cases h : c + i < l.length
  · rw [atN_lt l _ h, atN_lt _ _ (by rw [List.length_drop]; omega)]
    congr 1
    simp
  · rw [atN_out l _ (by omega), atN_out _ _ (by rw [List.length_drop]; omega)]
theorem seg_shift (l : Bs) (c i j : Nat) : seg l (c + i) (c + j) = seg (l.drop c) i j := by
  unfold seg; rw [List.drop_drop]; congr 1; omega
theorem scanQ_pos : ∀ (r : Bs) (esc : Bool) (acc : Bs) (pos c : Nat), (scanQ r esc acc (c + pos)).v = (scanQ r esc acc pos).v ∧ (scanQ r esc acc (c + pos)).e = (scanQ r esc acc pos).e ∧ ((scanQ r esc acc pos).e = 0 → (scanQ r esc acc (c + pos)).n = c + (scanQ r esc acc pos).n)
  | [], _, _, _, _ => by simp [scanQ]
  | b :: r, esc, acc, pos, c => by
    have i1 := scanQ_pos r false (acc ++ [b]) (pos + 1) c
    have i2 := scanQ_pos r true acc (pos + 1) c
    have e : c + (pos + 1) = c + pos + 1 := by omega
    rw [e] at i1 i2
    unfold scanQ
    by_cases hb : isTxt b = false
    · rw [if_pos hb, if_pos hb]; simp
    · rw [if_neg hb, if_neg hb]
      by_cases he : esc = true
      · rw [if_pos he, if_pos he]; exact i1
      · rw [if_neg he, if_neg he]
        by_cases h92 : b.toNat = 92
        · rw [if_pos h92, if_pos h92]; exact i2
        · rw [if_neg h92, if_neg h92]
          by_cases h34 : b.toNat = 34
          · rw [if_pos h34, if_pos h34]; simp; omega
          · rw [if_neg h34, if_neg h34]; exact i1
theorem parseQ_shift (l : Bs) (c k : Nat) (hk : c + k ≤ l.length) : (parseQ l (c + k : Nat)).v = (parseQ (l.drop c) k).v ∧ (parseQ l (c + k : Nat)).e = (parseQ (l.drop c) k).e ∧ ((parseQ (l.drop c) k).e = 0 → (parseQ l (c + k : Nat)).n = c + (parseQ (l.drop c) k).n) := by
  by_cases h : c + k < l.length
  · have hg : (l.drop c)[k]'(by rw [List.length_drop]; omega) = l[c + k] := by simp
    by_cases hq : l[c + k].toNat = 34
    · rw [parseQ_start l (c + k) h hq, parseQ_start (l.drop c) k (by rw [List.length_drop]; omega) (by rw [hg]; exact hq), List.drop_drop]
      have := scanQ_pos (l.drop (c + (k + 1))) false [] (k + 1) c
      exact this
    · rw [parseQ_not l (c + k) (by omega) (fun _ => hq), parseQ_not (l.drop c) k (by rw [List.length_drop]; omega) (fun _ => by rw [hg]; exact hq)]
      simp
  · rw [parseQ_not l (c + k) (by omega) (fun h2 => absurd h2 h), parseQ_not (l.drop c) k (by rw [List.length_drop]; omega) (fun h2 => absurd h2 (by rw [List.length_drop]; omega))]
    simp
theorem valI_shift (l : Bs) (c k : Nat) (hk : c + k ≤ l.length) : valI l (c + k) = (valI (l.drop c) k).map (fun p => (p.1, c + p.2)) := by
  have hq := parseQ_shift l c k hk
  unfold valI
  rw [atN_shift, tokEnd_shift, seg_shift]
  by_cases h : atN (l.drop c) k = 34
  · rw [if_pos h, if_pos h, hq.2.1]
    by_cases he : (parseQ (l.drop c) k).e = 0
    · rw [if_pos he, if_pos he, hq.1, hq.2.2 he]; rfl
    · rw [if_neg he, if_neg he]; rfl
  · rw [if_neg h, if_neg h]
    by_cases ht : k < tokEnd (l.drop c) k
    · rw [if_pos (by omega), if_pos ht]; rfl
    · rw [if_neg (by omega), if_neg ht]; rfl
theorem elemI_shift (l : Bs) (c i : Nat) (hi : c + i ≤ l.length) : elemI l (c + i) = (elemI (l.drop c) i).map (fun p => (p.1, c + p.2)) := by
  have h1 := tokEnd_le (l.drop c) i (by rw [List.length_drop]; omega)
  have h2 := blkEnd_le (l.drop c) _ h1
  rw [List.length_drop] at h2
  unfold elemI
  rw [tokEnd_shift, seg_shift, blkEnd_shift, atN_shift]
  by_cases ht : i < tokEnd (l.drop c) i
  · rw [if_pos (by omega), if_pos ht]
    by_cases he : atN (l.drop c) (blkEnd (l.drop c) (tokEnd (l.drop c) i)) = 61
    · rw [if_pos he, if_pos he]
      have hin := atN_in (l.drop c) _ (by omega : atN (l.drop c) (blkEnd (l.drop c) (tokEnd (l.drop c) i)) ≠ 256)
      rw [List.length_drop] at hin
      have h3 := blkEnd_le (l.drop c) (blkEnd (l.drop c) (tokEnd (l.drop c) i) + 1) (by rw [List.length_drop]; omega)
      rw [List.length_drop] at h3
      rw [Nat.add_assoc, blkEnd_shift, valI_shift l c _ (by omega), Option.map_map, Option.map_map]
      congr 1
      funext p
      simp [blkEnd_shift]
    · rw [if_neg he, if_neg he]; rfl
  · rw [if_neg (by omega), if_neg ht]; rfl
theorem stopAt_shift (l : Bs) (c j : Nat) : stopAt l (c + j) ↔ stopAt (l.drop c) j := by unfold stopAt; rw [atN_shift]
theorem elemO_shift (l : Bs) (c i : Nat) (hi : c + i ≤ l.length) : elemO l (c + i) = (elemO (l.drop c) i).map (fun p => (p.1, c + p.2)) := by
  cases he : elemI (l.drop c) i with
  | none =>
    rw [elemO_none _ _ he, elemO_none l (c + i) (by rw [elemI_shift l c i hi, he]; rfl)]; rfl
  | some p =>
    have he2 : elemI l (c + i) = some (p.1, c + p.2) := by rw [elemI_shift l c i hi, he]; rfl
    by_cases hs : stopAt (l.drop c) p.2
    · rw [elemO_some _ _ _ he hs, elemO_some _ _ _ he2 ((stopAt_shift l c p.2).2 hs)]; rfl
    · rw [elemO_stop _ _ _ he hs, elemO_stop _ _ _ he2 (fun h => hs ((stopAt_shift l c p.2).1 h))]; rfl

/-! ### The parser on the rest -/
def P (r : Bs) (acc : List Dir) : List Dir × Int := parseI r 0 acc
theorem P_at (l : Bs) : ∀ (n i : Nat) (acc : List Dir), l.length - i ≤ n → i ≤ l.length → ∀ c, c ≤ i → parseI l i acc = parseI (l.drop c) (i - c) acc
  | n, i, acc, hn, hi, c, hc => by
    obtain ⟨k, rfl⟩ : ∃ k, i = c + k := ⟨i - c, by omega⟩
    have e0 : c + k - c = k := by omega
    rw [e0, parseI_blank l, parseI_blank (l.drop c), blkEnd_shift]
    have hle := blkEnd_le (l.drop c) k (by rw [List.length_drop]; omega)
    have hge := blkEnd_ge (l.drop c) k
    have hid := blkEnd_idem (l.drop c) k
    have hid2 : blkEnd l (c + blkEnd (l.drop c) k) = c + blkEnd (l.drop c) k := by rw [blkEnd_shift, hid]
    have hlen : (l.drop c).length = l.length - c := List.length_drop
    generalize blkEnd (l.drop c) k = m at *
    by_cases hl : m < (l.drop c).length
    · match n, hn with
      | 0, hn => omega
      | n + 1, hn =>
      by_cases h59 : atN (l.drop c) m = 59
      · rw [parseI_semi _ _ acc h59, parseI_semi l _ acc (by rw [atN_shift]; exact h59)]
        have := P_at l n (c + m + 1) acc (by omega) (by omega) c (by omega)
        rw [this]; congr 1; omega
      · have h59' : atN l (c + m) ≠ 59 := by rw [atN_shift]; exact h59
        by_cases h32 : acc.length = 32
        · rw [parseI_limit _ _ acc hid hl h59 h32, parseI_limit l _ acc hid2 (by omega) h59' h32]
        · have hsh := elemO_shift l c m (by omega)
          cases he : elemO (l.drop c) m with
          | none =>
            rw [he] at hsh
            rw [parseI_none _ _ acc hid hl h59 h32 he, parseI_none l _ acc hid2 (by omega) h59' h32 hsh]
          | some p =>
            rw [he] at hsh
            have hb := elemI_bound _ _ p.1 p.2 (by omega) (elemO_inv _ _ p he).1
            rw [parseI_some _ _ acc p hid hl h59 h32 he, parseI_some l _ acc (p.1, c + p.2) hid2 (by omega) h59' h32 hsh]
            have := P_at l n (c + p.2) (acc ++ [p.1]) (by omega) (by omega) c (by omega)
            rw [this]; congr 1; omega
    · rw [parseI_end (l.drop c) m acc (by omega), parseI_end l (c + m) acc (by omega)]
theorem P_drop (l : Bs) (i : Nat) (acc : List Dir) (hi : i ≤ l.length) : parseI l i acc = P (l.drop i) acc := by
  have := P_at l l.length i acc (by omega) hi i (Nat.le_refl _)
  rw [this, Nat.sub_self]; rfl
theorem P_nil (acc : List Dir) : P [] acc = (acc, 0) := parseI_end [] 0 acc (by simp)
theorem P_blank (b : UInt8) (r : Bs) (acc : List Dir) (h : isBlank b = true) : P (b :: r) acc = P r acc := by
  have e : blkEnd (b :: r) 0 = blkEnd (b :: r) 1 := blkEnd_yes (b :: r) 0 (by simp) h
  unfold P
  rw [parseI_blank, e, ← parseI_blank, P_drop _ 1 _ (by simp)]; rfl
theorem P_semi (r : Bs) (acc : List Dir) : P (59 :: r) acc = P r acc := by
  unfold P
  rw [parseI_semi (59 :: r) 0 acc (by simp [atN]), P_drop _ _ _ (by simp)]; rfl
theorem P_elem (b : UInt8) (r : Bs) (acc : List Dir) (h : isBlank b = false) (h59 : b.toNat ≠ 59) : P (b :: r) acc = if acc.length = 32 then ([], 3) else match elemO (b :: r) 0 with | none => ([], 4) | some p => P ((b :: r).drop p.2) (acc ++ [p.1]) := by
  have hid := blkEnd_no (b :: r) 0 (by simp) h
  have h59' : atN (b :: r) 0 ≠ 59 := by rw [atN_lt _ _ (by simp)]; exact h59
  unfold P
  by_cases h32 : acc.length = 32
  · rw [if_pos h32, parseI_limit _ _ _ hid (by simp) h59' h32]
  · rw [if_neg h32]
    cases he : elemO (b :: r) 0 with
    | none => rw [parseI_none _ _ _ hid (by simp) h59' h32 he]
    | some p =>
      have hb := elemI_bound _ _ p.1 p.2 (by simp) (elemO_inv _ _ p he).1
      rw [parseI_some _ _ _ p hid (by simp) h59' h32 he, P_drop _ p.2 _ hb.2.1]; rfl

/-! ### What stands behind a semicolon is not seen -/
theorem runLen_app (p : UInt8 → Bool) : ∀ (r z : Bs), (∀ h : 0 < z.length, p z[0] = false) → runLen p (r ++ z) = runLen p r
  | [], z, h => by
    match z, h with
    | [], _ => rfl
    | b :: z, h =>
      have hb : p b = false := h (by simp)
      simp [runLen, hb]
  | b :: r, z, h => by
    have ih := runLen_app p r z h
    simp only [List.cons_append]
    rw [runLen, runLen, ih]
theorem tokEnd_app (r z : Bs) (i : Nat) (hi : i ≤ r.length) (h : ∀ h : 0 < z.length, isTok z[0] = false) : tokEnd (r ++ z) i = tokEnd r i := by
  unfold tokEnd; rw [List.drop_append_of_le_length hi, runLen_app _ _ _ h]
theorem blkEnd_app (r z : Bs) (i : Nat) (hi : i ≤ r.length) (h : ∀ h : 0 < z.length, isBlank z[0] = false) : blkEnd (r ++ z) i = blkEnd r i := by
  unfold blkEnd; rw [List.drop_append_of_le_length hi, runLen_app _ _ _ h]
theorem atN_app (r z : Bs) (i : Nat) (hi : i < r.length) : atN (r ++ z) i = atN r i := by
  rw [atN_lt _ _ hi, atN_lt _ _ (by simp; omega), List.getElem_append_left hi]
theorem atN_app_end (r z : Bs) : atN (r ++ 59 :: z) r.length = 59 := by
  rw [atN_lt _ _ (by simp)]; simp
theorem seg_app (r z : Bs) (i j : Nat) (hij : i ≤ j) (hj : j ≤ r.length) : seg (r ++ z) i j = seg r i j := by
  unfold seg
  rw [List.drop_append_of_le_length (by omega), List.take_append_of_le_length (by rw [List.length_drop]; omega)]
theorem scanQ_app : ∀ (r z : Bs) (esc : Bool) (acc : Bs) (pos : Nat), (scanQ r esc acc pos).e = 0 → scanQ (r ++ z) esc acc pos = scanQ r esc acc pos
  | [], _, _, _, _, h => by simp [scanQ] at h
  | b :: r, z, esc, acc, pos, h => by
    have i1 := scanQ_app r z false (acc ++ [b]) (pos + 1)
    have i2 := scanQ_app r z true acc (pos + 1)
    rw [List.cons_append]
    rw [scanQ] at h ⊢
    rw [scanQ]
    by_cases hb : isTxt b = false
    · rw [if_pos hb, if_pos hb]
    · rw [if_neg hb] at h ⊢
      rw [if_neg hb]
      by_cases he : esc = true
      · rw [if_pos he] at h ⊢
        rw [if_pos he]; exact i1 h
      · rw [if_neg he] at h ⊢
        rw [if_neg he]
        by_cases h92 : b.toNat = 92
        · rw [if_pos h92] at h ⊢
          rw [if_pos h92]; exact i2 h
        · rw [if_neg h92] at h ⊢
          rw [if_neg h92]
          by_cases h34 : b.toNat = 34
          · rw [if_pos h34, if_pos h34]
          · rw [if_neg h34] at h ⊢
            rw [if_neg h34]; exact i1 h
theorem parseQ_app (r z : Bs) (k : Nat) (h : (parseQ r k).e = 0) : parseQ (r ++ z) k = parseQ r k := by
  have hb := parseQ_bound r k h
  have hk : k < r.length := by omega
  have hq : r[k].toNat = 34 := by
    by_cases hq : r[k].toNat = 34
    · exact hq
    · rw [parseQ_not r k (by omega) (fun _ => hq)] at h; simp at h
  rw [parseQ_start r k hk hq] at h ⊢
  rw [parseQ_start (r ++ z) k (by simp; omega) (by rw [List.getElem_append_left hk]; exact hq), List.drop_append_of_le_length (by omega)]
  exact scanQ_app _ _ _ _ _ h
theorem semi_tok (z : Bs) : ∀ h : 0 < (59 :: z : Bs).length, isTok (59 :: z : Bs)[0] = false := fun _ => by simp [isTok]
theorem semi_blank (z : Bs) : ∀ h : 0 < (59 :: z : Bs).length, isBlank (59 :: z : Bs)[0] = false := fun _ => by simp [isBlank]
theorem atN_app_ne (r z : Bs) (i n : Nat) (hi : i ≤ r.length) (hn : n ≠ 59) (hn2 : n ≠ 256) : atN (r ++ 59 :: z) i = n ↔ atN r i = n := by
  by_cases h : i < r.length
  · rw [atN_app r _ i h]
  · have : i = r.length := by omega
    subst this
    rw [atN_app_end, atN_out r _ (Nat.le_refl _)]; omega
theorem valI_app (r z : Bs) (k : Nat) (hk : k ≤ r.length) (p : Bs × Nat) (h : valI r k = some p) : valI (r ++ 59 :: z) k = some p := by
  have ht := tokEnd_app r (59 :: z) k hk (semi_tok z)
  have hle := tokEnd_le r k hk
  by_cases hq : atN r k = 34
  · by_cases he : (parseQ r k).e = 0
    · rw [valI_quote r k hq he] at h
      have e := parseQ_app r (59 :: z) k he
      rw [valI_quote _ k ((atN_app_ne r z k 34 hk (by omega) (by omega)).2 hq) (by rw [e]; exact he), e]; exact h
    · rw [valI_bad r k hq he] at h; simp at h
  · have hq2 : atN (r ++ 59 :: z) k ≠ 34 := fun e => hq ((atN_app_ne r z k 34 hk (by omega) (by omega)).1 e)
    by_cases he : k < tokEnd r k
    · rw [valI_tok r k hq he] at h
      rw [valI_tok _ k hq2 (by rw [ht]; exact he), ht, seg_app r _ _ _ (by omega) hle]; exact h
    · rw [valI_none r k hq he] at h; simp at h
/-- .. and where there is no quote, neither does a value that is none become one. -/
theorem valI_app_none (r z : Bs) (k : Nat) (hk : k ≤ r.length) (hq : atN r k ≠ 34) (h : valI r k = none) : valI (r ++ 59 :: z) k = none := by
  have ht := tokEnd_app r (59 :: z) k hk (semi_tok z)
  have hq2 : atN (r ++ 59 :: z) k ≠ 34 := fun e => hq ((atN_app_ne r z k 34 hk (by omega) (by omega)).1 e)
  by_cases he : k < tokEnd r k
  · rw [valI_tok r k hq he] at h; simp at h
  · exact valI_none _ k hq2 (by rw [ht]; exact he)
theorem stopAt_app (r z : Bs) (j : Nat) (hj : j ≤ r.length) : stopAt (r ++ 59 :: z) j ↔ stopAt r j := by
  unfold stopAt
  by_cases h : j < r.length
  · rw [atN_app r _ j h]
  · have : j = r.length := by omega
    subst this
    rw [atN_app_end, atN_out r _ (Nat.le_refl _)]; simp
theorem elemI_app (r z : Bs) (i : Nat) (hi : i ≤ r.length) (p : Dir × Nat) (h : elemI r i = some p) : elemI (r ++ 59 :: z) i = some p := by
  have ht := tokEnd_app r (59 :: z) i hi (semi_tok z)
  have hle := tokEnd_le r i hi
  have hb := blkEnd_app r (59 :: z) _ hle (semi_blank z)
  have hble := blkEnd_le r _ hle
  by_cases h1 : i < tokEnd r i
  · by_cases h2 : atN r (blkEnd r (tokEnd r i)) = 61
    · rw [elemI_val r i h1 h2, Option.map_eq_some_iff] at h
      obtain ⟨q, hv, he⟩ := h
      have hin := atN_in r _ (by omega : atN r (blkEnd r (tokEnd r i)) ≠ 256)
      have hble2 := blkEnd_le r (blkEnd r (tokEnd r i) + 1) (by omega)
      have hvb := valI_bound r _ q.1 q.2 hble2 hv
      rw [elemI_val _ i (by rw [ht]; exact h1) (by rw [ht, hb]; exact (atN_app_ne r z _ 61 hble (by omega) (by omega)).2 h2), ht, hb, blkEnd_app r _ _ (by omega) (semi_blank z), valI_app r z _ hble2 q hv, seg_app r _ _ _ (by omega) hle]
      rw [← he, Option.map_some, blkEnd_app r _ _ hvb.2.1 (semi_blank z)]
    · rw [elemI_bare r i h1 h2] at h
      rw [elemI_bare _ i (by rw [ht]; exact h1) (by rw [ht, hb]; exact fun e => h2 ((atN_app_ne r z _ 61 hble (by omega) (by omega)).1 e)), ht, hb, seg_app r _ _ _ (by omega) hle]; exact h
  · rw [elemI_no r i h1] at h; simp at h
theorem elemO_app (r z : Bs) (p : Dir × Nat) (h : elemO r 0 = some p) : elemO (r ++ 59 :: z) 0 = some p := by
  have hi := elemO_inv r 0 p h
  have hb := elemI_bound r 0 p.1 p.2 (by omega) hi.1
  exact elemO_some _ _ _ (elemI_app r z 0 (by omega) p hi.1) ((stopAt_app r z p.2 hb.2.1).2 hi.2)
/-- A list, a semicolon and more. -/
theorem P_concat (z : Bs) : ∀ (n : Nat) (r : Bs) (acc L : List Dir), r.length ≤ n → P r acc = (L, 0) → P (r ++ 59 :: z) acc = P z L
  | _, [], acc, L, _, h => by
    rw [P_nil] at h
    simp only [Prod.mk.injEq, and_true] at h
    subst h
    exact P_semi z acc
  | 0, _ :: _, _, _, hn, _ => by simp at hn
  | n + 1, b :: r, acc, L, hn, h => by
    simp only [List.length_cons] at hn
    cases hb : isBlank b
    · by_cases h59 : b.toNat = 59
      · have e59 : b = 59 := UInt8.toNat_inj.1 h59
        subst e59
        rw [P_semi] at h
        rw [List.cons_append, P_semi]
        exact P_concat z n r acc L (by omega) h
      · rw [P_elem b r acc hb h59] at h
        rw [List.cons_append, P_elem b _ acc hb h59]
        split at h
        · simp at h
        · rename_i h32
          rw [if_neg h32]
          cases he : elemO (b :: r) 0 with
          | none => rw [he] at h; simp at h
          | some p =>
            rw [he] at h
            simp only at h
            have hbd := elemI_bound _ _ p.1 p.2 (by simp) (elemO_inv _ _ p he).1
            have e := elemO_app (b :: r) z p he
            rw [List.cons_append] at e
            rw [e]
            simp only
            have e2 : (b :: (r ++ 59 :: z)).drop p.2 = (b :: r).drop p.2 ++ 59 :: z := by
              rw [← List.cons_append, List.drop_append_of_le_length hbd.2.1]
            rw [e2]
            exact P_concat z n _ _ L (by rw [List.length_drop]; simp only [List.length_cons]; omega) h
    · rw [P_blank b r acc hb] at h
      rw [List.cons_append, P_blank b _ acc hb]
      exact P_concat z n r acc L (by omega) h
/-- What is read does not hang on what has been read, up to the limit. -/
theorem P_acc : ∀ (n : Nat) (r : Bs) (a0 acc L : List Dir), r.length ≤ n → P r acc = (L, 0) → a0.length + L.length ≤ 32 → P r (a0 ++ acc) = (a0 ++ L, 0)
  | _, [], a0, acc, L, _, h, _ => by
    rw [P_nil] at h
    simp only [Prod.mk.injEq, and_true] at h
    subst h
    exact P_nil _
  | 0, _ :: _, _, _, _, hn, _, _ => by simp at hn
  | n + 1, b :: r, a0, acc, L, hn, h, hl => by
    simp only [List.length_cons] at hn
    cases hb : isBlank b
    · by_cases h59 : b.toNat = 59
      · have e59 : b = 59 := UInt8.toNat_inj.1 h59
        subst e59
        rw [P_semi] at h ⊢
        exact P_acc n r a0 acc L (by omega) h hl
      · have hmono := parseI_bound
        rw [P_elem b r _ hb h59] at h ⊢
        split at h
        · simp at h
        · rename_i h32
          cases he : elemO (b :: r) 0 with
          | none => rw [he] at h; simp at h
          | some p =>
            rw [he] at h
            simp only at h ⊢
            have hbd := elemI_bound _ _ p.1 p.2 (by simp) (elemO_inv _ _ p he).1
            have hgrow := P_grows n ((b :: r).drop p.2) (acc ++ [p.1]) L (by rw [List.length_drop]; simp only [List.length_cons]; omega) h
            rw [List.length_append, List.length_singleton] at hgrow
            rw [if_neg (by rw [List.length_append]; omega), List.append_assoc]
            exact P_acc n _ a0 _ L (by rw [List.length_drop]; simp only [List.length_cons]; omega) h hl
    · rw [P_blank b r _ hb] at h ⊢
      exact P_acc n r a0 acc L (by omega) h hl
where
  P_grows : ∀ (n : Nat) (r : Bs) (acc L : List Dir), r.length ≤ n → P r acc = (L, 0) → acc.length ≤ L.length
  | _, [], acc, L, _, h => by
    rw [P_nil] at h
    simp only [Prod.mk.injEq, and_true] at h
    subst h
    exact Nat.le_refl _
  | 0, _ :: _, _, _, hn, _ => by simp at hn
  | n + 1, b :: r, acc, L, hn, h => by
    simp only [List.length_cons] at hn
    cases hb : isBlank b
    · by_cases h59 : b.toNat = 59
      · have e59 : b = 59 := UInt8.toNat_inj.1 h59
        subst e59
        rw [P_semi] at h
        exact P_grows n r acc L (by omega) h
      · rw [P_elem b r _ hb h59] at h
        split at h
        · simp at h
        · cases he : elemO (b :: r) 0 with
          | none => rw [he] at h; simp at h
          | some p =>
            rw [he] at h
            simp only at h
            have hbd := elemI_bound _ _ p.1 p.2 (by simp) (elemO_inv _ _ p he).1
            have := P_grows n _ _ L (by rw [List.length_drop]; simp only [List.length_cons]; omega) h
            rw [List.length_append] at this; omega
    · rw [P_blank b r _ hb] at h
      exact P_grows n r acc L (by omega) h
/-- Two lists, joined by a semicolon. -/
theorem parseD_concat (a b : Bs) (L M : List Dir) (ha : parseD a = (L, 0)) (hb : parseD b = (M, 0)) (hl : a.length + b.length + 1 ≤ 4096) (hn : L.length + M.length ≤ 32) : parseD (a ++ 59 :: b) = (L ++ M, 0) := by
  rw [parseD_short _ (by omega)] at ha hb
  rw [parseD_short _ (by simp only [List.length_append, List.length_cons]; omega)]
  have h1 := P_concat b a.length a [] L (Nat.le_refl _) ha
  have h2 := P_acc b.length b L [] M (Nat.le_refl _) hb hn
  rw [List.append_nil] at h2
  exact h1.trans h2
end Hs
