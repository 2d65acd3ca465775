/- Plain functions of the layer quoted: tokens, quoted strings; and their laws. No program in sight. Conditions: none. -/
import Derived.Test.YtimfngfimnapoaaPlainAscii
namespace Hs

/-- The bytes that can be elements of a quoted string or follow a backslash. -/
def isTxt (b : UInt8) : Bool := decide (b.toNat = 9 ∨ (32 ≤ b.toNat ∧ b.toNat ≠ 127))

/-! ### Tokens -/
def runLen (p : UInt8 → Bool) : Bs → Nat
  | [] => 0
  | b :: r => if p b then runLen p r + 1 else 0
/-- The index behind the token characters from i on. -/
def tokEnd (l : Bs) (i : Nat) : Nat := i + runLen isTok (l.drop i)
/-- The same at any index. -/
def tokAt (l : Bs) (i : Int) : Int := if i < 0 then i else (tokEnd l i.toNat : Int)
def tokenS (l : Bs) : Bool := !l.isEmpty && l.all isTok

theorem runLen_le (p : UInt8 → Bool) : ∀ l : Bs, runLen p l ≤ l.length
  | [] => by simp [runLen]
  | b :: r => by
    have := runLen_le p r
    unfold runLen
    split <;> simp only [List.length_cons] <;> omega
theorem tokEnd_ge (l : Bs) (i : Nat) : i ≤ tokEnd l i := by unfold tokEnd; omega
theorem tokEnd_le (l : Bs) (i : Nat) (h : i ≤ l.length) : tokEnd l i ≤ l.length := by
  have := runLen_le isTok (l.drop i)
  rw [List.length_drop] at this
  unfold tokEnd; omega
theorem tokEnd_out (l : Bs) (i : Nat) (h : l.length ≤ i) : tokEnd l i = i := by
  unfold tokEnd; rw [List.drop_eq_nil_of_le h]; rfl
theorem tokEnd_yes (l : Bs) (i : Nat) (h : i < l.length) (ht : isTok l[i] = true) : tokEnd l i = tokEnd l (i + 1) := by
  unfold tokEnd
  rw [List.drop_eq_getElem_cons h, runLen, if_pos ht]; omega
theorem tokEnd_no (l : Bs) (i : Nat) (h : i < l.length) (ht : isTok l[i] = false) : tokEnd l i = i := by
  unfold tokEnd
  rw [List.drop_eq_getElem_cons h, runLen, if_neg (by simp [ht])]; omega
theorem runLen_all (p : UInt8 → Bool) : ∀ l : Bs, (runLen p l = l.length) ↔ l.all p = true
  | [] => by simp [runLen]
  | b :: r => by
    have ih := runLen_all p r
    have hle := runLen_le p r
    unfold runLen
    by_cases hb : p b = true
    · rw [if_pos hb]
      simp only [List.length_cons, List.all_cons, hb, Bool.true_and, ← ih]; omega
    · rw [if_neg hb]
      simp [hb]
theorem runLen_prefix (p : UInt8 → Bool) : ∀ l : Bs, (l.take (runLen p l)).all p = true
  | [] => by simp [runLen]
  | b :: r => by
    unfold runLen
    by_cases hb : p b = true
    · rw [if_pos hb]; simp only [List.take_succ_cons, List.all_cons, hb, Bool.true_and]; exact runLen_prefix p r
    · rw [if_neg hb]; simp
theorem runLen_next (p : UInt8 → Bool) : ∀ (l : Bs) (h : runLen p l < l.length), p (l[runLen p l]) = false
  | [], h => by simp [runLen] at h
  | b :: r, h => by
    by_cases hb : p b = true
    · have e : runLen p (b :: r) = runLen p r + 1 := by rw [runLen, if_pos hb]
      simp only [e, List.getElem_cons_succ]
      exact runLen_next p r (by rw [e] at h; simpa using h)
    · have e : runLen p (b :: r) = 0 := by rw [runLen, if_neg hb]
      simp only [e, List.getElem_cons_zero]
      simpa using hb
theorem tokenS_end (l : Bs) : tokenS l = (!l.isEmpty && decide (tokEnd l 0 = l.length)) := by
  unfold tokenS tokEnd
  congr 1
  rw [List.drop_zero, Nat.zero_add, Bool.eq_iff_iff, decide_eq_true_eq, runLen_all]

/-! ### Quoted strings -/
structure QRes where
  v : Bs
  n : Nat
  e : Int

/-- Reads the elements of a quoted string: the rest, whether a backslash stands before it, what has been read, the index. -/
def scanQ : Bs → Bool → Bs → Nat → QRes
  | [], _, _, _ => ⟨[], 0, 5⟩
  | b :: r, esc, acc, pos =>
    if isTxt b = false then ⟨[], 0, 4⟩
    else if esc then scanQ r false (acc ++ [b]) (pos + 1)
    else if b.toNat = 92 then scanQ r true acc (pos + 1)
    else if b.toNat = 34 then ⟨acc, pos + 1, 0⟩
    else scanQ r false (acc ++ [b]) (pos + 1)
/-- Reads the quoted string at an index. -/
def parseQ (l : Bs) (i : Int) : QRes :=
  if i < 0 ∨ (l.length : Int) < i then ⟨[], 0, 2⟩
  else if h : i.toNat < l.length then (if (l[i.toNat]'h).toNat = 34 then scanQ (l.drop (i.toNat + 1)) false [] (i.toNat + 1) else ⟨[], 0, 4⟩)
  else ⟨[], 0, 4⟩

theorem scanQ_bad (b : UInt8) (r : Bs) (esc : Bool) (acc : Bs) (pos : Nat) (h : isTxt b = false) : scanQ (b :: r) esc acc pos = ⟨[], 0, 4⟩ := by rw [scanQ, if_pos h]
theorem scanQ_esc (b : UInt8) (r : Bs) (acc : Bs) (pos : Nat) (h : isTxt b = true) : scanQ (b :: r) true acc pos = scanQ r false (acc ++ [b]) (pos + 1) := by rw [scanQ, if_neg (by simp [h]), if_pos rfl]
theorem scanQ_back (b : UInt8) (r : Bs) (acc : Bs) (pos : Nat) (hb : b.toNat = 92) : scanQ (b :: r) false acc pos = scanQ r true acc (pos + 1) := by
  have h : isTxt b = true := decide_eq_true (by omega)
  rw [scanQ, if_neg (by simp [h]), if_neg (by decide), if_pos hb]
theorem scanQ_end (b : UInt8) (r : Bs) (acc : Bs) (pos : Nat) (hb : b.toNat = 34) : scanQ (b :: r) false acc pos = ⟨acc, pos + 1, 0⟩ := by
  have h : isTxt b = true := decide_eq_true (by omega)
  rw [scanQ, if_neg (by simp [h]), if_neg (by decide), if_neg (by omega), if_pos hb]
theorem scanQ_char (b : UInt8) (r : Bs) (acc : Bs) (pos : Nat) (h : isTxt b = true) (h1 : b.toNat ≠ 92) (h2 : b.toNat ≠ 34) : scanQ (b :: r) false acc pos = scanQ r false (acc ++ [b]) (pos + 1) := by
  rw [scanQ, if_neg (by simp [h]), if_neg (by decide), if_neg h1, if_neg h2]
theorem parseQ_start (l : Bs) (i : Nat) (h : i < l.length) (hq : l[i].toNat = 34) : parseQ l i = scanQ (l.drop (i + 1)) false [] (i + 1) := by
  unfold parseQ
  rw [if_neg (by omega)]
  simp only [Int.toNat_natCast]
  rw [dif_pos h, if_pos hq]
theorem parseQ_not (l : Bs) (i : Nat) (hi : i ≤ l.length) (hq : ∀ h : i < l.length, l[i].toNat ≠ 34) : parseQ l i = ⟨[], 0, 4⟩ := by
  unfold parseQ
  rw [if_neg (by omega)]
  simp only [Int.toNat_natCast]
  by_cases h : i < l.length
  · rw [dif_pos h, if_neg (hq h)]
  · rw [dif_neg h]

def escB (b : UInt8) : Bs := if b.toNat = 34 ∨ b.toNat = 92 then [92, b] else [b]
def quoteBody (l : Bs) : Bs := l.flatMap escB
def quoteB (l : Bs) : Bs := 34 :: (quoteBody l ++ [34])
theorem quoteBody_snoc (l : Bs) (b : UInt8) : quoteBody (l ++ [b]) = quoteBody l ++ escB b := by simp [quoteBody]
theorem length_quoteBody : ∀ l : Bs, (quoteBody l).length ≤ 2 * l.length
  | [] => by simp [quoteBody]
  | b :: r => by
    have ih := length_quoteBody r
    have e : quoteBody (b :: r) = escB b ++ quoteBody r := by simp [quoteBody]
    have e2 : (escB b).length ≤ 2 := by unfold escB; split <;> simp
    rw [e, List.length_append, List.length_cons]; omega

/-- What Quote returns: the text and the error. -/
def quoteR (l : Bs) : Bs × Int := if l.all isTxt then (quoteB l, 0) else ([], 4)
theorem quoteR_yes (l : Bs) (h : l.all isTxt = true) : quoteR l = (quoteB l, 0) := if_pos h
theorem quoteR_no (l : Bs) (h : l.all isTxt = false) : quoteR l = ([], 4) := if_neg (by simp [h])
theorem quoteBody_step (l : Bs) (k : Nat) (h : k < l.length) : quoteBody (l.take (k + 1)) = quoteBody (l.take k) ++ escB l[k] := by
  rw [List.take_succ_eq_append_getElem h, quoteBody_snoc]
theorem seg_one (l : Bs) (k : Nat) (h : k < l.length) : seg l k (k + 1) = [l[k]] := by
  rw [seg_snoc l k k (Nat.le_refl _) h, seg_self, List.nil_append]
theorem length_quoteBody_take (l : Bs) (k : Nat) : (quoteBody (l.take k)).length ≤ 2 * k := by
  have := length_quoteBody (l.take k)
  rw [List.length_take] at this; omega
/-- What is quoted reads back. -/
theorem scanQ_body : ∀ (l r acc : Bs) (pos : Nat), l.all isTxt = true → scanQ (quoteBody l ++ r) false acc pos = scanQ r false (acc ++ l) (pos + (quoteBody l).length)
  | [], r, acc, pos, _ => by simp [quoteBody]
  | b :: l, r, acc, pos, h => by
    simp only [List.all_cons, Bool.and_eq_true] at h
    have e : quoteBody (b :: l) = escB b ++ quoteBody l := by simp [quoteBody]
    have hb : ¬ isTxt b = false := by simp [h.1]
    rw [e]
    by_cases hq : b.toNat = 34 ∨ b.toNat = 92
    · have e2 : escB b = [92, b] := if_pos hq
      have h92 : ¬ isTxt 92 = false := by decide
      rw [e2]
      simp only [List.cons_append, List.nil_append]
      rw [scanQ, if_neg h92, if_neg (by decide), if_pos (by decide), scanQ, if_neg hb, if_pos rfl, scanQ_body l r _ _ h.2]
      simp only [List.append_assoc, List.cons_append, List.nil_append, List.length_cons]
      congr 1; omega
    · have e2 : escB b = [b] := if_neg hq
      rw [e2]
      simp only [List.cons_append, List.nil_append]
      rw [scanQ, if_neg hb, if_neg (by decide), if_neg (by omega), if_neg (by omega), scanQ_body l r _ _ h.2]
      simp only [List.append_assoc, List.cons_append, List.nil_append, List.length_cons]
      congr 1; omega
theorem quoteBody_tok : ∀ l : Bs, l.all isTok = true → quoteBody l = l
  | [], _ => rfl
  | b :: l, h => by
    simp only [List.all_cons, Bool.and_eq_true] at h
    have hb : ¬ (b.toNat = 34 ∨ b.toNat = 92) := by
      have := of_decide_eq_true h.1
      omega
    have e : quoteBody (b :: l) = escB b ++ quoteBody l := by simp [quoteBody]
    rw [e, quoteBody_tok l h.2]
    simp [escB, hb]
theorem tok_txt (l : Bs) (h : l.all isTok = true) : l.all isTxt = true := by
  rw [List.all_eq_true] at h ⊢
  intro b hb
  have := of_decide_eq_true (h b hb)
  exact decide_eq_true (by omega)
/-- Parse reads back what Quote returns, whatever stands before and behind it. -/
theorem parseQ_quote (l a z : Bs) (h : l.all isTxt = true) : parseQ (a ++ (quoteB l ++ z)) (a.length : Int) = ⟨l, a.length + (quoteB l).length, 0⟩ := by
  unfold parseQ
  have hlen : (a ++ (quoteB l ++ z)).length = a.length + ((quoteB l).length + z.length) := by simp
  have hq : (quoteB l).length = (quoteBody l).length + 2 := by simp [quoteB]
  rw [if_neg (by omega), Int.toNat_natCast, dif_pos (by omega)]
  have hd : (a ++ (quoteB l ++ z)).drop (a.length + 1) = quoteBody l ++ (34 :: z) := by
    rw [← List.drop_drop, List.drop_left]
    simp [quoteB]
  have hg : (a ++ (quoteB l ++ z))[a.length]'(by omega) = 34 := by
    rw [List.getElem_append_right (Nat.le_refl _)]
    simp [quoteB]
  rw [hg, if_pos (by decide), hd, scanQ_body l _ _ _ h, scanQ, if_neg (by decide), if_neg (by decide), if_neg (by decide), if_pos (by decide)]
  simp only [List.nil_append]
  congr 1; omega

/-! ### Tokens as segments -/
theorem seg_tok (l : Bs) (k : Nat) : seg l k (tokEnd l k) = (l.drop k).take (runLen isTok (l.drop k)) := by
  unfold seg tokEnd
  congr 1; omega
theorem tok_seg (l : Bs) (k : Nat) : (seg l k (tokEnd l k)).all isTok = true := by rw [seg_tok]; exact runLen_prefix _ _
theorem tok_seg_S (l : Bs) (k : Nat) (hk : k ≤ l.length) (h : k < tokEnd l k) : tokenS (seg l k (tokEnd l k)) = true := by
  unfold tokenS
  rw [tok_seg, seg_empty l k _ (by omega) (tokEnd_le l k hk), decide_eq_false (by omega)]; rfl
theorem tok_seg_next (l : Bs) (k : Nat) (hk : k ≤ l.length) (h : tokEnd l k < l.length) : tokenS (seg l k (tokEnd l k + 1)) = false := by
  unfold tokenS
  rw [seg_snoc l k _ (tokEnd_ge l k) h, List.all_append]
  have h2 : isTok (l[tokEnd l k]) = false := by
    have hr : runLen isTok (l.drop k) < (l.drop k).length := by rw [List.length_drop]; unfold tokEnd at h; omega
    have := runLen_next isTok (l.drop k) hr
    rw [List.getElem_drop] at this
    exact this
  simp [h2]
theorem parseQ_token (t : Bs) (h : t.all isTok = true) : parseQ (([34] ++ t) ++ [34]) 0 = ⟨t, t.length + 2, 0⟩ := by
  have h1 := parseQ_quote t [] [] (tok_txt t h)
  have e : quoteB t = 34 :: (t ++ [34]) := by unfold quoteB; rw [quoteBody_tok t h]
  rw [e] at h1
  simp only [List.nil_append, List.append_nil, List.length_nil, List.length_cons, List.length_append, Nat.zero_add] at h1
  have e2 : ([34] ++ t) ++ [34] = 34 :: (t ++ [34]) := rfl
  rw [e2]
  exact h1
end Hs
