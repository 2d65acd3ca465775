/- Plain functions of the layer fields: the lines of a header section, its fields, what is written; and their laws. No program in sight. Conditions: none. -/
import Derived.Test.YtimfngfimnapoaaPlainQuoted
import Derived.Lib.IndexMore
import Derived.Lib.Strings
namespace Hs
open Go

abbrev Fld := Bs × Bs

/-! ### A list cut at a byte -/
theorem occ_one (l : Bs) (c : UInt8) (j : Nat) (hj : j < l.length) : Lib.occAt l [c] j = (c == l[j]) := by
  unfold Lib.occAt
  rw [List.drop_eq_getElem_cons hj]
  simp [List.isPrefixOf]
theorem cut_one_yes (a r : Bs) (c : UInt8) (h : c ∉ a) : Lib.cut (a ++ c :: r) [c] = (a, r, true) := by
  have hi : Lib.index (a ++ c :: r) [c] = (a.length : Int) := by
    refine Lib.index_first (by simp) ?_ ?_
    · rw [occ_one _ _ _ (by simp)]
      simp
    · intro j hj
      rw [occ_one _ _ _ (by simp; omega), List.getElem_append_left hj]
      have hne : c ≠ a[j] := fun e => h (e ▸ List.getElem_mem hj)
      simp [hne]
  unfold Lib.cut
  rw [hi, if_pos (by omega)]
  simp
theorem cut_one_no (l : Bs) (c : UInt8) (h : c ∉ l) : Lib.cut l [c] = (l, [], false) := by
  have hi : Lib.index l [c] = -1 := by
    rcases Lib.index_spec l [c] with ⟨h1, _⟩ | ⟨i, h1, h2, h3, _⟩
    · exact h1
    · exfalso
      by_cases hil : i < l.length
      · rw [occ_one _ _ _ hil] at h3
        simp at h3
        exact h (h3 ▸ List.getElem_mem hil)
      · unfold Lib.occAt at h3
        rw [List.drop_eq_nil_of_le (by omega)] at h3
        simp at h3
  unfold Lib.cut
  rw [hi, if_neg (by omega)]
/-- A list that has a byte has a first one. -/
theorem first_of_mem (c : UInt8) : ∀ l : Bs, c ∈ l → ∃ a r, l = a ++ c :: r ∧ c ∉ a
  | [], h => by cases h
  | x :: l, h => by
    by_cases hx : x = c
    · exact ⟨[], l, by simp [hx], by simp⟩
    · have h' : c ∈ l := by
        rcases List.mem_cons.1 h with e | e
        · exact absurd e.symm hx
        · exact e
      obtain ⟨a, r, e, hn⟩ := first_of_mem c l h'
      exact ⟨x :: a, r, by simp [e], by simp [hn]; exact fun e => hx e.symm⟩
theorem split_at (l : Bs) (c : UInt8) : (∃ a r, l = a ++ c :: r ∧ c ∉ a) ∨ c ∉ l := by
  by_cases h : c ∈ l
  · exact .inl (first_of_mem c l h)
  · exact .inr h

/-! ### Lines -/
/-- A line without a carriage return at its end. -/
def stripCR (l : Bs) : Bs := if l.getLast? = some 13 then l.dropLast else l
theorem stripCR_cr (l : Bs) : stripCR (l ++ [13]) = l := by simp [stripCR]
theorem stripCR_no (l : Bs) (h : (13 : UInt8) ∉ l) : stripCR l = l := by
  unfold stripCR
  rw [if_neg]
  intro e
  exact h (List.mem_of_getLast? e)
theorem trimSuffix_cr (l : Bs) : Lib.trimSuffix l [13] = stripCR l := by
  unfold Lib.trimSuffix Lib.hasSuffix stripCR
  by_cases h : l.getLast? = some 13
  · obtain ⟨t, rfl⟩ := List.getLast?_eq_some_iff.1 h
    have : ([13] : Bs).isSuffixOf (t ++ [13]) = true := by rw [List.isSuffixOf_iff_suffix]; exact List.suffix_append _ _
    simp [this]
  · rw [if_neg h, if_neg]
    intro hs
    rw [List.isSuffixOf_iff_suffix] at hs
    obtain ⟨t, rfl⟩ := hs
    exact h (by simp)
theorem length_stripCR (l : Bs) : (stripCR l).length ≤ l.length := by
  unfold stripCR; split <;> simp

def linesAux : Bs → Bs → List (Bs × Bool)
  | cur, [] => if cur.isEmpty then [] else [(stripCR cur, false)]
  | cur, b :: r => if b = 10 then (if (stripCR cur).isEmpty then [] else (stripCR cur, true) :: linesAux [] r) else linesAux (cur ++ [b]) r
/-- The lines before the first empty one; and whether a line feed follows. -/
def linesL (l : Bs) : List (Bs × Bool) := linesAux [] l

theorem linesAux_none : ∀ (r cur : Bs), (10 : UInt8) ∉ r → linesAux cur r = if (cur ++ r).isEmpty then [] else [(stripCR (cur ++ r), false)]
  | [], cur, _ => by simp [linesAux]
  | b :: r, cur, h => by
    have hb : ¬ b = 10 := fun e => h (by simp [e])
    have hr : (10 : UInt8) ∉ r := fun e => h (by simp [e])
    rw [linesAux, if_neg hb, linesAux_none r _ hr]
    simp
theorem linesAux_cut : ∀ (a r cur : Bs), (10 : UInt8) ∉ a → linesAux cur (a ++ 10 :: r) = if (stripCR (cur ++ a)).isEmpty then [] else (stripCR (cur ++ a), true) :: linesL r
  | [], r, cur, _ => by simp [linesAux, linesL]
  | b :: a, r, cur, h => by
    have hb : ¬ b = 10 := fun e => h (by simp [e])
    have hr : (10 : UInt8) ∉ a := fun e => h (by simp [e])
    rw [List.cons_append, linesAux, if_neg hb, linesAux_cut a r _ hr]
    simp
theorem linesL_nil : linesL [] = [] := rfl
theorem linesL_last (l : Bs) (h : (10 : UInt8) ∉ l) (h0 : l ≠ []) : linesL l = [(stripCR l, false)] := by
  unfold linesL; rw [linesAux_none l [] h, List.nil_append, if_neg (by simp [h0])]
theorem linesL_end (a r : Bs) (h : (10 : UInt8) ∉ a) (h0 : stripCR a = []) : linesL (a ++ 10 :: r) = [] := by
  unfold linesL; rw [linesAux_cut a r [] h, List.nil_append, if_pos (by simp [h0])]
theorem linesL_line (a r : Bs) (h : (10 : UInt8) ∉ a) (h0 : stripCR a ≠ []) : linesL (a ++ 10 :: r) = (stripCR a, true) :: linesL r := by
  unfold linesL; rw [linesAux_cut a r [] h, List.nil_append, if_neg (by simp [h0])]; rfl
/-- There are not more lines than bytes. -/
theorem length_linesAux : ∀ (r cur : Bs), (linesAux cur r).length ≤ r.length + 1
  | [], cur => by unfold linesAux; split <;> simp
  | b :: r, cur => by
    unfold linesAux
    have h1 := length_linesAux r []
    have h2 := length_linesAux r (cur ++ [b])
    split
    · split
      · simp
      · simp only [List.length_cons]; omega
    · simp only [List.length_cons]; omega
theorem length_linesL (l : Bs) : (linesL l).length ≤ l.length + 1 := length_linesAux l []

theorem linesAux_len : ∀ (r cur : Bs) (x : Bs × Bool), x ∈ linesAux cur r → x.1.length ≤ cur.length + r.length
  | [], cur, x, h => by
    unfold linesAux at h
    split at h
    · cases h
    · rw [List.mem_singleton] at h
      subst h
      have := length_stripCR cur
      simp; omega
  | b :: r, cur, x, h => by
    unfold linesAux at h
    split at h
    · split at h
      · cases h
      · rcases List.mem_cons.1 h with rfl | h
        · have := length_stripCR cur
          simp; omega
        · have := linesAux_len r [] x h
          simp at this ⊢; omega
    · have := linesAux_len r _ x h
      simp at this ⊢; omega
theorem linesL_len (l : Bs) (x : Bs × Bool) (h : x ∈ linesL l) : x.1.length ≤ l.length := by
  have := linesAux_len l [] x h
  simpa using this

/-! ### Fields -/
/-- The field that a line contains. -/
def fieldO (t : Bs) : Option Fld :=
  if 0 < tokEnd t 0 ∧ t[tokEnd t 0]? = some 58 ∧ (t.drop (tokEnd t 0 + 1)).all isTxt = true then some (lower (t.take (tokEnd t 0)), trim (t.drop (tokEnd t 0 + 1))) else none
theorem tokEnd_zero (l : Bs) : tokEnd l 0 = runLen isTok l := by unfold tokEnd; simp
theorem runLen_stop (p : UInt8 → Bool) : ∀ (a : Bs) (c : UInt8) (r : Bs), a.all p = true → p c = false → runLen p (a ++ c :: r) = a.length
  | [], c, r, _, hc => by simp [runLen, hc]
  | b :: a, c, r, ha, hc => by
    simp only [List.all_cons, Bool.and_eq_true] at ha
    rw [List.cons_append, runLen, if_pos ha.1, runLen_stop p a c r ha.2 hc]; rfl
theorem tok58 : isTok 58 = false := by decide
theorem runLen_short (p : UInt8 → Bool) : ∀ (a r : Bs), a.all p = false → runLen p (a ++ r) < a.length
  | [], r, h => by simp at h
  | b :: a, r, h => by
    by_cases hb : p b = true
    · rw [List.cons_append, runLen, if_pos hb]
      have := runLen_short p a r (by simpa [hb] using h)
      simp only [List.length_cons]; omega
    · rw [List.cons_append, runLen, if_neg hb]; simp
/-- The field of a line with a colon. -/
theorem fieldO_colon (n v : Bs) (h : (58 : UInt8) ∉ n) : fieldO (n ++ 58 :: v) = if tokenS n = true ∧ v.all isTxt = true then some (lower n, trim v) else none := by
  unfold fieldO tokenS
  rw [tokEnd_zero]
  by_cases hn : n.all isTok = true
  · rw [runLen_stop isTok n 58 v hn tok58]
    have h1 : (n ++ 58 :: v)[n.length]? = some 58 := by simp
    have h2 : (n ++ 58 :: v).drop (n.length + 1) = v := by simp
    have h3 : (n ++ 58 :: v).take n.length = n := by simp
    rw [h1, h2, h3, hn]
    cases n <;> simp
  · have hn' : n.all isTok = false := by simpa using hn
    have hlt := runLen_short isTok n (58 :: v) hn'
    have h1 : (n ++ 58 :: v)[runLen isTok (n ++ 58 :: v)]? ≠ some 58 := by
      rw [List.getElem?_append_left hlt]
      intro e
      exact h (List.mem_of_getElem? e)
    rw [if_neg (fun hh => h1 hh.2.1), hn']
    simp
theorem fieldO_none (t : Bs) (h : (58 : UInt8) ∉ t) : fieldO t = none := by
  unfold fieldO
  rw [if_neg]
  exact fun hh => h (List.mem_of_getElem? hh.2.1)

/-- The fields of lines, behind those that are known; the error. -/
def runF : List (Bs × Bool) → List Fld → List Fld × Int
  | [], acc => (acc, 0)
  | (t, ok) :: r, acc => if ok = false then ([], 5) else if acc.length = 100 then ([], 3) else match fieldO t with
    | none => ([], 4)
    | some f => runF r (acc ++ [f])
theorem runF_nil (acc : List Fld) : runF [] acc = (acc, 0) := rfl
theorem runF_trunc (t : Bs) (r : List (Bs × Bool)) (acc : List Fld) : runF ((t, false) :: r) acc = ([], 5) := by simp [runF]
theorem runF_limit (t : Bs) (r : List (Bs × Bool)) (acc : List Fld) (h : acc.length = 100) : runF ((t, true) :: r) acc = ([], 3) := by simp [runF, h]
theorem runF_syntax (t : Bs) (r : List (Bs × Bool)) (acc : List Fld) (h : acc.length ≠ 100) (hf : fieldO t = none) : runF ((t, true) :: r) acc = ([], 4) := by simp [runF, h, hf]
theorem runF_field (t : Bs) (r : List (Bs × Bool)) (acc : List Fld) (f : Fld) (h : acc.length ≠ 100) (hf : fieldO t = some f) : runF ((t, true) :: r) acc = runF r (acc ++ [f]) := by simp [runF, h, hf]
/-- Parse: the fields and the error. -/
def parseF (l : Bs) : List Fld × Int := if 16384 < l.length then ([], 3) else runF (linesL l) []
theorem parseF_long (l : Bs) (h : 16384 < l.length) : parseF l = ([], 3) := if_pos h
theorem parseF_short (l : Bs) (h : ¬ 16384 < l.length) : parseF l = runF (linesL l) [] := if_neg h
theorem length_runF : ∀ (t : List (Bs × Bool)) (acc : List Fld), acc.length ≤ 100 → (runF t acc).1.length ≤ 100
  | [], acc, h => h
  | (t, ok) :: r, acc, h => by
    unfold runF
    split
    · simp
    · split
      · simp
      · cases fieldO t with
        | none => simp
        | some f => exact length_runF r (acc ++ [f]) (by simp; omega)
theorem length_parseF (l : Bs) : (parseF l).1.length ≤ 100 := by
  unfold parseF
  split
  · simp
  · exact length_runF _ _ (by simp)
theorem length_trimL : ∀ l : Bs, (trimL l).length ≤ l.length
  | [] => by simp [trimL]
  | b :: r => by
    have := length_trimL r
    unfold trimL
    split <;> simp only [List.length_cons] <;> omega
theorem length_trim (l : Bs) : (trim l).length ≤ l.length := by
  unfold trim trimR
  have h1 := length_trimL (trimL l).reverse
  have h2 := length_trimL l
  simp at h1 ⊢; omega

/-! ### Look-up -/
def namedF (l : List Fld) (n : Bs) : List Bs := (l.filter fun f => lower f.1 == lower n).map (·.2)
theorem namedF_append (a b : List Fld) (n : Bs) : namedF (a ++ b) n = namedF a n ++ namedF b n := by simp [namedF]
def firstF (l : List Fld) (n : Bs) : Bs × Bool := match namedF l n with | [] => ([], false) | v :: _ => (v, true)

/-! ### Format -/
def validF (f : Fld) : Bool := tokenS f.1 && decide (lower f.1 = f.1) && f.2.all isTxt && decide (trim f.2 = f.2)
def fieldText (f : Fld) : Bs := f.1 ++ [58, 32] ++ f.2 ++ [13, 10]
def textF0 (l : List Fld) : Bs := l.flatMap fieldText
theorem textF0_snoc (l : List Fld) (f : Fld) : textF0 (l ++ [f]) = textF0 l ++ fieldText f := by simp [textF0]
def textF (l : List Fld) : Bs := textF0 l ++ [13, 10]
def formatF (l : List Fld) : Bs × Int :=
  if 100 < l.length then ([], 3) else if l.all validF = true then (if 16384 < (textF l).length then ([], 3) else (textF l, 0)) else ([], 1)
theorem formatF_many (l : List Fld) (h : 100 < l.length) : formatF l = ([], 3) := if_pos h
theorem formatF_bad (l : List Fld) (h : ¬ 100 < l.length) (hv : l.all validF = false) : formatF l = ([], 1) := by unfold formatF; rw [if_neg h, if_neg (by simp [hv])]
theorem formatF_long (l : List Fld) (h : ¬ 100 < l.length) (hv : l.all validF = true) (hl : 16384 < (textF l).length) : formatF l = ([], 3) := by unfold formatF; rw [if_neg h, if_pos hv, if_pos hl]
theorem formatF_ok (l : List Fld) (h : ¬ 100 < l.length) (hv : l.all validF = true) (hl : ¬ 16384 < (textF l).length) : formatF l = (textF l, 0) := by unfold formatF; rw [if_neg h, if_pos hv, if_neg hl]
theorem formatF_inv (l : List Fld) (h : (formatF l).2 = 0) : l.length ≤ 100 ∧ l.all validF = true ∧ (formatF l).1 = textF l := by
  unfold formatF at h ⊢
  by_cases h1 : 100 < l.length
  · rw [if_pos h1] at h; cases h
  · rw [if_neg h1] at h ⊢
    by_cases h2 : l.all validF = true
    · rw [if_pos h2] at h ⊢
      by_cases h3 : 16384 < (textF l).length
      · rw [if_pos h3] at h; cases h
      · rw [if_neg h3]; exact ⟨by omega, h2, rfl⟩
    · rw [if_neg h2] at h; cases h

theorem notTok (c : UInt8) (l : Bs) (h : l.all isTok = true) (hc : isTok c = false) : c ∉ l := by
  intro hm
  have := List.all_eq_true.1 h c hm
  rw [hc] at this; cases this
theorem notTxt (c : UInt8) (l : Bs) (h : l.all isTxt = true) (hc : isTxt c = false) : c ∉ l := by
  intro hm
  have := List.all_eq_true.1 h c hm
  rw [hc] at this; cases this
theorem trim_blank32 (l : Bs) : trim (32 :: l) = trim l := by
  unfold trim
  rw [show trimL (32 :: l) = trimL l from by rw [trimL, if_pos (by decide)]]
theorem linesL_field (f : Fld) (r : Bs) (h : validF f = true) : linesL (fieldText f ++ r) = (f.1 ++ 58 :: 32 :: f.2, true) :: linesL r ∧ fieldO (f.1 ++ 58 :: 32 :: f.2) = some f := by
  unfold validF at h
  simp only [Bool.and_eq_true, decide_eq_true_eq] at h
  obtain ⟨⟨⟨h1, h2⟩, h3⟩, h4⟩ := h
  have ht : f.1.all isTok = true := by unfold tokenS at h1; simp only [Bool.and_eq_true] at h1; exact h1.2
  have e : fieldText f ++ r = (f.1 ++ 58 :: 32 :: f.2 ++ [13]) ++ 10 :: r := by simp [fieldText]
  have hno : (10 : UInt8) ∉ (f.1 ++ 58 :: 32 :: f.2 ++ [13]) := by
    have a1 := notTok 10 f.1 ht (by decide)
    have a2 := notTxt 10 f.2 h3 (by decide)
    simp [a1, a2]
  constructor
  · rw [e, linesL_line _ _ hno (by rw [stripCR_cr]; simp), stripCR_cr]
  · rw [fieldO_colon f.1 _ (notTok 58 f.1 ht (by decide)), if_pos ⟨h1, by simp only [List.all_cons, h3, Bool.and_true]; decide⟩, trim_blank32, h2, h4]
theorem linesL_text : ∀ (l : List Fld) (r : Bs), l.all validF = true → linesL (textF l ++ r) = l.map fun f => (f.1 ++ 58 :: 32 :: f.2, true)
  | [], r, _ => by
    have e : textF [] ++ r = [13] ++ 10 :: r := by simp [textF, textF0]
    rw [e, linesL_end [13] r (by decide) (by decide)]; rfl
  | f :: l, r, h => by
    simp only [List.all_cons, Bool.and_eq_true] at h
    have e : textF (f :: l) ++ r = fieldText f ++ (textF l ++ r) := by simp [textF, textF0]
    rw [e, (linesL_field f _ h.1).1, linesL_text l r h.2]; rfl
theorem runF_text : ∀ (l : List Fld) (acc : List Fld), l.all validF = true → acc.length + l.length ≤ 100 → runF (l.map fun f => (f.1 ++ 58 :: 32 :: f.2, true)) acc = (acc ++ l, 0)
  | [], acc, _, _ => by simp [runF]
  | f :: l, acc, h, hl => by
    simp only [List.all_cons, Bool.and_eq_true] at h
    simp only [List.length_cons] at hl
    rw [List.map_cons, runF_field _ _ _ f (by omega) (linesL_field f [] h.1).2, runF_text l _ h.2 (by simp; omega)]
    simp
/-- Parse reads back what Format returns, whatever follows. -/
theorem parseF_format (l : List Fld) (r : Bs) (h : (formatF l).2 = 0) (hl : ((formatF l).1 ++ r).length ≤ 16384) : parseF ((formatF l).1 ++ r) = (l, 0) := by
  obtain ⟨h1, h2, h3⟩ := formatF_inv l h
  rw [parseF_short _ (by omega), h3, linesL_text l r h2, runF_text l [] h2 (by simpa using h1)]
  simp

/-! ### Line ends -/
def linesText (e : Bs) (l : List Bs) : Bs := l.flatMap (· ++ e)
theorem linesText_snoc (e : Bs) (l : List Bs) (x : Bs) : linesText e (l ++ [x]) = linesText e l ++ (x ++ e) := by simp [linesText]
def plainLine (x : Bs) : Prop := x ≠ [] ∧ (10 : UInt8) ∉ x ∧ (13 : UInt8) ∉ x
theorem linesL_lf : ∀ (l : List Bs), (∀ x ∈ l, plainLine x) → linesL (linesText [10] l) = l.map fun x => (x, true)
  | [], _ => rfl
  | x :: l, h => by
    obtain ⟨h0, h1, h2⟩ := h x (by simp)
    have e : linesText [10] (x :: l) = x ++ 10 :: linesText [10] l := by simp [linesText]
    rw [e, linesL_line x _ h1 (by rw [stripCR_no x h2]; exact h0), stripCR_no x h2, linesL_lf l (fun y hy => h y (by simp [hy]))]; rfl
theorem linesL_crlf : ∀ (l : List Bs), (∀ x ∈ l, plainLine x) → linesL (linesText [13, 10] l) = l.map fun x => (x, true)
  | [], _ => rfl
  | x :: l, h => by
    obtain ⟨h0, h1, h2⟩ := h x (by simp)
    have e : linesText [13, 10] (x :: l) = (x ++ [13]) ++ 10 :: linesText [13, 10] l := by simp [linesText]
    rw [e, linesL_line _ _ (by simp [h1]) (by rw [stripCR_cr]; exact h0), stripCR_cr, linesL_crlf l (fun y hy => h y (by simp [hy]))]; rfl
theorem linesL_stop : ∀ (l : List Bs) (r : Bs), (∀ x ∈ l, plainLine x) → linesL (linesText [10] l ++ ([13, 10] ++ r)) = l.map fun x => (x, true)
  | [], r, _ => by
    have e : linesText [10] [] ++ ([13, 10] ++ r) = [13] ++ 10 :: r := by simp [linesText]
    rw [e, linesL_end [13] r (by decide) (by decide)]; rfl
  | x :: l, r, h => by
    obtain ⟨h0, h1, h2⟩ := h x (by simp)
    have e : linesText [10] (x :: l) ++ ([13, 10] ++ r) = x ++ 10 :: (linesText [10] l ++ ([13, 10] ++ r)) := by simp [linesText]
    rw [e, linesL_line x _ h1 (by rw [stripCR_no x h2]; exact h0), stripCR_no x h2, linesL_stop l r (fun y hy => h y (by simp [hy]))]; rfl
theorem length_linesText (e : Bs) : ∀ (l : List Bs), (∀ x ∈ l, x.length ≤ 100) → (linesText e l).length ≤ l.length * (100 + e.length)
  | [], _ => by simp [linesText]
  | x :: l, h => by
    have ih := length_linesText e l (fun y hy => h y (by simp [hy]))
    have hx := h x (by simp)
    have e2 : linesText e (x :: l) = x ++ e ++ linesText e l := by simp [linesText]
    rw [e2]
    simp only [List.length_append, List.length_cons, Nat.add_mul, Nat.one_mul]
    omega
end Hs
