/- Plain functions of the layer directive, by index: elements, lists, validity, texts; the steps of a parser's loop. No program in sight. Conditions: none. -/
import Derived.Test.YtjdkmidajhbefaaDoorPlainQuoted
namespace Hs

/-- A directive: its name, its value, whether it has one. -/
abbrev Dir := Bs × Bs × Bool
/-- The index behind the blanks from i on. -/
def blkEnd (l : Bs) (i : Nat) : Nat := i + runLen isBlank (l.drop i)
/-- The byte at an index; 256 behind the end. -/
def atN (l : Bs) (i : Nat) : Nat := if h : i < l.length then l[i].toNat else 256

theorem atN_lt (l : Bs) (i : Nat) (h : i < l.length) : atN l i = l[i].toNat := dif_pos h
theorem atN_out (l : Bs) (i : Nat) (h : l.length ≤ i) : atN l i = 256 := dif_neg (by omega)
theorem atN_in (l : Bs) (i : Nat) (h : atN l i ≠ 256) : i < l.length := by
  by_cases h2 : i < l.length
  · exact h2
  · exact absurd (atN_out l i (by omega)) h
theorem atN_un (s : ByteArray) (i : Nat) (h : i < s.size) : atN (un s) i = (s[i]'h).toNat := atN_lt (un s) i (by rw [length_un]; exact h)
theorem blkEnd_ge (l : Bs) (i : Nat) : i ≤ blkEnd l i := by unfold blkEnd; omega
theorem blkEnd_le (l : Bs) (i : Nat) (h : i ≤ l.length) : blkEnd l i ≤ l.length := by
  have := runLen_le isBlank (l.drop i)
  rw [List.length_drop] at this
  unfold blkEnd; omega
theorem blkEnd_out (l : Bs) (i : Nat) (h : l.length ≤ i) : blkEnd l i = i := by
  unfold blkEnd; rw [List.drop_eq_nil_of_le h]; rfl
theorem blkEnd_yes (l : Bs) (i : Nat) (h : i < l.length) (ht : isBlank l[i] = true) : blkEnd l i = blkEnd l (i + 1) := by
  unfold blkEnd
  rw [List.drop_eq_getElem_cons h, runLen, if_pos ht]; omega
theorem blkEnd_no (l : Bs) (i : Nat) (h : i < l.length) (ht : isBlank l[i] = false) : blkEnd l i = i := by
  unfold blkEnd
  rw [List.drop_eq_getElem_cons h, runLen, if_neg (by simp [ht])]; omega
theorem blkEnd_stop (l : Bs) (i : Nat) (h : blkEnd l i < l.length) : isBlank (l[blkEnd l i]) = false := by
  have hr : runLen isBlank (l.drop i) < (l.drop i).length := by
    rw [List.length_drop]; unfold blkEnd at h; omega
  have := runLen_next isBlank (l.drop i) hr
  rw [List.getElem_drop] at this
  exact this
theorem blkEnd_idem (l : Bs) (i : Nat) : blkEnd l (blkEnd l i) = blkEnd l i := by
  by_cases h : blkEnd l i < l.length
  · exact blkEnd_no l _ h (blkEnd_stop l i h)
  · exact blkEnd_out l _ (by omega)
theorem blkEnd_at (l : Bs) (i : Nat) (h : atN l i ≠ 32) (h2 : atN l i ≠ 9) : blkEnd l i = i := by
  by_cases hi : i < l.length
  · refine blkEnd_no l i hi (decide_eq_false ?_)
    rw [atN_lt l i hi] at h h2; omega
  · exact blkEnd_out l i (by omega)

/-- What scanQ reads lies in the rest. -/
theorem scanQ_bound : ∀ (r : Bs) (esc : Bool) (acc : Bs) (pos : Nat), (scanQ r esc acc pos).e = 0 → pos < (scanQ r esc acc pos).n ∧ (scanQ r esc acc pos).n ≤ pos + r.length ∧ (scanQ r esc acc pos).v.length ≤ acc.length + r.length
  | [], _, _, _, h => by simp [scanQ] at h
  | b :: r, esc, acc, pos, h => by
    have i1 := scanQ_bound r false (acc ++ [b]) (pos + 1)
    have i2 := scanQ_bound r true acc (pos + 1)
    rw [List.length_append, List.length_singleton] at i1
    unfold scanQ at h ⊢
    split at h
    · simp at h
    · rename_i hb
      rw [if_neg hb]
      split at h
      · rename_i he; rw [if_pos he]; have := i1 h; simp only [List.length_cons]; omega
      · rename_i he; rw [if_neg he]
        split at h
        · rename_i h92; rw [if_pos h92]; have := i2 h; simp only [List.length_cons]; omega
        · rename_i h92; rw [if_neg h92]
          split at h
          · rename_i h34; rw [if_pos h34]; simp only [List.length_cons]; omega
          · rename_i h34; rw [if_neg h34]; have := i1 h; simp only [List.length_cons]; omega
theorem parseQ_bound (l : Bs) (k : Nat) (h : (parseQ l k).e = 0) : k < (parseQ l k).n ∧ (parseQ l k).n ≤ l.length ∧ (parseQ l k).v.length ≤ l.length := by
  by_cases hk : k < l.length
  · by_cases hq : l[k].toNat = 34
    · rw [parseQ_start l k hk hq] at h ⊢
      have := scanQ_bound _ _ _ _ h
      simp only [List.length_drop, List.length_nil] at this
      omega
    · rw [parseQ_not l k (by omega) (fun _ => hq)] at h
      simp at h
  · unfold parseQ at h
    by_cases h2 : (k : Int) < 0 ∨ (l.length : Int) < (k : Int)
    · rw [if_pos h2] at h; simp at h
    · rw [if_neg h2] at h
      simp only [Int.toNat_natCast] at h
      rw [dif_neg hk] at h; simp at h

/-! ### Values and elements -/
def valI (l : Bs) (k : Nat) : Option (Bs × Nat) :=
  if atN l k = 34 then (if (parseQ l k).e = 0 then some ((parseQ l k).v, (parseQ l k).n) else none)
  else if k < tokEnd l k then some (seg l k (tokEnd l k), tokEnd l k) else none
theorem valI_quote (l : Bs) (k : Nat) (h : atN l k = 34) (he : (parseQ l k).e = 0) : valI l k = some ((parseQ l k).v, (parseQ l k).n) := by unfold valI; rw [if_pos h, if_pos he]
theorem valI_bad (l : Bs) (k : Nat) (h : atN l k = 34) (he : (parseQ l k).e ≠ 0) : valI l k = none := by unfold valI; rw [if_pos h, if_neg he]
theorem valI_tok (l : Bs) (k : Nat) (h : atN l k ≠ 34) (he : k < tokEnd l k) : valI l k = some (seg l k (tokEnd l k), tokEnd l k) := by unfold valI; rw [if_neg h, if_pos he]
theorem valI_none (l : Bs) (k : Nat) (h : atN l k ≠ 34) (he : ¬ k < tokEnd l k) : valI l k = none := by unfold valI; rw [if_neg h, if_neg he]
theorem valI_bound (l : Bs) (k : Nat) (v : Bs) (n : Nat) (hk : k ≤ l.length) (h : valI l k = some (v, n)) : k < n ∧ n ≤ l.length ∧ v.length ≤ l.length := by
  unfold valI at h
  split at h
  · split at h
    · rename_i he
      have hb := parseQ_bound l k he
      simp only [Option.some.injEq, Prod.mk.injEq] at h
      obtain ⟨rfl, rfl⟩ := h
      exact hb
    · simp at h
  · split at h
    · rename_i ht
      simp only [Option.some.injEq, Prod.mk.injEq] at h
      obtain ⟨rfl, rfl⟩ := h
      have h1 := tokEnd_le l k hk
      have h2 := length_seg l k (tokEnd l k) (by omega) h1
      omega
    · simp at h

/-- The end of an element: a semicolon or the end of the text. -/
def stopAt (l : Bs) (j : Nat) : Prop := atN l j = 59 ∨ atN l j = 256
instance (l : Bs) (j : Nat) : Decidable (stopAt l j) := by unfold stopAt; infer_instance
/-- The element at an index and the index behind it and the blanks that follow. -/
def elemI (l : Bs) (i : Nat) : Option (Dir × Nat) :=
  if i < tokEnd l i then
    if atN l (blkEnd l (tokEnd l i)) = 61 then
      (valI l (blkEnd l (blkEnd l (tokEnd l i) + 1))).map (fun p => ((lower (seg l i (tokEnd l i)), p.1, true), blkEnd l p.2))
    else some ((lower (seg l i (tokEnd l i)), [], false), blkEnd l (tokEnd l i))
  else none
def elemO (l : Bs) (i : Nat) : Option (Dir × Nat) := (elemI l i).filter (fun p => decide (stopAt l p.2))

theorem elemI_no (l : Bs) (i : Nat) (h : ¬ i < tokEnd l i) : elemI l i = none := by unfold elemI; rw [if_neg h]
theorem elemI_bare (l : Bs) (i : Nat) (h : i < tokEnd l i) (h2 : atN l (blkEnd l (tokEnd l i)) ≠ 61) : elemI l i = some ((lower (seg l i (tokEnd l i)), [], false), blkEnd l (tokEnd l i)) := by unfold elemI; rw [if_pos h, if_neg h2]
theorem elemI_val (l : Bs) (i : Nat) (h : i < tokEnd l i) (h2 : atN l (blkEnd l (tokEnd l i)) = 61) : elemI l i = (valI l (blkEnd l (blkEnd l (tokEnd l i) + 1))).map (fun p => ((lower (seg l i (tokEnd l i)), p.1, true), blkEnd l p.2)) := by unfold elemI; rw [if_pos h, if_pos h2]
theorem elemO_some (l : Bs) (i : Nat) (p : Dir × Nat) (h : elemI l i = some p) (hs : stopAt l p.2) : elemO l i = some p := by unfold elemO; rw [h]; simp [hs]
theorem elemO_stop (l : Bs) (i : Nat) (p : Dir × Nat) (h : elemI l i = some p) (hs : ¬ stopAt l p.2) : elemO l i = none := by unfold elemO; rw [h]; simp [hs]
theorem elemO_none (l : Bs) (i : Nat) (h : elemI l i = none) : elemO l i = none := by unfold elemO; rw [h]; rfl
theorem elemI_bound (l : Bs) (i : Nat) (d : Dir) (j : Nat) (hi : i ≤ l.length) (h : elemI l i = some (d, j)) : i < j ∧ j ≤ l.length ∧ d.1.length ≤ l.length ∧ d.2.1.length ≤ l.length := by
  have h1 := tokEnd_le l i hi
  have h2 := blkEnd_le l _ h1
  have h3 := blkEnd_ge l (tokEnd l i)
  have h4 := length_seg l i _ (tokEnd_ge l i) h1
  by_cases ht : i < tokEnd l i
  · by_cases he : atN l (blkEnd l (tokEnd l i)) = 61
    · rw [elemI_val l i ht he] at h
      have hin := atN_in l _ (by omega : atN l (blkEnd l (tokEnd l i)) ≠ 256)
      have h5 := blkEnd_le l (blkEnd l (tokEnd l i) + 1) (by omega)
      have h6 := blkEnd_ge l (blkEnd l (tokEnd l i) + 1)
      rw [Option.map_eq_some_iff] at h
      obtain ⟨⟨v, n⟩, hv, he2⟩ := h
      simp only [Prod.mk.injEq] at he2
      obtain ⟨rfl, rfl⟩ := he2
      have h7 := valI_bound l _ v n h5 hv
      have h8 := blkEnd_le l n (by omega)
      have h9 := blkEnd_ge l n
      simp only [length_lower]
      omega
    · rw [elemI_bare l i ht he] at h
      simp only [Option.some.injEq, Prod.mk.injEq] at h
      obtain ⟨rfl, rfl⟩ := h
      simp only [length_lower, List.length_nil]
      omega
  · rw [elemI_no l i ht] at h; simp at h
theorem elemO_inv (l : Bs) (i : Nat) (p : Dir × Nat) (h : elemO l i = some p) : elemI l i = some p ∧ stopAt l p.2 := by
  unfold elemO at h
  rw [Option.filter_eq_some_iff] at h
  exact ⟨h.1, by simpa using h.2⟩

/-! ### Lists -/
/-- The directives from an index on, behind those that have been read; the error. -/
def parseI (l : Bs) (i : Nat) (acc : List Dir) : List Dir × Int :=
  if _hk : blkEnd l i < l.length then
    if atN l (blkEnd l i) = 59 then parseI l (blkEnd l i + 1) acc
    else if acc.length = 32 then ([], 3)
    else match _h : elemO l (blkEnd l i) with
      | none => ([], 4)
      | some p => parseI l p.2 (acc ++ [p.1])
  else (acc, 0)
termination_by l.length - i
decreasing_by
  · have := blkEnd_ge l i; omega
  · have := blkEnd_ge l i
    have := elemI_bound l (blkEnd l i) p.1 p.2 (by omega) (elemO_inv l _ p _h).1
    omega

theorem parseI_blank (l : Bs) (i : Nat) (acc : List Dir) : parseI l i acc = parseI l (blkEnd l i) acc := by
  rw [parseI, parseI.eq_def l (blkEnd l i), blkEnd_idem]
theorem parseI_semi (l : Bs) (i : Nat) (acc : List Dir) (h : atN l i = 59) : parseI l i acc = parseI l (i + 1) acc := by
  have e := blkEnd_at l i (by omega) (by omega)
  rw [parseI, e, dif_pos (atN_in l i (by omega)), if_pos h]
theorem parseI_end (l : Bs) (i : Nat) (acc : List Dir) (h : l.length ≤ i) : parseI l i acc = (acc, 0) := by
  have e := blkEnd_out l i h
  rw [parseI, e, dif_neg (by omega)]
theorem parseI_limit (l : Bs) (i : Nat) (acc : List Dir) (hi : blkEnd l i = i) (hl : i < l.length) (h : atN l i ≠ 59) (hn : acc.length = 32) : parseI l i acc = ([], 3) := by
  rw [parseI, hi, dif_pos hl, if_neg h, if_pos hn]
theorem parseI_none (l : Bs) (i : Nat) (acc : List Dir) (hi : blkEnd l i = i) (hl : i < l.length) (h : atN l i ≠ 59) (hn : acc.length ≠ 32) (he : elemO l i = none) : parseI l i acc = ([], 4) := by
  rw [parseI, hi, dif_pos hl, if_neg h, if_neg hn]
  split
  · rfl
  · rename_i p hp; rw [he] at hp; simp at hp
theorem parseI_some (l : Bs) (i : Nat) (acc : List Dir) (p : Dir × Nat) (hi : blkEnd l i = i) (hl : i < l.length) (h : atN l i ≠ 59) (hn : acc.length ≠ 32) (he : elemO l i = some p) : parseI l i acc = parseI l p.2 (acc ++ [p.1]) := by
  rw [parseI, hi, dif_pos hl, if_neg h, if_neg hn]
  split
  · rename_i hp; rw [he] at hp; simp at hp
  · rename_i q hp; rw [he] at hp
    simp only [Option.some.injEq] at hp
    subst hp; rfl
/-- What Parse returns. -/
def parseD (l : Bs) : List Dir × Int := if 4096 < l.length then ([], 3) else parseI l 0 []
theorem parseD_long (l : Bs) (h : 4096 < l.length) : parseD l = ([], 3) := if_pos h
theorem parseD_short (l : Bs) (h : ¬ 4096 < l.length) : parseD l = parseI l 0 [] := if_neg h
/-- At most 32 directives, no text longer than the whole. -/
theorem parseI_bound (l : Bs) : ∀ (n i : Nat) (acc : List Dir), l.length - i ≤ n → acc.length ≤ 32 → (∀ d ∈ acc, d.1.length ≤ l.length ∧ d.2.1.length ≤ l.length) → (parseI l i acc).1.length ≤ 32 ∧ ∀ d ∈ (parseI l i acc).1, d.1.length ≤ l.length ∧ d.2.1.length ≤ l.length
  | n, i, acc, hn, ha, hd => by
    rw [parseI_blank]
    have hge := blkEnd_ge l i
    have hid := blkEnd_idem l i
    by_cases hl : blkEnd l i < l.length
    · match n, hn with
      | 0, hn => omega
      | n + 1, hn =>
      by_cases h59 : atN l (blkEnd l i) = 59
      · rw [parseI_semi l _ acc h59]
        exact parseI_bound l n _ acc (by omega) ha hd
      · by_cases h32 : acc.length = 32
        · rw [parseI_limit l _ acc hid hl h59 h32]; simp
        · cases he : elemO l (blkEnd l i) with
          | none => rw [parseI_none l _ acc hid hl h59 h32 he]; simp
          | some p =>
            rw [parseI_some l _ acc p hid hl h59 h32 he]
            have hb := elemI_bound l _ p.1 p.2 (by omega) (elemO_inv l _ p he).1
            refine parseI_bound l n _ _ (by omega) (by simp; omega) (fun d hd' => ?_)
            rcases List.mem_append.1 hd' with h | h
            · exact hd d h
            · simp only [List.mem_singleton] at h; subst h; exact ⟨hb.2.2.1, hb.2.2.2⟩
    · rw [parseI_end l _ acc (by omega)]; exact ⟨ha, hd⟩
theorem parseD_bound (l : Bs) : (parseD l).1.length ≤ 32 ∧ ∀ d ∈ (parseD l).1, d.1.length ≤ 4096 ∧ d.2.1.length ≤ 4096 := by
  by_cases h : 4096 < l.length
  · rw [parseD_long l h]; simp
  · rw [parseD_short l h]
    have := parseI_bound l l.length 0 [] (by omega) (by simp) (by simp)
    exact ⟨this.1, fun d hd => ⟨by have := (this.2 d hd).1; omega, by have := (this.2 d hd).2; omega⟩⟩

/-! ### Validity and texts -/
def validOne (d : Dir) : Bool := tokenS d.1 && (lower d.1 == d.1) && (d.2.2 || d.2.1.isEmpty) && d.2.1.all isTxt
def validD (l : List Dir) : Bool := l.all validOne && decide (l.length ≤ 32)
/-- The text of a value. -/
def valText (v : Bs) : Bs := if tokenS v then v else quoteB v
def dirText (d : Dir) : Bs := if d.2.2 then d.1 ++ (61 :: valText d.2.1) else d.1
/-- Texts joined by a semicolon and a space. -/
def joinS : List Bs → Bs
  | [] => []
  | t :: r => if r.isEmpty then t else t ++ (59 :: 32 :: joinS r)
def textD (l : List Dir) : Bs := joinS (l.map dirText)
def formatD (l : List Dir) : Bs × Int := if validD l then (if 4096 < (textD l).length then ([], 3) else (textD l, 0)) else ([], 1)
theorem joinS_snoc : ∀ (ws : List Bs) (x : Bs), joinS (ws ++ [x]) = joinS ws ++ ((if ws.isEmpty then [] else [59, 32]) ++ x)
  | [], x => by simp [joinS]
  | [t], x => by simp [joinS]
  | t :: u :: r, x => by
    have ih := joinS_snoc (u :: r) x
    have e1 : joinS (t :: u :: r ++ [x]) = t ++ (59 :: 32 :: joinS (u :: r ++ [x])) := rfl
    have e2 : joinS (t :: u :: r) = t ++ (59 :: 32 :: joinS (u :: r)) := rfl
    rw [e1, e2, ih]
    simp
theorem length_joinS (m : Nat) : ∀ (ws : List Bs), (∀ t ∈ ws, t.length ≤ m) → (joinS ws).length ≤ ws.length * (m + 2)
  | [], _ => by simp [joinS]
  | t :: r, h => by
    have h1 := h t (by simp)
    have ih := length_joinS m r (fun u hu => h u (by simp [hu]))
    unfold joinS
    split
    · simp only [List.length_cons, Nat.add_mul]; omega
    · simp only [List.length_append, List.length_cons, Nat.add_mul]; omega
theorem length_valText (v : Bs) : (valText v).length ≤ 2 * v.length + 2 := by
  have := length_quoteBody v
  unfold valText
  split
  · omega
  · unfold quoteB; simp only [List.length_cons, List.length_append, List.length_nil]; omega
theorem length_dirText (d : Dir) : (dirText d).length ≤ d.1.length + 2 * d.2.1.length + 3 := by
  have := length_valText d.2.1
  unfold dirText
  split
  · simp only [List.length_append, List.length_cons]; omega
  · omega
end Hs
