/- Plain laws of the layer directive: what a directive's text reads as; round trip; what is read is valid. No program in sight. Conditions: none. -/
import Derived.Test.YtjdkmidajhbefaaDoorPlainDirL
namespace Hs

/-- The end of the text, or a semicolon. -/
def endz (z : Bs) : Prop := z = [] ∨ ∃ y, z = 59 :: y
theorem endz_tok {z : Bs} (h : endz z) : ∀ h : 0 < z.length, isTok z[0] = false := by
  rcases h with rfl | ⟨y, rfl⟩
  · intro h; simp at h
  · exact semi_tok y
theorem endz_at {z : Bs} (h : endz z) : atN z 0 = 59 ∨ atN z 0 = 256 := by
  rcases h with rfl | ⟨y, rfl⟩
  · right; rfl
  · left; simp [atN]
theorem runLen_full (p : UInt8 → Bool) (n r : Bs) (hn : n.all p = true) (hr : ∀ h : 0 < r.length, p r[0] = false) : runLen p (n ++ r) = n.length := by
  rw [runLen_app p n r hr]; exact (runLen_all p n).2 hn
theorem tokEnd_at (a n r : Bs) (hn : n.all isTok = true) (hr : ∀ h : 0 < r.length, isTok r[0] = false) : tokEnd (a ++ (n ++ r)) a.length = a.length + n.length := by
  unfold tokEnd
  rw [List.drop_left, runLen_full _ _ _ hn hr]
theorem atN_at (a r : Bs) : atN (a ++ r) a.length = atN r 0 := by
  have := atN_shift (a ++ r) a.length 0
  rw [List.drop_left, Nat.add_zero] at this
  exact this
theorem seg_at (a n r : Bs) : seg (a ++ (n ++ r)) a.length (a.length + n.length) = n := by
  unfold seg
  rw [List.drop_left]
  have e : a.length + n.length - a.length = n.length := by omega
  rw [e, List.take_left]
theorem tok_ne (b : UInt8) (h : isTok b = true) : b.toNat ≠ 32 ∧ b.toNat ≠ 9 ∧ b.toNat ≠ 34 ∧ b.toNat ≠ 59 ∧ b.toNat ≠ 61 ∧ b.toNat ≠ 44 := by
  have := of_decide_eq_true h
  omega
theorem tok_head (t z : Bs) (ht : t.all isTok = true) (hne : t ≠ []) : ∃ b r, t ++ z = b :: r ∧ isTok b = true := by
  cases t with
  | nil => exact absurd rfl hne
  | cons b r =>
    simp only [List.all_cons, Bool.and_eq_true] at ht
    exact ⟨b, r ++ z, rfl, ht.1⟩
theorem tok_head_at (t z : Bs) (ht : t.all isTok = true) (hne : t ≠ []) : atN (t ++ z) 0 ≠ 32 ∧ atN (t ++ z) 0 ≠ 9 ∧ atN (t ++ z) 0 ≠ 34 ∧ atN (t ++ z) 0 ≠ 59 := by
  obtain ⟨b, r, e, hb⟩ := tok_head t z ht hne
  rw [e]
  have h0 : atN (b :: r) 0 = b.toNat := atN_lt (b :: r) 0 (by simp)
  rw [h0]
  have := tok_ne b hb
  exact ⟨this.1, this.2.1, this.2.2.1, this.2.2.2.1⟩
theorem elem_bare (n z : Bs) (hn : n.all isTok = true) (hne : n ≠ []) (hz : endz z) : elemO (n ++ z) 0 = some ((lower n, [], false), n.length) := by
  have h1 : tokEnd (n ++ z) 0 = n.length := by have := tokEnd_at [] n z hn (endz_tok hz); simpa using this
  have h2 : atN (n ++ z) n.length = atN z 0 := atN_at n z
  have h3 := endz_at hz
  have h4 : blkEnd (n ++ z) n.length = n.length := blkEnd_at _ _ (by omega) (by omega)
  have h5 : seg (n ++ z) 0 n.length = n := by have := seg_at [] n z; simpa using this
  have hl : 0 < n.length := List.length_pos_iff.2 hne
  have hi := elemI_bare (n ++ z) 0 (by rw [h1]; exact hl) (by rw [h1, h4, h2]; omega)
  rw [h1, h4, h5] at hi
  exact elemO_some _ _ _ hi (by unfold stopAt; simp only; rw [h2]; exact h3)
theorem elem_val (n x z v : Bs) (hn : n.all isTok = true) (hne : n ≠ []) (hz : endz z) (hx : ∀ a, valI (a ++ (x ++ z)) a.length = some (v, a.length + x.length)) (hb : atN (x ++ z) 0 ≠ 32 ∧ atN (x ++ z) 0 ≠ 9) : elemO (n ++ (61 :: (x ++ z))) 0 = some ((lower n, v, true), n.length + 1 + x.length) := by
  have hr : ∀ h : 0 < (61 :: (x ++ z) : Bs).length, isTok (61 :: (x ++ z) : Bs)[0] = false := fun _ => by simp [isTok]
  have h1 : tokEnd (n ++ (61 :: (x ++ z))) 0 = n.length := by have := tokEnd_at [] n _ hn hr; simpa using this
  have h2 : atN (n ++ (61 :: (x ++ z))) n.length = 61 := by rw [atN_at]; simp [atN]
  have h4 : blkEnd (n ++ (61 :: (x ++ z))) n.length = n.length := blkEnd_at _ _ (by omega) (by omega)
  have h5 : seg (n ++ (61 :: (x ++ z))) 0 n.length = n := by have := seg_at [] n (61 :: (x ++ z)); simpa using this
  have hl : 0 < n.length := List.length_pos_iff.2 hne
  have e : n ++ (61 :: (x ++ z)) = (n ++ [61]) ++ (x ++ z) := by simp
  have el : (n ++ [61]).length = n.length + 1 := by simp
  have h6 : blkEnd (n ++ (61 :: (x ++ z))) (n.length + 1) = n.length + 1 := by
    refine blkEnd_at _ _ ?_ ?_
    · rw [e, ← el, atN_at]; exact hb.1
    · rw [e, ← el, atN_at]; exact hb.2
  have h7 := hx (n ++ [61])
  rw [el, ← e] at h7
  have e2 : n ++ (61 :: (x ++ z)) = (n ++ (61 :: x)) ++ z := by simp
  have el2 : (n ++ (61 :: x)).length = n.length + 1 + x.length := by simp; omega
  have h8 : atN (n ++ (61 :: (x ++ z))) (n.length + 1 + x.length) = atN z 0 := by rw [e2, ← el2, atN_at]
  have h3 := endz_at hz
  have h9 : blkEnd (n ++ (61 :: (x ++ z))) (n.length + 1 + x.length) = n.length + 1 + x.length := blkEnd_at _ _ (by omega) (by omega)
  have hi := elemI_val (n ++ (61 :: (x ++ z))) 0 (by rw [h1]; exact hl) (by rw [h1, h4]; exact h2)
  rw [h1, h4, h5, h6, h7, Option.map_some, h9] at hi
  exact elemO_some _ _ _ hi (by unfold stopAt; simp only; rw [h8]; exact h3)
theorem val_tok (t z a : Bs) (ht : t.all isTok = true) (hne : t ≠ []) (hz : endz z) : valI (a ++ (t ++ z)) a.length = some (t, a.length + t.length) := by
  have h1 := tokEnd_at a t z ht (endz_tok hz)
  have h2 := seg_at a t z
  have h3 := tok_head_at t z ht hne
  have hl : 0 < t.length := List.length_pos_iff.2 hne
  rw [valI_tok _ _ (by rw [atN_at]; exact h3.2.2.1) (by rw [h1]; omega), h1, h2]
theorem val_quo (v z a : Bs) (hv : v.all isTxt = true) : valI (a ++ (quoteB v ++ z)) a.length = some (v, a.length + (quoteB v).length) := by
  have hp := parseQ_quote v a z hv
  have hh : atN (a ++ (quoteB v ++ z)) a.length = 34 := by
    rw [atN_at, atN_lt _ _ (by simp [quoteB])]
    simp [quoteB]
  rw [valI_quote _ _ hh (by rw [hp]), hp]
theorem validOne_parts (d : Dir) (h : validOne d = true) : tokenS d.1 = true ∧ lower d.1 = d.1 ∧ (d.2.2 = true ∨ d.2.1 = []) ∧ d.2.1.all isTxt = true := by
  unfold validOne at h
  simp only [Bool.and_eq_true, Bool.or_eq_true, beq_iff_eq, List.isEmpty_iff] at h
  exact ⟨h.1.1.1, h.1.1.2, h.1.2, h.2⟩
theorem tokenS_parts (l : Bs) (h : tokenS l = true) : l ≠ [] ∧ l.all isTok = true := by
  unfold tokenS at h
  simp only [Bool.and_eq_true, Bool.not_eq_true', List.isEmpty_eq_false_iff] at h
  exact h
/-- The text of a valid directive reads as that directive. -/
theorem elem_text (d : Dir) (z : Bs) (h : validOne d = true) (hz : endz z) : elemO (dirText d ++ z) 0 = some (d, (dirText d).length) := by
  obtain ⟨n, v, t⟩ := d
  obtain ⟨h1, h2, h3, h4⟩ := validOne_parts _ h
  simp only at h1 h2 h3 h4
  obtain ⟨hne, hn⟩ := tokenS_parts n h1
  cases t
  · have hv : v = [] := by simpa using h3
    subst hv
    have := elem_bare n z hn hne hz
    rw [h2] at this
    exact this
  · have hz34 : atN (quoteB v ++ z) 0 = 34 := by rw [atN_lt _ _ (by simp [quoteB])]; simp [quoteB]
    have e : dirText (n, v, true) = n ++ (61 :: valText v) := rfl
    rw [e, List.append_assoc, List.cons_append]
    have hlen : (n ++ (61 :: valText v)).length = n.length + 1 + (valText v).length := by simp; omega
    rw [hlen]
    unfold valText
    cases ht : tokenS v
    · simp only [Bool.false_eq_true, if_false]
      have := elem_val n (quoteB v) z v hn hne hz (fun a => val_quo v z a h4) (by omega)
      rw [h2] at this
      exact this
    · simp only [if_true]
      obtain ⟨vne, vt⟩ := tokenS_parts v ht
      have hh := tok_head_at v z vt vne
      have := elem_val n v z v hn hne hz (fun a => val_tok v z a vt vne hz) ⟨hh.1, hh.2.1⟩
      rw [h2] at this
      exact this
theorem P_elemO (r : Bs) (acc : List Dir) (p : Dir × Nat) (h0 : atN r 0 ≠ 32 ∧ atN r 0 ≠ 9 ∧ atN r 0 ≠ 59) (he : elemO r 0 = some p) (hl : acc.length < 32) : P r acc = P (r.drop p.2) (acc ++ [p.1]) := by
  cases r with
  | nil => have := (elemO_inv _ _ _ he).1; rw [elemI_no [] 0 (by decide)] at this; simp at this
  | cons b r =>
    have e0 : atN (b :: r) 0 = b.toNat := atN_lt (b :: r) 0 (by simp)
    rw [e0] at h0
    rw [P_elem b r acc (decide_eq_false (by omega)) h0.2.2, if_neg (by omega), he]
theorem dirText_head (d : Dir) (z : Bs) (h : validOne d = true) : atN (dirText d ++ z) 0 ≠ 32 ∧ atN (dirText d ++ z) 0 ≠ 9 ∧ atN (dirText d ++ z) 0 ≠ 59 := by
  obtain ⟨h1, _⟩ := validOne_parts _ h
  obtain ⟨hne, hn⟩ := tokenS_parts _ h1
  obtain ⟨n, v, t⟩ := d
  have e : ∃ y, dirText (n, v, t) ++ z = n ++ y := by
    cases t
    · exact ⟨z, rfl⟩
    · exact ⟨61 :: valText v ++ z, by simp [dirText]⟩
  obtain ⟨y, hy⟩ := e
  rw [hy]
  have := tok_head_at n y hn hne
  exact ⟨this.1, this.2.1, this.2.2.2⟩
theorem P_text (d : Dir) (z : Bs) (acc : List Dir) (h : validOne d = true) (hz : endz z) (hl : acc.length < 32) : P (dirText d ++ z) acc = P z (acc ++ [d]) := by
  rw [P_elemO _ acc _ (dirText_head d z h) (elem_text d z h hz) hl, List.drop_left]
/-- Parse reads back what Format writes. -/
theorem P_joinS : ∀ (l acc : List Dir), (∀ d ∈ l, validOne d = true) → acc.length + l.length ≤ 32 → P (joinS (l.map dirText)) acc = (acc ++ l, 0)
  | [], acc, _, _ => by simpa [joinS] using P_nil acc
  | [d], acc, h, hl => by
    have := P_text d [] acc (h d (by simp)) (.inl rfl) (by simp at hl; omega)
    rw [List.append_nil, P_nil] at this
    exact this
  | d :: e :: l, acc, h, hl => by
    have ih := P_joinS (e :: l) (acc ++ [d]) (fun x hx => h x (by simp at hx ⊢; right; exact hx)) (by simp at hl ⊢; omega)
    have es : joinS ((d :: e :: l).map dirText) = dirText d ++ (59 :: 32 :: joinS ((e :: l).map dirText)) := rfl
    rw [es, P_text d _ acc (h d (by simp)) (.inr ⟨_, rfl⟩) (by simp at hl; omega), P_semi, P_blank 32 _ _ (by decide), ih]
    simp
theorem parseD_format (l : List Dir) (h : (formatD l).2 = 0) : validD l = true ∧ parseD (formatD l).1 = (l, 0) := by
  unfold formatD at h ⊢
  cases hv : validD l
  · rw [hv] at h; simp at h
  · rw [hv] at h
    simp only [if_true] at h ⊢
    by_cases h4 : 4096 < (textD l).length
    · rw [if_pos h4] at h; simp at h
    · rw [if_neg h4]
      refine ⟨trivial, ?_⟩
      have hv2 := hv
      unfold validD at hv2
      rw [Bool.and_eq_true, decide_eq_true_eq, List.all_eq_true] at hv2
      rw [parseD_short _ h4]
      have := P_joinS l [] hv2.1 (by simpa using hv2.2)
      rw [List.nil_append] at this
      exact this
/-! ### What is read is valid -/
theorem lower_tok (l : Bs) (h : l.all isTok = true) : (lower l).all isTok = true := by
  unfold lower
  rw [List.all_map]
  rw [List.all_eq_true] at h ⊢
  intro b hb
  have hb' := of_decide_eq_true (h b hb)
  simp only [Function.comp]
  unfold lowB isUpper
  split
  · rename_i hu
    have hu' := of_decide_eq_true hu
    have e : (b + 32).toNat = (b.toNat + 32) % 256 := UInt8.toNat_add b 32
    exact decide_eq_true (by omega)
  · exact h b hb
theorem scanQ_txt : ∀ (r : Bs) (esc : Bool) (acc : Bs) (pos : Nat), acc.all isTxt = true → (scanQ r esc acc pos).v.all isTxt = true
  | [], _, _, _, _ => by simp [scanQ]
  | b :: r, esc, acc, pos, h => by
    unfold scanQ
    by_cases hb : isTxt b = false
    · rw [if_pos hb]; rfl
    · have hb1 : isTxt b = true := by simpa using hb
      have hs : (acc ++ [b]).all isTxt = true := by rw [List.all_append, h]; simp [hb1]
      rw [if_neg hb]
      split
      · exact scanQ_txt r false _ _ hs
      · split
        · exact scanQ_txt r true acc _ h
        · split
          · exact h
          · exact scanQ_txt r false _ _ hs
theorem parseQ_txt (l : Bs) (k : Nat) : (parseQ l k).v.all isTxt = true := by
  by_cases hk : k < l.length
  · by_cases hq : l[k].toNat = 34
    · rw [parseQ_start l k hk hq]; exact scanQ_txt _ _ _ _ rfl
    · rw [parseQ_not l k (by omega) (fun _ => hq)]; rfl
  · unfold parseQ
    split
    · rfl
    · rw [dif_neg (by omega)]; rfl
theorem valI_txt (l : Bs) (k : Nat) (p : Bs × Nat) (h : valI l k = some p) : p.1.all isTxt = true := by
  unfold valI at h
  split at h
  · split at h
    · simp only [Option.some.injEq] at h; subst h; exact parseQ_txt l k
    · simp at h
  · split at h
    · simp only [Option.some.injEq] at h; subst h; exact tok_txt _ (tok_seg l k)
    · simp at h
theorem elemI_valid (l : Bs) (i : Nat) (p : Dir × Nat) (hi : i ≤ l.length) (h : elemI l i = some p) : validOne p.1 = true := by
  by_cases ht : i < tokEnd l i
  · have h1 := tok_seg l i
    have h2 := tok_seg_S l i hi ht
    obtain ⟨hne, _⟩ := tokenS_parts _ h2
    have h3 : tokenS (lower (seg l i (tokEnd l i))) = true := by
      unfold tokenS
      rw [lower_tok _ h1]
      simp [lower, hne]
    by_cases he : atN l (blkEnd l (tokEnd l i)) = 61
    · rw [elemI_val l i ht he, Option.map_eq_some_iff] at h
      obtain ⟨q, hq, rfl⟩ := h
      have := valI_txt l _ q hq
      simp [validOne, h3, lower_idem, this]
    · rw [elemI_bare l i ht he] at h
      simp only [Option.some.injEq] at h
      subst h
      simp [validOne, h3, lower_idem]
  · rw [elemI_no l i ht] at h; simp at h
theorem parseI_valid (l : Bs) : ∀ (n i : Nat) (acc : List Dir), l.length - i ≤ n → acc.length ≤ 32 → (∀ d ∈ acc, validOne d = true) → validD (parseI l i acc).1 = true
  | n, i, acc, hn, hl32, ha => by
    rw [parseI_blank]
    have hge := blkEnd_ge l i
    have hid := blkEnd_idem l i
    have hok : ∀ a : List Dir, a.length ≤ 32 → (∀ d ∈ a, validOne d = true) → validD a = true := fun a h1 h2 => by
      unfold validD; rw [Bool.and_eq_true, decide_eq_true_eq, List.all_eq_true]; exact ⟨h2, h1⟩
    by_cases hl : blkEnd l i < l.length
    · match n, hn with
      | 0, hn => omega
      | n + 1, hn =>
      by_cases h59 : atN l (blkEnd l i) = 59
      · rw [parseI_semi l _ acc h59]
        exact parseI_valid l n _ acc (by omega) hl32 ha
      · by_cases h32 : acc.length = 32
        · rw [parseI_limit l _ acc hid hl h59 h32]; rfl
        · cases he : elemO l (blkEnd l i) with
          | none => rw [parseI_none l _ acc hid hl h59 h32 he]; rfl
          | some p =>
            rw [parseI_some l _ acc p hid hl h59 h32 he]
            have hi := (elemO_inv l _ p he).1
            have hb := elemI_bound l _ p.1 p.2 (by omega) hi
            refine parseI_valid l n _ _ (by omega) (by simp; omega) (fun d hd => ?_)
            rcases List.mem_append.1 hd with h | h
            · exact ha d h
            · simp only [List.mem_singleton] at h; subst h; exact elemI_valid l _ p (by omega) hi
    · rw [parseI_end l _ acc (by omega)]; exact hok acc hl32 ha
theorem parseD_valid (l : Bs) : validD (parseD l).1 = true := by
  by_cases h : 4096 < l.length
  · rw [parseD_long l h]; rfl
  · rw [parseD_short l h]; exact parseI_valid l l.length 0 [] (by omega) (by simp) (fun d hd => by cases hd)
end Hs
