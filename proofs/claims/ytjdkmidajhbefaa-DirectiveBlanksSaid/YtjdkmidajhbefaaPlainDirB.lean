/- Blanks and empty elements around the elements of a list change nothing: plain functions. No program in sight. Conditions: none. -/
import Derived.Test.YtjdkmidajhbefaaPlainDirL
namespace Hs
set_option linter.unusedSimpArgs false

def blankB (t : Bs) : Prop := ∀ b ∈ t, isBlank b = true
/-- No semicolon and no quote. -/
def noSQ (r : Bs) : Bool := r.all (fun b => decide (b.toNat ≠ 59) && decide (b.toNat ≠ 34))
theorem noSQ_cons (b : UInt8) (r : Bs) : noSQ (b :: r) = true ↔ b.toNat ≠ 59 ∧ b.toNat ≠ 34 ∧ noSQ r = true := by
  unfold noSQ
  rw [List.all_cons, Bool.and_eq_true, Bool.and_eq_true, decide_eq_true_eq, decide_eq_true_eq, and_assoc]
theorem noSQ_append (a b : Bs) : noSQ (a ++ b) = (noSQ a && noSQ b) := by unfold noSQ; rw [List.all_append]
theorem noSQ_at (r : Bs) (h : noSQ r = true) (k : Nat) : atN r k ≠ 59 ∧ atN r k ≠ 34 := by
  by_cases hk : k < r.length
  · rw [atN_lt r k hk]
    unfold noSQ at h
    rw [List.all_eq_true] at h
    have := h _ (List.getElem_mem hk)
    simpa using this
  · rw [atN_out r k (by omega)]; omega

/-! ### Blanks behind -/
def phi (r t : Bs) (j : Nat) : Nat := if j < r.length then j else j + t.length
theorem runLen_tail (t : Bs) (ht : blankB t) : ∀ x : Bs, runLen isBlank (x ++ t) = if runLen isBlank x < x.length then runLen isBlank x else x.length + t.length
  | [] => by
    have : ∀ t : Bs, blankB t → runLen isBlank t = t.length := by
      intro t
      induction t with
      | nil => intro _; rfl
      | cons b t ih =>
        intro h
        rw [runLen, if_pos (h b (by simp)), ih (fun c hc => h c (by simp [hc]))]
        simp [Nat.add_comm]
    simp [this t ht, runLen]
  | b :: x => by
    have ih := runLen_tail t ht x
    rw [List.cons_append, runLen, runLen, ih]
    by_cases hb : isBlank b = true
    · rw [if_pos hb, if_pos hb, List.length_cons]
      by_cases h : runLen isBlank x < x.length
      · rw [if_pos h, if_pos (by omega)]
      · rw [if_neg h, if_neg (by omega)]; omega
    · rw [if_neg hb, if_neg hb, List.length_cons, if_pos (by omega)]
theorem blkEnd_tail (r t : Bs) (ht : blankB t) (j : Nat) (hj : j ≤ r.length) : blkEnd (r ++ t) j = phi r t (blkEnd r j) := by
  unfold blkEnd phi
  rw [List.drop_append_of_le_length hj, runLen_tail t ht]
  have hl : (r.drop j).length = r.length - j := List.length_drop
  have hle := runLen_le isBlank (r.drop j)
  by_cases h : runLen isBlank (r.drop j) < (r.drop j).length
  · rw [if_pos h, if_pos (by omega)]
  · rw [if_neg h, if_neg (by omega)]; omega
theorem atN_tail (r t : Bs) (j : Nat) (hj : j ≤ r.length) : atN (r ++ t) (phi r t j) = atN r j := by
  unfold phi
  by_cases h : j < r.length
  · rw [if_pos h, atN_app r t j h]
  · rw [if_neg h, atN_out r j (by omega), atN_out _ _ (by rw [List.length_append]; omega)]
theorem blank_tok (t : Bs) (ht : blankB t) : ∀ h : 0 < t.length, isTok t[0] = false := fun h => by
  have hb := ht t[0] (List.getElem_mem h)
  generalize t[0] = b at hb
  unfold isBlank at hb
  simp only [decide_eq_true_eq] at hb
  unfold isTok
  simp only [Bool.or_eq_false_iff, decide_eq_false_iff_not]
  omega
theorem valI_tail (r t : Bs) (ht : blankB t) (hq : noSQ r = true) (k : Nat) (hk : k ≤ r.length) : valI (r ++ t) (phi r t k) = valI r k := by
  have h34 := (noSQ_at r hq k).2
  have h34' : atN (r ++ t) (phi r t k) ≠ 34 := by rw [atN_tail r t k hk]; exact h34
  have hle := tokEnd_le r k hk
  by_cases h : k < r.length
  · have e : phi r t k = k := if_pos h
    rw [e] at h34' ⊢
    have htk := tokEnd_app r t k hk (blank_tok t ht)
    by_cases he : k < tokEnd r k
    · rw [valI_tok r k h34 he, valI_tok _ k h34' (by rw [htk]; exact he), htk, seg_app r t _ _ (by omega) hle]
    · rw [valI_none r k h34 he, valI_none _ k h34' (by rw [htk]; exact he)]
  · have e : phi r t k = k + t.length := if_neg h
    rw [e] at h34' ⊢
    have hle2 := tokEnd_le (r ++ t) (k + t.length) (by rw [List.length_append]; omega)
    rw [List.length_append] at hle2
    rw [valI_none r k h34 (by omega), valI_none _ _ h34' (by omega)]
theorem elemI_tail (r t : Bs) (ht : blankB t) (hq : noSQ r = true) : elemI (r ++ t) 0 = (elemI r 0).map (fun p => (p.1, phi r t p.2)) := by
  have htk := tokEnd_app r t 0 (by omega) (blank_tok t ht)
  have hle := tokEnd_le r 0 (by omega)
  have hb := blkEnd_tail r t ht _ hle
  have hm := blkEnd_le r _ hle
  by_cases h1 : 0 < tokEnd r 0
  · have hseg := seg_app r t 0 _ (by omega) hle
    by_cases h2 : atN r (blkEnd r (tokEnd r 0)) = 61
    · have hin := atN_in r _ (by omega : atN r (blkEnd r (tokEnd r 0)) ≠ 256)
      have ephi : phi r t (blkEnd r (tokEnd r 0)) = blkEnd r (tokEnd r 0) := if_pos hin
      have hk := blkEnd_le r (blkEnd r (tokEnd r 0) + 1) (by omega)
      have hb2 := blkEnd_tail r t ht (blkEnd r (tokEnd r 0) + 1) (by omega)
      rw [elemI_val r 0 h1 h2, elemI_val (r ++ t) 0 (by rw [htk]; exact h1) (by rw [htk, hb, atN_tail r t _ hm]; exact h2), htk, hb, ephi, hb2, valI_tail r t ht hq _ hk, hseg]
      cases hv : valI r (blkEnd r (blkEnd r (tokEnd r 0) + 1)) with
      | none => rfl
      | some p =>
        have hvb := valI_bound r _ p.1 p.2 hk hv
        simp only [Option.map_some]
        rw [blkEnd_tail r t ht p.2 hvb.2.1]
    · rw [elemI_bare r 0 h1 h2, elemI_bare (r ++ t) 0 (by rw [htk]; exact h1) (by rw [htk, hb, atN_tail r t _ hm]; exact h2), htk, hb, hseg]
      rfl
  · rw [elemI_no r 0 h1, elemI_no (r ++ t) 0 (by rw [htk]; exact h1)]; rfl
theorem stopAt_tail (r t : Bs) (j : Nat) (hj : j ≤ r.length) : stopAt (r ++ t) (phi r t j) ↔ stopAt r j := by
  unfold stopAt; rw [atN_tail r t j hj]
theorem elemO_tail (r t : Bs) (ht : blankB t) (hq : noSQ r = true) : elemO (r ++ t) 0 = (elemO r 0).map (fun p => (p.1, phi r t p.2)) := by
  have h := elemI_tail r t ht hq
  cases he : elemI r 0 with
  | none => rw [he] at h; rw [elemO_none r 0 he, elemO_none _ 0 h]; rfl
  | some p =>
    rw [he] at h
    have hb := elemI_bound r 0 p.1 p.2 (by omega) he
    by_cases hs : stopAt r p.2
    · rw [elemO_some r 0 p he hs, elemO_some _ 0 _ h ((stopAt_tail r t p.2 hb.2.1).2 hs)]; rfl
    · rw [elemO_stop r 0 p he hs, elemO_stop _ 0 _ h (fun e => hs ((stopAt_tail r t p.2 hb.2.1).1 e))]; rfl
/-- Where there is no semicolon an element ends with the text. -/
theorem elemO_end (r : Bs) (hq : noSQ r = true) (p : Dir × Nat) (h : elemO r 0 = some p) : p.2 = r.length := by
  have hi := elemO_inv r 0 p h
  have hb := elemI_bound r 0 p.1 p.2 (by omega) hi.1
  rcases hi.2 with h1 | h1
  · exact absurd h1 (noSQ_at r hq p.2).1
  · by_cases hlt : p.2 < r.length
    · rw [atN_lt r _ hlt] at h1
      have := r[p.2].toNat_lt
      omega
    · omega
theorem P_blanks (t : Bs) (ht : ∀ b ∈ t, isBlank b = true ∨ b = 59) (x : Bs) (acc : List Dir) : P (t ++ x) acc = P x acc := by
  induction t with
  | nil => rfl
  | cons b t ih =>
    rw [List.cons_append]
    have ih := ih (fun c hc => ht c (by simp [hc]))
    rcases ht b (by simp) with h | h
    · rw [P_blank b _ acc h, ih]
    · subst h; rw [P_semi, ih]
theorem P_blanks_end (t : Bs) (ht : blankB t) (acc : List Dir) : P t acc = (acc, 0) := by
  have := P_blanks t (fun b hb => .inl (ht b hb)) [] acc
  rw [List.append_nil] at this
  rw [this, P_nil]
theorem P_tail (t : Bs) (ht : blankB t) : ∀ (r : Bs) (acc : List Dir), noSQ r = true → P (r ++ t) acc = P r acc
  | [], acc, _ => by rw [List.nil_append, P_blanks_end t ht, P_nil]
  | b :: r, acc, hq => by
    have hc := (noSQ_cons b r).1 hq
    cases hb : isBlank b
    · rw [List.cons_append, P_elem b _ acc hb hc.1, P_elem b r acc hb hc.1, ← List.cons_append, elemO_tail (b :: r) t ht hq]
      cases he : elemO (b :: r) 0 with
      | none => rfl
      | some p =>
        have hend := elemO_end _ hq p he
        have e2 : phi (b :: r) t (b :: r).length = (b :: r).length + t.length := by unfold phi; rw [if_neg (Nat.lt_irrefl _)]
        simp only [Option.map_some, hend, e2]
        rw [List.drop_eq_nil_of_le (by rw [List.length_append]; exact Nat.le_refl _), List.drop_eq_nil_of_le (Nat.le_refl _)]
    · rw [List.cons_append, P_blank b _ acc hb, P_blank b r acc hb]
      exact P_tail t ht r acc hc.2.2

/-! ### A semicolon behind -/
theorem elemO_app_none (r z : Bs) (hq : noSQ r = true) (h : elemO r 0 = none) : elemO (r ++ 59 :: z) 0 = none := by
  have ht := tokEnd_app r (59 :: z) 0 (by omega) (semi_tok z)
  have hle := tokEnd_le r 0 (by omega)
  have hb := blkEnd_app r (59 :: z) _ hle (semi_blank z)
  have hble := blkEnd_le r _ hle
  cases he : elemI r 0 with
  | some p =>
    have hbd := elemI_bound r 0 p.1 p.2 (by omega) he
    by_cases hs : stopAt r p.2
    · rw [elemO_some r 0 p he hs] at h; simp at h
    · exact elemO_stop _ 0 p (elemI_app r z 0 (by omega) p he) (fun e => hs ((stopAt_app r z p.2 hbd.2.1).1 e))
  | none =>
    refine elemO_none _ 0 ?_
    by_cases h1 : 0 < tokEnd r 0
    · by_cases h2 : atN r (blkEnd r (tokEnd r 0)) = 61
      · rw [elemI_val r 0 h1 h2, Option.map_eq_none_iff] at he
        have hin := atN_in r _ (by omega : atN r (blkEnd r (tokEnd r 0)) ≠ 256)
        have hble2 := blkEnd_le r (blkEnd r (tokEnd r 0) + 1) (by omega)
        rw [elemI_val _ 0 (by rw [ht]; exact h1) (by rw [ht, hb]; exact (atN_app_ne r z _ 61 hble (by omega) (by omega)).2 h2), ht, hb, blkEnd_app r _ _ (by omega) (semi_blank z), valI_app_none r z _ hble2 (noSQ_at r hq _).2 he]
        rfl
      · rw [elemI_bare r 0 h1 h2] at he; simp at he
    · exact elemI_no _ 0 (by rw [ht]; exact h1)
theorem P_semi_err (z : Bs) : ∀ (r : Bs) (acc : List Dir), noSQ r = true → (P r acc).2 ≠ 0 → P (r ++ 59 :: z) acc = P r acc
  | [], acc, _, h => by rw [P_nil] at h; simp at h
  | b :: r, acc, hq, h => by
    have hc := (noSQ_cons b r).1 hq
    cases hb : isBlank b
    · rw [P_elem b r acc hb hc.1] at h ⊢
      rw [List.cons_append, P_elem b _ acc hb hc.1]
      by_cases h32 : acc.length = 32
      · rw [if_pos h32, if_pos h32]
      · rw [if_neg h32] at h ⊢
        rw [if_neg h32]
        cases he : elemO (b :: r) 0 with
        | none =>
          have e := elemO_app_none (b :: r) z hq he
          rw [List.cons_append] at e
          rw [e]
        | some p =>
          rw [he] at h
          have hend := elemO_end _ hq p he
          simp only [hend] at h
          rw [List.drop_eq_nil_of_le (Nat.le_refl _), P_nil] at h
          simp at h
    · rw [P_blank b r acc hb] at h ⊢
      rw [List.cons_append, P_blank b _ acc hb]
      exact P_semi_err z r acc hc.2.2 h
theorem P_part (r z : Bs) (acc : List Dir) (hq : noSQ r = true) : P (r ++ 59 :: z) acc = if (P r acc).2 = 0 then P z (P r acc).1 else P r acc := by
  by_cases h : (P r acc).2 = 0
  · rw [if_pos h]
    exact P_concat z r.length r acc _ (Nat.le_refl _) (by rw [← h])
  · rw [if_neg h]; exact P_semi_err z r acc hq h

/-! ### The blanks of the law -/
def padB (k : Nat) : Bs := if k = 0 then [] else if k = 1 then [32] else if k = 2 then [9, 32] else [32, 59, 32]
def wideB (x : Bs × Nat) : Bs := padB x.2 ++ x.1 ++ padB x.2
theorem length_wideB (x : Bs × Nat) : (wideB x).length ≤ x.1.length + 6 := by
  have : (padB x.2).length ≤ 3 := by unfold padB; split <;> (try split) <;> (try split) <;> simp
  unfold wideB; simp only [List.length_append]; omega
theorem pad_lead (k : Nat) : ∀ b ∈ padB k, isBlank b = true ∨ b = 59 := by
  unfold padB
  split <;> (try split) <;> (try split) <;> simp [isBlank]
theorem blank32 : blankB [32] := by unfold blankB; simp [isBlank]
theorem noSQ32 (r : Bs) (h : noSQ r = true) : noSQ (r ++ [32]) = true := by rw [noSQ_append, h]; rfl
theorem pad_end (r : Bs) (k : Nat) (acc : List Dir) (hq : noSQ r = true) : P (r ++ padB k) acc = P r acc := by
  unfold padB
  by_cases h0 : k = 0
  · rw [if_pos h0, List.append_nil]
  · rw [if_neg h0]
    by_cases h1 : k = 1
    · rw [if_pos h1]; exact P_tail _ blank32 r acc hq
    · rw [if_neg h1]
      by_cases h2 : k = 2
      · rw [if_pos h2]; exact P_tail _ (by unfold blankB; simp [isBlank]) r acc hq
      · rw [if_neg h2]
        have e : r ++ ([32, 59, 32] : Bs) = (r ++ [32]) ++ 59 :: [32] := by simp
        rw [e, P_part _ _ _ (noSQ32 r hq), P_tail _ blank32 r acc hq, P_blanks_end _ blank32]
        split
        · rename_i h; rw [← h]
        · rfl
theorem pad_semi (r z : Bs) (k : Nat) (acc : List Dir) (hq : noSQ r = true) : P (r ++ padB k ++ 59 :: z) acc = P (r ++ 59 :: z) acc := by
  rw [P_part r z acc hq]
  unfold padB
  by_cases h0 : k = 0
  · rw [if_pos h0, List.append_nil, P_part r z acc hq]
  · rw [if_neg h0]
    by_cases h1 : k = 1
    · rw [if_pos h1, P_part _ z acc (noSQ32 r hq), P_tail _ blank32 r acc hq]
    · rw [if_neg h1]
      by_cases h2 : k = 2
      · rw [if_pos h2, P_part _ z acc (by rw [noSQ_append, hq]; rfl), P_tail _ (by unfold blankB; simp [isBlank]) r acc hq]
      · rw [if_neg h2]
        have e : r ++ ([32, 59, 32] : Bs) ++ 59 :: z = (r ++ [32]) ++ 59 :: (32 :: 59 :: z) := by simp
        rw [e, P_part _ _ _ (noSQ32 r hq), P_tail _ blank32 r acc hq, P_blank 32 _ _ (by simp [isBlank]), P_semi]
/-- Texts joined by semicolons. -/
def joinC : List Bs → Bs
  | [] => []
  | t :: r => if r.isEmpty then t else t ++ (59 :: joinC r)
theorem joinC_snoc : ∀ (ws : List Bs) (x : Bs), joinC (ws ++ [x]) = joinC ws ++ ((if ws.isEmpty then [] else [59]) ++ x)
  | [], x => by simp [joinC]
  | [t], x => by simp [joinC]
  | t :: u :: r, x => by
    have ih := joinC_snoc (u :: r) x
    have e1 : joinC (t :: u :: r ++ [x]) = t ++ (59 :: joinC (u :: r ++ [x])) := rfl
    have e2 : joinC (t :: u :: r) = t ++ (59 :: joinC (u :: r)) := rfl
    rw [e1, e2, ih]
    simp
theorem P_wide : ∀ (ps : List (Bs × Nat)) (acc : List Dir), (∀ x ∈ ps, noSQ x.1 = true) → P (joinC (ps.map wideB)) acc = P (joinC (ps.map Prod.fst)) acc
  | [], _, _ => rfl
  | [x], acc, h => by
    show P (wideB x) acc = P x.1 acc
    unfold wideB
    rw [List.append_assoc, P_blanks _ (pad_lead _), pad_end _ _ _ (h x (by simp))]
  | x :: y :: r, acc, h => by
    have hx := h x (by simp)
    have ih := fun a => P_wide (y :: r) a (fun z hz => h z (by simp [hz]))
    have e1 : joinC ((x :: y :: r).map wideB) = padB x.2 ++ (x.1 ++ padB x.2 ++ 59 :: joinC ((y :: r).map wideB)) := by
      show wideB x ++ (59 :: joinC ((y :: r).map wideB)) = _
      unfold wideB; simp
    have e2 : joinC ((x :: y :: r).map Prod.fst) = x.1 ++ 59 :: joinC ((y :: r).map Prod.fst) := rfl
    rw [e1, e2, P_blanks _ (pad_lead _), pad_semi _ _ _ _ hx, P_part _ _ _ hx, P_part _ _ _ hx]
    split
    · exact ih _
    · rfl
theorem parseD_wide (ps : List (Bs × Nat)) (h : ∀ x ∈ ps, noSQ x.1 = true) (h1 : (joinC (ps.map Prod.fst)).length ≤ 4096) (h2 : (joinC (ps.map wideB)).length ≤ 4096) : parseD (joinC (ps.map wideB)) = parseD (joinC (ps.map Prod.fst)) := by
  rw [parseD_short _ (by omega), parseD_short _ (by omega)]
  exact P_wide ps [] h
/-- What the law's loop has joined. -/
def BlkTo (A B : Bs) (n : Nat) : Prop := ∃ pre : List (Bs × Nat), pre.length = n ∧ A = joinC (pre.map Prod.fst) ∧ B = joinC (pre.map wideB) ∧ ∀ x ∈ pre, noSQ x.1 = true
theorem BlkTo.start : BlkTo [] [] 0 := ⟨[], rfl, rfl, rfl, fun x hx => by cases hx⟩
theorem BlkTo.snoc {A B : Bs} {n : Nat} (h : BlkTo A B n) (x : Bs) (k : Nat) (hx : noSQ x = true) : BlkTo (A ++ ((if n = 0 then [] else [59]) ++ x)) (B ++ ((if n = 0 then [] else [59]) ++ (padB k ++ x ++ padB k))) (n + 1) := by
  obtain ⟨pre, hl, rfl, rfl, hp⟩ := h
  refine ⟨pre ++ [(x, k)], by simp [hl], ?_, ?_, fun y hy => ?_⟩
  · rw [List.map_append, List.map_singleton, joinC_snoc]
    cases pre with
    | nil => simp at hl; subst hl; simp
    | cons a r => have : n ≠ 0 := by simp at hl; omega
                  simp [this]
  · rw [List.map_append, List.map_singleton, joinC_snoc]
    cases pre with
    | nil => simp at hl; subst hl; simp [wideB]
    | cons a r => have : n ≠ 0 := by simp at hl; omega
                  simp [this, wideB]
  · rcases List.mem_append.1 hy with h | h
    · exact hp y h
    · simp only [List.mem_singleton] at h; subst h; exact hx
theorem BlkTo.fin {A B : Bs} {n : Nat} (h : BlkTo A B n) (h1 : A.length ≤ 4096) (h2 : B.length ≤ 4096) : parseD B = parseD A := by
  obtain ⟨pre, hl, rfl, rfl, hp⟩ := h
  exact parseD_wide pre hp h1 h2
theorem noSQ_drop (x : Bs) (k : Nat) (h : k < x.length) : noSQ (x.drop k) = (decide (x[k].toNat ≠ 59) && decide (x[k].toNat ≠ 34) && noSQ (x.drop (k + 1))) := by
  rw [List.drop_eq_getElem_cons h]; rfl
end Hs
