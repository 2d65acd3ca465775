/- Plain laws on Words and Trim: the words of joined words; trimming twice. No program in sight. Conditions: none.
   Plain functions of the layer csp: the names of the directives of a value; what several values say. No program in sight. Conditions: none.
   The iterator that strings.SplitSeq makes of a string and a byte: it keeps its state in a cell. Conditions: the string's length is bounded. -/
import Derived.Test.YtjbciamhhfcdoaaGreatDoorSub01
import Derived.Test.YtjbciamhhfcdoaaGreatDoorSub05
import Derived.Lib.Bytealg
import Derived.Test.YtjbciamhhfcdoaaGreatDoorSub33
import Derived.Test.YtjbciamhhfcdoaaGreatDoorSub12
import Derived.Shelf.Abstract
import Derived.Shelf.RegionOpen
import Derived.WalkKit
import Derived.OwnWalkIn
import Derived.TacticsInMore
import Derived.LoopNIn
import Derived.LoopIn
namespace Hs

/-! ### Words -/
theorem wordsAux_mem : ∀ (l cur : Bs), (∀ b ∈ cur, isSpace b = false) → ∀ t ∈ wordsAux cur l, t ≠ [] ∧ (∀ b ∈ t, isSpace b = false) ∧ t.length ≤ cur.length + l.length
  | [], cur, hc, t, ht => by
    unfold wordsAux at ht
    split at ht
    · simp at ht
    · rename_i h
      simp only [List.mem_singleton] at ht
      subst ht
      exact ⟨by simpa using h, hc, by simp⟩
  | b :: r, cur, hc, t, ht => by
    unfold wordsAux at ht
    have hnil : ∀ x ∈ ([] : Bs), isSpace x = false := fun x hx => by cases hx
    split at ht
    · rename_i hb
      split at ht
      · have := wordsAux_mem r [] hnil t ht
        exact ⟨this.1, this.2.1, by have := this.2.2; simp only [List.length_nil, List.length_cons] at *; omega⟩
      · rename_i h
        rcases List.mem_cons.1 ht with rfl | h2
        · exact ⟨by simpa using h, hc, by simp⟩
        · have := wordsAux_mem r [] hnil t h2
          exact ⟨this.1, this.2.1, by have := this.2.2; simp only [List.length_nil, List.length_cons] at *; omega⟩
    · rename_i hb
      have := wordsAux_mem r (cur ++ [b]) (fun x hx => by
        rcases List.mem_append.1 hx with h | h
        · exact hc x h
        · simp only [List.mem_singleton] at h; subst h; simpa using hb) t ht
      exact ⟨this.1, this.2.1, by have := this.2.2; simp only [List.length_append, List.length_cons, List.length_nil] at *; omega⟩
theorem words_mem (l : Bs) (t : Bs) (ht : t ∈ words l) : t ≠ [] ∧ (∀ b ∈ t, isSpace b = false) ∧ t.length ≤ l.length := by
  have := wordsAux_mem l [] (fun b hb => by cases hb) t ht
  simpa using this

/-- Words joined by single spaces. -/
def joinL : List Bs → Bs
  | [] => []
  | t :: r => if r.isEmpty then t else t ++ 32 :: joinL r
theorem joinL_snoc : ∀ (ws : List Bs) (x : Bs), joinL (ws ++ [x]) = joinL ws ++ ((if ws.isEmpty then [] else [32]) ++ x)
  | [], x => by simp [joinL]
  | [t], x => by simp [joinL]
  | t :: u :: r, x => by
    have ih := joinL_snoc (u :: r) x
    have e1 : joinL (t :: u :: r ++ [x]) = t ++ 32 :: joinL (u :: r ++ [x]) := rfl
    have e2 : joinL (t :: u :: r) = t ++ 32 :: joinL (u :: r) := rfl
    rw [e1, e2, ih]
    simp
theorem length_joinL (m : Nat) : ∀ (ws : List Bs), (∀ t ∈ ws, t.length ≤ m) → (joinL ws).length ≤ ws.length * (m + 1)
  | [], _ => by simp [joinL]
  | t :: r, h => by
    have h1 := h t (by simp)
    have ih := length_joinL m r (fun u hu => h u (by simp [hu]))
    unfold joinL
    split
    · simp only [List.length_cons, Nat.add_mul]; omega
    · simp only [List.length_append, List.length_cons, Nat.add_mul]; omega

theorem wordsAux_run : ∀ (t cur r : Bs), (∀ b ∈ t, isSpace b = false) → wordsAux cur (t ++ r) = wordsAux (cur ++ t) r
  | [], cur, r, _ => by simp
  | b :: t, cur, r, h => by
    have hb := h b (by simp)
    simp only [List.cons_append]
    rw [wordsAux, if_neg (by simp [hb]), wordsAux_run t (cur ++ [b]) r (fun x hx => h x (by simp [hx]))]
    simp
theorem words_joinL : ∀ (ws : List Bs), (∀ t ∈ ws, t ≠ [] ∧ ∀ b ∈ t, isSpace b = false) → words (joinL ws) = ws
  | [], _ => by simp [joinL, words, wordsAux]
  | t :: r, h => by
    have ht := h t (by simp)
    have ih := words_joinL r (fun u hu => h u (by simp [hu]))
    have hne : t.isEmpty = false := by simpa using ht.1
    unfold joinL
    by_cases hr : r.isEmpty
    · rw [if_pos hr]
      have hr' : r = [] := by simpa using hr
      subst hr'
      have := wordsAux_run t [] [] ht.2
      rw [List.append_nil] at this
      unfold words
      rw [this]
      simp [wordsAux, ht.1]
    · rw [if_neg hr]
      unfold words
      rw [wordsAux_run t [] _ ht.2, List.nil_append, wordsAux, if_pos (by decide), hne]
      simp only [Bool.false_eq_true, if_false]
      unfold words at ih
      rw [ih]

/-! ### Trim -/
theorem trimL_head : ∀ (l : Bs) (b : UInt8) (r : Bs), trimL l = b :: r → isBlank b = false
  | [], b, r, h => by simp [trimL] at h
  | x :: l, b, r, h => by
    unfold trimL at h
    split at h
    · exact trimL_head l b r h
    · rename_i hx
      injection h with h1 h2
      subst h1
      simpa using hx
theorem trimL_cons (b : UInt8) (r : Bs) (h : isBlank b = false) : trimL (b :: r) = b :: r := by simp [trimL, h]
theorem trimL_idem (l : Bs) : trimL (trimL l) = trimL l := by
  cases h : trimL l with
  | nil => rfl
  | cons b r => exact trimL_cons b r (trimL_head l b r h)
theorem trimR_idem (l : Bs) : trimR (trimR l) = trimR l := by simp [trimR, trimL_idem]
theorem trimL_snoc_not : ∀ (l : Bs) (b : UInt8), isBlank b = false → trimL (l ++ [b]) = trimL l ++ [b]
  | [], b, h => by simp [trimL, h]
  | x :: l, b, h => by
    simp only [List.cons_append, trimL]
    split
    · exact trimL_snoc_not l b h
    · simp
theorem trimR_cons_not (b : UInt8) (r : Bs) (h : isBlank b = false) : trimR (b :: r) = b :: trimR r := by
  unfold trimR
  rw [List.reverse_cons, trimL_snoc_not _ _ h]
  simp
theorem trim_idem (l : Bs) : trim (trim l) = trim l := by
  unfold trim
  cases h : trimL l with
  | nil => rfl
  | cons b r =>
    have hb := trimL_head l b r h
    rw [trimR_cons_not b r hb, trimL_cons b _ hb, trimR_cons_not b _ hb, trimR_idem]
theorem trimL_append : ∀ (l r : Bs), trimL (l ++ r) = if trimL l = [] then trimL r else trimL l ++ r
  | [], r => by simp [trimL]
  | x :: l, r => by
    simp only [List.cons_append, trimL]
    split
    · exact trimL_append l r
    · simp
theorem trim_pad (l : Bs) : trim (([32] ++ l) ++ [9]) = trim l := by
  unfold trim
  have e : trimL (([32] ++ l) ++ [9]) = trimL (l ++ [9]) := by simp [trimL, isBlank]
  rw [e, trimL_append]
  split
  · rename_i h; rw [h]; decide
  · rw [trimR_snoc, if_pos (by decide)]
theorem length_trimL : ∀ (l : Bs), (trimL l).length ≤ l.length
  | [] => by simp [trimL]
  | b :: r => by
    have := length_trimL r
    unfold trimL
    split <;> simp only [List.length_cons] <;> omega
theorem length_trim (l : Bs) : (trim l).length ≤ l.length := by
  have h1 := length_trimL l
  have h2 := length_trimL (trimL l).reverse
  have e : (trim l).length = (trimL (trimL l).reverse).length := by unfold trim trimR; rw [List.length_reverse]
  rw [List.length_reverse] at h2
  omega
end Hs
namespace Hs
open Go
set_option linter.unusedVariables false

theorem cut_at (l : Bs) (c : UInt8) : (∃ a r, l = a ++ c :: r ∧ c ∉ a) ∨ c ∉ l := by
  by_cases h : c ∈ l
  · exact .inl (by
      induction l with
      | nil => cases h
      | cons b l ih =>
        by_cases hb : b = c
        · exact ⟨[], l, by rw [hb]; rfl, by simp⟩
        · rcases List.mem_cons.1 h with e | h
          · exact absurd e.symm hb
          · obtain ⟨a, r, e, hn⟩ := ih h
            exact ⟨b :: a, r, by rw [e]; rfl, by simp only [List.mem_cons, not_or]; exact ⟨fun e => hb e.symm, hn⟩⟩)
  · exact .inr h
theorem indexByte_cut (a r : Bs) (c : UInt8) (h : c ∉ a) : Lib.indexByte (a ++ c :: r) c = (a.length : Int) := by
  induction a with
  | nil => simp [Lib.indexByte]
  | cons b a ih =>
    simp only [List.mem_cons, not_or] at h
    have hb : (b == c) = false := beq_eq_false_iff_ne.2 (fun e => h.1 e.symm)
    have := ih h.2
    rw [List.cons_append, Lib.indexByte, hb, this]
    simp
theorem indexByte_not (l : Bs) (c : UInt8) (h : c ∉ l) : Lib.indexByte l c = -1 := by
  induction l with
  | nil => simp [Lib.indexByte]
  | cons b l ih =>
    simp only [List.mem_cons, not_or] at h
    have hb : (b == c) = false := beq_eq_false_iff_ne.2 (fun e => h.1 e.symm)
    have := ih h.2
    rw [Lib.indexByte, hb, this]
    simp
/-- The name of a directive. -/
def headN (d : Bs) : List Bs := match words d with | [] => [] | w :: _ => [lower w]
/-- The names of the directives of a policy; of a value. -/
def headsP (p : Bs) : List Bs := (splitD 59 p).flatMap headN
def headsV (v : Bs) : List Bs := (splitD 44 v).flatMap headsP
theorem heads_prefix (v : Bs) (pre post : List Bs) (p : Bs) (pre2 post2 : List Bs) (d n : Bs) (h1 : pre ++ [p] ++ post = splitD 44 v) (h2 : pre2 ++ [d] ++ post2 = splitD 59 p) (h3 : headN d = [n]) : (pre.flatMap headsP ++ pre2.flatMap headN) ++ [n] <+: headsV v := by
  refine ⟨post2.flatMap headN ++ post.flatMap headsP, ?_⟩
  unfold headsV
  rw [← h1]
  simp only [List.flatMap_append, List.flatMap_cons, List.flatMap_nil, List.append_nil]
  have e : headsP p = pre2.flatMap headN ++ ([n] ++ post2.flatMap headN) := by
    unfold headsP
    rw [← h2]
    simp [h3]
  rw [e]
  simp
/-- A name behind those that are known. -/
def addN (acc : List Bs) (n : Bs) : List Bs := if n ∈ acc then acc else acc ++ [n]
def uniqN (acc ns : List Bs) : List Bs := ns.foldl addN acc
theorem uniqN_nil (acc : List Bs) : uniqN acc [] = acc := rfl
theorem uniqN_snoc (acc ns : List Bs) (n : Bs) : uniqN acc (ns ++ [n]) = addN (uniqN acc ns) n := by simp [uniqN]
theorem uniqN_append (acc a b : List Bs) : uniqN acc (a ++ b) = uniqN (uniqN acc a) b := by simp [uniqN]
theorem addN_yes (acc : List Bs) (n : Bs) (h : n ∈ acc) : addN acc n = acc := if_pos h
theorem addN_no (acc : List Bs) (n : Bs) (h : n ∉ acc) : addN acc n = acc ++ [n] := if_neg h
theorem addN_prefix (acc : List Bs) (n : Bs) : acc <+: addN acc n := by
  unfold addN; split
  · exact List.prefix_rfl
  · exact List.prefix_append _ _
theorem uniqN_prefix : ∀ (ns acc : List Bs), acc <+: uniqN acc ns
  | [], acc => List.prefix_rfl
  | n :: ns, acc => (addN_prefix acc n).trans (uniqN_prefix ns (addN acc n))
theorem length_addN (acc : List Bs) (n : Bs) : (addN acc n).length ≤ acc.length + 1 := by unfold addN; split <;> simp
theorem length_uniqN : ∀ (ns acc : List Bs), (uniqN acc ns).length ≤ acc.length + ns.length
  | [], acc => by simp [uniqN]
  | n :: ns, acc => by
    have h1 := length_uniqN ns (addN acc n)
    have h2 := length_addN acc n
    have e : uniqN acc (n :: ns) = uniqN (addN acc n) ns := rfl
    rw [e, List.length_cons]; omega
theorem mem_addN (acc : List Bs) (n x : Bs) : x ∈ addN acc n ↔ x ∈ acc ∨ x = n := by
  unfold addN; split
  · rename_i h
    constructor
    · exact .inl
    · rintro (h' | rfl)
      · exact h'
      · exact h
  · simp
theorem mem_uniqN : ∀ (ns acc : List Bs) (x : Bs), x ∈ uniqN acc ns ↔ x ∈ acc ∨ x ∈ ns
  | [], acc, x => by simp [uniqN]
  | n :: ns, acc, x => by
    have e : uniqN acc (n :: ns) = uniqN (addN acc n) ns := rfl
    rw [e, mem_uniqN ns, mem_addN, List.mem_cons]
    constructor
    · rintro ((h | h) | h)
      · exact .inl h
      · exact .inr (.inl h)
      · exact .inr (.inr h)
    · rintro (h | h | h)
      · exact .inl (.inl h)
      · exact .inl (.inr h)
      · exact .inr h
theorem nodup_addN (acc : List Bs) (n : Bs) (h : acc.Nodup) : (addN acc n).Nodup := by
  unfold addN; split
  · exact h
  · rename_i hn
    rw [List.nodup_append]
    exact ⟨h, by simp, fun a ha b hb e => by rw [List.mem_singleton.1 hb] at e; exact hn (e ▸ ha)⟩
theorem nodup_uniqN : ∀ (ns acc : List Bs), acc.Nodup → (uniqN acc ns).Nodup
  | [], acc, h => h
  | n :: ns, acc, h => nodup_uniqN ns _ (nodup_addN acc n h)

/-- The names of values, behind those that are known. -/
def mergeN : List Bs → List Bs → Option (List Bs)
  | [], acc => some acc
  | v :: r, acc => if 4096 < v.length then none else mergeN r (uniqN acc (headsV v))
theorem mergeN_nil (acc : List Bs) : mergeN [] acc = some acc := rfl
theorem mergeN_long (v : Bs) (r acc : List Bs) (h : 4096 < v.length) : mergeN (v :: r) acc = none := if_pos h
theorem mergeN_short (v : Bs) (r acc : List Bs) (h : ¬ 4096 < v.length) : mergeN (v :: r) acc = mergeN r (uniqN acc (headsV v)) := if_neg h
theorem mergeN_append : ∀ (a b acc : List Bs), mergeN (a ++ b) acc = (mergeN a acc).bind fun x => mergeN b x
  | [], b, acc => rfl
  | v :: a, b, acc => by
    by_cases h : 4096 < v.length
    · rw [List.cons_append, mergeN_long _ _ _ h, mergeN_long _ _ _ h]; rfl
    · rw [List.cons_append, mergeN_short _ _ _ h, mergeN_short _ _ _ h, mergeN_append a b]
theorem mergeN_all : ∀ (vs acc : List Bs), (∀ v ∈ vs, v.length ≤ 4096) → mergeN vs acc = some (uniqN acc (vs.flatMap headsV))
  | [], acc, _ => rfl
  | v :: r, acc, h => by
    rw [mergeN_short _ _ _ (by have := h v (by simp); omega), mergeN_all r _ (fun x hx => h x (by simp [hx])), List.flatMap_cons, uniqN_append]
theorem mergeN_prefix : ∀ (vs acc x : List Bs), mergeN vs acc = some x → acc <+: x
  | [], acc, x, h => by rw [mergeN_nil] at h; cases h; exact List.prefix_rfl
  | v :: r, acc, x, h => by
    by_cases hv : 4096 < v.length
    · rw [mergeN_long _ _ _ hv] at h; cases h
    · rw [mergeN_short _ _ _ hv] at h
      exact (uniqN_prefix _ _).trans (mergeN_prefix r _ x h)

/-! ### The number of the names -/
theorem length_headN (d : Bs) : (headN d).length ≤ 1 := by unfold headN; split <;> simp
theorem length_flatMap_le {α β : Type} (f : α → List β) (m : Nat) : ∀ l : List α, (∀ x ∈ l, (f x).length ≤ m) → (l.flatMap f).length ≤ l.length * m
  | [], _ => by simp
  | x :: l, h => by
    have h1 := length_flatMap_le f m l (fun y hy => h y (by simp [hy]))
    have h2 := h x (by simp)
    rw [List.flatMap_cons, List.length_append, List.length_cons, Nat.add_mul, Nat.one_mul]; omega
theorem length_splitD (c : UInt8) : ∀ l : Bs, (splitD c l).length ≤ l.length + 1
  | [] => by simp [splitD]
  | b :: r => by
    have ih := length_splitD c r
    unfold splitD
    split
    · simp only [List.length_cons]; omega
    · split
      · rename_i h t e
        rw [e] at ih
        simp only [List.length_cons] at ih ⊢; omega
      · simp
theorem length_headsP (p : Bs) : (headsP p).length ≤ p.length + 1 := by
  have h1 := length_flatMap_le headN 1 (splitD 59 p) (fun x _ => length_headN x)
  have h2 := length_splitD 59 p
  unfold headsP; omega
theorem length_headsV (v : Bs) (h : v.length ≤ 4500) : (headsV v).length ≤ 4501 * 4501 := by
  have h1 := length_flatMap_le headsP 4501 (splitD 44 v) (fun x hx => by have := length_headsP x; have := splitD_len 44 v x hx; omega)
  have h2 := length_splitD 44 v
  exact Nat.le_trans h1 (Nat.mul_le_mul_right _ (by omega))

/-! ### A value that is joined by commas -/
theorem splitD_join (c : UInt8) : ∀ (a b : Bs), splitD c (a ++ c :: b) = splitD c a ++ splitD c b
  | [], b => by simp [splitD]
  | x :: a, b => by
    have ih := splitD_join c a b
    by_cases hx : x = c
    · rw [List.cons_append, splitD, if_pos hx, splitD, if_pos hx, ih]; rfl
    · rw [List.cons_append, splitD, if_neg hx, splitD, if_neg hx, ih]
      cases h : splitD c a with
      | nil => exact absurd h (splitD_ne c a)
      | cons y t => rfl
theorem headsV_join (a b : Bs) : headsV (a ++ 44 :: b) = headsV a ++ headsV b := by
  unfold headsV; rw [splitD_join, List.flatMap_append]
theorem headsV_nil : headsV [] = [] := by simp [headsV, headsP, splitD, headN, words, wordsAux]
/-- The values, joined by commas. -/
def commaJ : List Bs → Bs
  | [] => []
  | [v] => v
  | v :: r => v ++ 44 :: commaJ r
theorem headsV_commaJ : ∀ vs : List Bs, headsV (commaJ vs) = vs.flatMap headsV
  | [] => headsV_nil
  | [v] => by simp [commaJ]
  | v :: u :: r => by
    have ih := headsV_commaJ (u :: r)
    have e : commaJ (v :: u :: r) = v ++ 44 :: commaJ (u :: r) := rfl
    rw [e, headsV_join, ih]; simp [List.flatMap_cons]
theorem commaJ_snoc : ∀ (vs : List Bs) (v : Bs), commaJ (vs ++ [v]) = commaJ vs ++ ((if vs.length = 0 then [] else [44]) ++ v)
  | [], v => by simp [commaJ]
  | [u], v => by simp [commaJ]
  | u :: x :: r, v => by
    have ih := commaJ_snoc (x :: r) v
    have e : commaJ (u :: x :: r) = u ++ 44 :: commaJ (x :: r) := rfl
    have e2 : commaJ ((u :: x :: r) ++ [v]) = u ++ 44 :: commaJ ((x :: r) ++ [v]) := rfl
    rw [e, e2, ih]; simp
theorem commaJ_len : ∀ (vs : List Bs), ∀ v ∈ vs, v.length ≤ (commaJ vs).length
  | [], v, h => by cases h
  | [u], v, h => by rw [List.mem_singleton.1 h]; exact Nat.le_refl _
  | u :: x :: r, v, h => by
    have e : commaJ (u :: x :: r) = u ++ 44 :: commaJ (x :: r) := rfl
    rw [e, List.length_append, List.length_cons]
    rcases List.mem_cons.1 h with rfl | h
    · omega
    · have := commaJ_len (x :: r) v h; omega
theorem length_commaJ (m : Nat) : ∀ vs : List Bs, (∀ v ∈ vs, v.length ≤ m) → (commaJ vs).length ≤ vs.length * (m + 1)
  | [], _ => by simp [commaJ]
  | [u], h => by have := h u (by simp); simp [commaJ]; omega
  | u :: x :: r, h => by
    have ih := length_commaJ m (x :: r) (fun v hv => h v (by simp only [List.mem_cons] at hv ⊢; exact .inr hv))
    have h2 := h u (by simp)
    have e : commaJ (u :: x :: r) = u ++ 44 :: commaJ (x :: r) := rfl
    rw [e, List.length_append, List.length_cons, List.length_cons, Nat.add_mul, Nat.one_mul]
    omega
/-! ### The names are in lower case and not empty -/
theorem headN_lower (d n : Bs) (h : n ∈ headN d) : lower n = n ∧ n ≠ [] := by
  unfold headN at h
  split at h
  · cases h
  · rename_i w r e
    rw [List.mem_singleton.1 h]
    refine ⟨lower_idem w, fun e2 => ?_⟩
    have hw : w ≠ [] := (words_mem d w (by rw [e]; simp)).1
    exact hw (List.eq_nil_of_length_eq_zero (by rw [← length_lower w, e2]; rfl))
theorem headsV_lower (v n : Bs) (h : n ∈ headsV v) : lower n = n ∧ n ≠ [] := by
  unfold headsV headsP at h
  obtain ⟨p, _, h⟩ := List.mem_flatMap.1 h
  obtain ⟨d, _, h⟩ := List.mem_flatMap.1 h
  exact headN_lower d n h
theorem headN_len (d n : Bs) (h : n ∈ headN d) : n.length ≤ d.length := by
  unfold headN at h
  split at h
  · cases h
  · rename_i w r e
    rw [List.mem_singleton.1 h, length_lower]
    exact (words_mem d w (by rw [e]; simp)).2.2
theorem headsV_len (v n : Bs) (h : n ∈ headsV v) : n.length ≤ v.length := by
  unfold headsV headsP at h
  obtain ⟨p, hp, h⟩ := List.mem_flatMap.1 h
  obtain ⟨d, hd, h⟩ := List.mem_flatMap.1 h
  have h1 := headN_len d n h
  have h2 := splitD_len 59 p d hd
  have h3 := splitD_len 44 v p hp
  omega
end Hs
namespace Go.Proofs.YtjbciamhhfcdoaaGreatDoor
open Go.RowKit Go.Shelf Hs
set_option linter.unusedSimpArgs false
set_option linter.unusedVariables false

attribute [local go_sem] Oper.semAt_some

/-- The worlds behind the making of the iterator. -/
abbrev splitW (w : World) (s : ByteArray) (c : UInt8) : World := ((w.alloc (.cells #[.string s] 9)).alloc (.cells #[.string ⟨#[c]⟩] 9)).alloc (.cells #[.int .i64 0] 3)
theorem f_splitSeq0 (s : ByteArray) (c : UInt8) (w : World) : Calls Tryz.prog 126 #[.string s, .string ⟨#[c]⟩, .int .i64 0] w fun e w' => e = .returned (.func (.func 180) #[] #[.pointer (some ⟨w.heap.size + 1, 0, none⟩), .pointer (some ⟨w.heap.size, 0, none⟩), .pointer (some ⟨w.heap.size + 2, 0, none⟩)]) ∧ w' = splitW w s c := by
  go_enter Tryz.func126, Tryz.ntmps126
  go_wp2
  go_ret
  exact ⟨rfl, rfl⟩
theorem f_splitSeq (s : ByteArray) (c : UInt8) (w : World) : Calls Tryz.prog 81 #[.string s, .string ⟨#[c]⟩] w fun e w' => e = .returned (.func (.func 180) #[] #[.pointer (some ⟨w.heap.size + 1, 0, none⟩), .pointer (some ⟨w.heap.size, 0, none⟩), .pointer (some ⟨w.heap.size + 2, 0, none⟩)]) ∧ w' = splitW w s c := by
  go_enter Tryz.func81, Tryz.ntmps81
  go_wp2_with fail
  refine (f_splitSeq0 s c _).mono ?_; rintro e w' ⟨rfl, rfl⟩
  go_wp2_with fail
  go_ret
  exact ⟨rfl, rfl⟩
theorem splitW_size (w : World) (s : ByteArray) (c : UInt8) : (splitW w s c).heap.size = w.heap.size + 3 := by simp [splitW]
theorem splitW_below (w : World) (s : ByteArray) (c : UInt8) : Below w.heap.size w (splitW w s c) := (((Below.refl _ w).alloc (Nat.le_refl _) _).alloc (by simp) _).alloc (by simp; omega) _
theorem splitW_t (w : World) (s : ByteArray) (c : UInt8) : Boxed (splitW w s c) w.heap.size 9 (.string s) := ((Boxed.new w _ _).alloc _).alloc _
theorem splitW_s (w : World) (s : ByteArray) (c : UInt8) : Boxed (splitW w s c) (w.heap.size + 1) 9 (.string ⟨#[c]⟩) := by
  have := (Boxed.new (w.alloc (.cells #[.string s] 9)) 9 (.string ⟨#[c]⟩)).alloc (.cells #[.int .i64 0] 3)
  rwa [World.size_alloc] at this
theorem splitW_z (w : World) (s : ByteArray) (c : UInt8) : Boxed (splitW w s c) (w.heap.size + 2) 3 (.int .i64 0) := by
  have := Boxed.new ((w.alloc (.cells #[.string s] 9)).alloc (.cells #[.string ⟨#[c]⟩] 9)) 3 (.int .i64 0)
  simp only [World.size_alloc] at this
  exact this

/-- The length of the string in a cell, for a loop's measure. -/
def cellLen (c : Nat) (w : World) : Nat := match w.cell? ⟨c, 0, none⟩ with | some v => strLen v | none => 0
theorem cellLen_eq {c : Nat} {w : World} {t : TypeId} {s : ByteArray} (h : Boxed w c t (.string s)) : cellLen c w = s.size := by unfold cellLen; rw [h.cell]; rfl

set_option maxRecDepth 100000 in
set_option maxHeartbeats 2000000 in
theorem split_seq (n cs ct cz n₀ : Nat) (c : UInt8) (s : ByteArray) (w : World) (hn : 1 ≤ n) (bs : Boxed w cs 9 (.string ⟨#[c]⟩)) (bt : Boxed w ct 9 (.string s)) (bz : Boxed w cz 3 (.int .i64 0)) (hst : cs ≠ ct) (hzt : cz ≠ ct) (hs : s.size ≤ 1000000) :
    Seq Fence.wide n Tryz.prog 180 #[.pointer (some ⟨cs, 0, none⟩), .pointer (some ⟨ct, 0, none⟩), .pointer (some ⟨cz, 0, none⟩)] (fun x : Bs => #[.string (mk x)]) (fun k => k = cs ∨ k = ct ∨ k = cz) n₀ (fun xs => xs = splitD c (un s)) (fun pre => pre <+: splitD c (un s)) w := fun l J Jx W hW hJ hJx hY h0 => by
  have hsp := World.size_alloc
  have Bs0 : Boxed W cs 9 (.string ⟨#[c]⟩) := (hW.block cs bs.lt).trans bs
  have Bt0 : Boxed W ct 9 (.string s) := (hW.block ct bt.lt).trans bt
  have Bz0 : Boxed W cz 3 (.int .i64 0) := (hW.block cz bz.lt).trans bz
  have es0 := Bs0.cell
  have hsz1 : (⟨#[c]⟩ : ByteArray).size = 1 := rfl
  refine callsIn_of_wp Tryz.func180 rfl trivial ?_ rfl
  simp only [Tryz.ntmps180, List.size_toArray, List.length_cons, List.length_nil, Nat.reduceAdd, Nat.reduceSub, Array.replicate_succ, Array.replicate_zero, List.push_toArray, List.append_toArray, List.nil_append, List.cons_append]
  gi_wp2
  gi_loopw [] (fun wr => ∃ (pre : List Bs) (t : ByteArray) (G : Nat → Prop), Hid (pre ++ splitD c (un t) = splitD c (un s)) ∧ t.size ≤ s.size ∧ Boxed wr cs 9 (.string ⟨#[c]⟩) ∧ Boxed wr ct 9 (.string t) ∧ Boxed wr cz 3 (.int .i64 0) ∧ J pre G wr ∧ G cs ∧ G ct ∧ G cz) (fun wr => cellLen ct wr)
  case atStart =>
    exact ⟨[], s, _, rfl, Nat.le_refl _, Bs0, Bt0, Bz0, h0, .inl rfl, .inr (.inl rfl), .inr (.inr rfl)⟩
  case round =>
    obtain ⟨pre, t, G, hpre, hts, hbs, hbt, hbz, hJs, hGs, hGt, hGz⟩ := hrel
    have ec := hbs.cell
    have et := hbt.cell
    have ez := hbz.cell
    have hmeas := cellLen_eq hbt
    have hix := fun W => Tryz.strings_Index_one t c W
    rw [show t.data.toList = un t from rfl] at hix
    rcases cut_at (un t) c with ⟨a, r, e, hna⟩ | hno
    · rw [e, indexByte_cut a r c hna] at hix
      have HIX := Lib.hid hix
      have hal : a.length + 1 + r.length = t.size := by have := congrArg List.length e; rw [length_un] at this; simp at this; omega
      have hex1 : t.extract 0 a.length = mk a := by rw [extract_seg, e]; congr 1; simp [seg]
      have hex2 : t.extract (a.length + 1) t.size = mk r := by rw [extract_seg, ← length_un, seg_full, e]; congr 1; simp
      have hnext : Hid ((pre ++ [a]) ++ splitD c r = splitD c (un s)) := by rw [← hpre.out, e, splitD_at c r a (fun x hx e => hna (e ▸ hx))]; simp [Hid]
      obtain ⟨fn, tmps, assign, body, hy, hR⟩ := hY pre a G wr hJs ⟨_, hnext.out⟩
      clear hix hpre e hna
      gi_wp2
      refine ⟨trivial, ?_⟩; refine (callsIn_wide.2 (HIX.out _)).mono ?_; rintro e w' ⟨rfl, rfl⟩
      gi_wp2
      refine hR.mono ?_
      rintro e W3 (⟨rfl, hJ3, hk3⟩ | ⟨rfl, hJx3, hk3⟩)
      · have b3s : Boxed W3 cs 9 (.string ⟨#[c]⟩) := (hk3.block cs hbs.lt (.inl hGs)).trans hbs
        have b3t : Boxed W3 ct 9 (.string t) := (hk3.block ct hbt.lt (.inl hGt)).trans hbt
        have b3z : Boxed W3 cz 3 (.int .i64 0) := (hk3.block cz hbz.lt (.inl hGz)).trans hbz
        have e3s := b3s.cell
        have e3t := b3t.cell
        have f3t := b3t.frozen
        gi_wp2
        go_roundw
        case rel => exact ⟨_, mk r, G, by rw [un_mk]; exact hnext, by rw [size_mk]; omega, b3s.other hst _, b3t.set _, b3z.other hzt _, hJ.turn _ _ _ _ _ hJ3 (grown_setCell _ ct 0 _) (fun r e => by cases e; exact hGt), hGs, hGt, hGz⟩
        case measure => rw [cellLen_eq (b3t.set _), hmeas, size_mk]; omega
      · gi_wp2
        refine bodyPost_ret (results_none rfl _ _ _) rfl ?_
        exact ⟨⟨_, rfl⟩, .inr ⟨_, G, ⟨_, hnext.out⟩, hJx3⟩⟩
    · rw [indexByte_not _ _ hno] at hix
      have HIX := Lib.hid hix
      have hnext : Hid (pre ++ [un t] = splitD c (un s)) := by rw [← hpre.out, splitD_none c _ (fun x hx e => hno (e ▸ hx))]; rfl
      obtain ⟨fn, tmps, assign, body, hy, hR⟩ := hY pre (un t) G wr hJs ⟨[], by rw [List.append_nil]; exact hnext.out⟩
      rw [mk_un] at hy
      clear hix hpre hno
      gi_wp2
      refine ⟨trivial, ?_⟩; refine (callsIn_wide.2 (HIX.out _)).mono ?_; rintro e w' ⟨rfl, rfl⟩
      gi_wp2
      refine hR.mono ?_
      rintro e W3 (⟨rfl, hJ3, hk3⟩ | ⟨rfl, hJx3, hk3⟩)
      · gi_wp2
        go_end0
        exact ⟨⟨_, rfl⟩, .inl ⟨_, G, hnext.out, hJ3⟩⟩
      · gi_wp2
        go_end0
        exact ⟨⟨_, rfl⟩, .inr ⟨_, G, ⟨[], by rw [List.append_nil]; exact hnext.out⟩, hJx3⟩⟩
end Go.Proofs.YtjbciamhhfcdoaaGreatDoor
