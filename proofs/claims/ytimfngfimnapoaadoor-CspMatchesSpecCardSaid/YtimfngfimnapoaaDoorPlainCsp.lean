/- Plain functions of the layer csp: the names of the directives of a value; what several values say. No program in sight. Conditions: none. -/
import Derived.Test.YtimfngfimnapoaaDoorPlainSplit
import Derived.Test.YtimfngfimnapoaaDoorPlainJoin
import Derived.Lib.Bytealg
namespace Hs
open Go
set_option linter.unusedVariables false

theorem cut_at (l : Bs) (c : UInt8) : (∃ a r, l = a ++ c :: r ∧ c ∉ a) ∨ c ∉ l := by
  by_cases h : c ∈ l
  · exact .inl (by
      induction l with
      | nil => cases h
      | cons b l ih =>
        by_cases hb : b = c
        · exact ⟨[], l, by rw [hb]; rfl, by simp⟩
        · rcases List.mem_cons.1 h with e | h
          · exact absurd e.symm hb
          · obtain ⟨a, r, e, hn⟩ := ih h
            exact ⟨b :: a, r, by rw [e]; rfl, by simp only [List.mem_cons, not_or]; exact ⟨fun e => hb e.symm, hn⟩⟩)
  · exact .inr h
theorem indexByte_cut (a r : Bs) (c : UInt8) (h : c ∉ a) : Lib.indexByte (a ++ c :: r) c = (a.length : Int) := by
  induction a with
  | nil => simp [Lib.indexByte]
  | cons b a ih =>
    simp only [List.mem_cons, not_or] at h
    have hb : (b == c) = false := beq_eq_false_iff_ne.2 (fun e => h.1 e.symm)
    have := ih h.2
    rw [List.cons_append, Lib.indexByte, hb, this]
    simp
theorem indexByte_not (l : Bs) (c : UInt8) (h : c ∉ l) : Lib.indexByte l c = -1 := by
  induction l with
  | nil => simp [Lib.indexByte]
  | cons b l ih =>
    simp only [List.mem_cons, not_or] at h
    have hb : (b == c) = false := beq_eq_false_iff_ne.2 (fun e => h.1 e.symm)
    have := ih h.2
    rw [Lib.indexByte, hb, this]
    simp
/-- The name of a directive. -/
def headN (d : Bs) : List Bs := match words d with | [] => [] | w :: _ => [lower w]
/-- The names of the directives of a policy; of a value. -/
def headsP (p : Bs) : List Bs := (splitD 59 p).flatMap headN
def headsV (v : Bs) : List Bs := (splitD 44 v).flatMap headsP
theorem heads_prefix (v : Bs) (pre post : List Bs) (p : Bs) (pre2 post2 : List Bs) (d n : Bs) (h1 : pre ++ [p] ++ post = splitD 44 v) (h2 : pre2 ++ [d] ++ post2 = splitD 59 p) (h3 : headN d = [n]) : (pre.flatMap headsP ++ pre2.flatMap headN) ++ [n] <+: headsV v := by
  refine ⟨post2.flatMap headN ++ post.flatMap headsP, ?_⟩
  unfold headsV
  rw [← h1]
  simp only [List.flatMap_append, List.flatMap_cons, List.flatMap_nil, List.append_nil]
  have e : headsP p = pre2.flatMap headN ++ ([n] ++ post2.flatMap headN) := by
    unfold headsP
    rw [← h2]
    simp [h3]
  rw [e]
  simp
/-- A name behind those that are known. -/
def addN (acc : List Bs) (n : Bs) : List Bs := if n ∈ acc then acc else acc ++ [n]
def uniqN (acc ns : List Bs) : List Bs := ns.foldl addN acc
theorem uniqN_nil (acc : List Bs) : uniqN acc [] = acc := rfl
theorem uniqN_snoc (acc ns : List Bs) (n : Bs) : uniqN acc (ns ++ [n]) = addN (uniqN acc ns) n := by simp [uniqN]
theorem uniqN_append (acc a b : List Bs) : uniqN acc (a ++ b) = uniqN (uniqN acc a) b := by simp [uniqN]
theorem addN_yes (acc : List Bs) (n : Bs) (h : n ∈ acc) : addN acc n = acc := if_pos h
theorem addN_no (acc : List Bs) (n : Bs) (h : n ∉ acc) : addN acc n = acc ++ [n] := if_neg h
theorem addN_prefix (acc : List Bs) (n : Bs) : acc <+: addN acc n := by
  unfold addN; split
  · exact List.prefix_rfl
  · exact List.prefix_append _ _
theorem uniqN_prefix : ∀ (ns acc : List Bs), acc <+: uniqN acc ns
  | [], acc => List.prefix_rfl
  | n :: ns, acc => (addN_prefix acc n).trans (uniqN_prefix ns (addN acc n))
theorem length_addN (acc : List Bs) (n : Bs) : (addN acc n).length ≤ acc.length + 1 := by unfold addN; split <;> simp
theorem length_uniqN : ∀ (ns acc : List Bs), (uniqN acc ns).length ≤ acc.length + ns.length
  | [], acc => by simp [uniqN]
  | n :: ns, acc => by
    have h1 := length_uniqN ns (addN acc n)
    have h2 := length_addN acc n
    have e : uniqN acc (n :: ns) = uniqN (addN acc n) ns := rfl
    rw [e, List.length_cons]; omega
theorem mem_addN (acc : List Bs) (n x : Bs) : x ∈ addN acc n ↔ x ∈ acc ∨ x = n := by
  unfold addN; split
  · rename_i h
    constructor
    · exact .inl
    · rintro (h' | rfl)
      · exact h'
      · exact h
  · simp
theorem mem_uniqN : ∀ (ns acc : List Bs) (x : Bs), x ∈ uniqN acc ns ↔ x ∈ acc ∨ x ∈ ns
  | [], acc, x => by simp [uniqN]
  | n :: ns, acc, x => by
    have e : uniqN acc (n :: ns) = uniqN (addN acc n) ns := rfl
    rw [e, mem_uniqN ns, mem_addN, List.mem_cons]
    constructor
    · rintro ((h | h) | h)
      · exact .inl h
      · exact .inr (.inl h)
      · exact .inr (.inr h)
    · rintro (h | h | h)
      · exact .inl (.inl h)
      · exact .inl (.inr h)
      · exact .inr h
theorem nodup_addN (acc : List Bs) (n : Bs) (h : acc.Nodup) : (addN acc n).Nodup := by
  unfold addN; split
  · exact h
  · rename_i hn
    rw [List.nodup_append]
    exact ⟨h, by simp, fun a ha b hb e => by rw [List.mem_singleton.1 hb] at e; exact hn (e ▸ ha)⟩
theorem nodup_uniqN : ∀ (ns acc : List Bs), acc.Nodup → (uniqN acc ns).Nodup
  | [], acc, h => h
  | n :: ns, acc, h => nodup_uniqN ns _ (nodup_addN acc n h)

/-- The names of values, behind those that are known. -/
def mergeN : List Bs → List Bs → Option (List Bs)
  | [], acc => some acc
  | v :: r, acc => if 4096 < v.length then none else mergeN r (uniqN acc (headsV v))
theorem mergeN_nil (acc : List Bs) : mergeN [] acc = some acc := rfl
theorem mergeN_long (v : Bs) (r acc : List Bs) (h : 4096 < v.length) : mergeN (v :: r) acc = none := if_pos h
theorem mergeN_short (v : Bs) (r acc : List Bs) (h : ¬ 4096 < v.length) : mergeN (v :: r) acc = mergeN r (uniqN acc (headsV v)) := if_neg h
theorem mergeN_append : ∀ (a b acc : List Bs), mergeN (a ++ b) acc = (mergeN a acc).bind fun x => mergeN b x
  | [], b, acc => rfl
  | v :: a, b, acc => by
    by_cases h : 4096 < v.length
    · rw [List.cons_append, mergeN_long _ _ _ h, mergeN_long _ _ _ h]; rfl
    · rw [List.cons_append, mergeN_short _ _ _ h, mergeN_short _ _ _ h, mergeN_append a b]
theorem mergeN_all : ∀ (vs acc : List Bs), (∀ v ∈ vs, v.length ≤ 4096) → mergeN vs acc = some (uniqN acc (vs.flatMap headsV))
  | [], acc, _ => rfl
  | v :: r, acc, h => by
    rw [mergeN_short _ _ _ (by have := h v (by simp); omega), mergeN_all r _ (fun x hx => h x (by simp [hx])), List.flatMap_cons, uniqN_append]
theorem mergeN_prefix : ∀ (vs acc x : List Bs), mergeN vs acc = some x → acc <+: x
  | [], acc, x, h => by rw [mergeN_nil] at h; cases h; exact List.prefix_rfl
  | v :: r, acc, x, h => by
    by_cases hv : 4096 < v.length
    · rw [mergeN_long _ _ _ hv] at h; cases h
    · rw [mergeN_short _ _ _ hv] at h
      exact (uniqN_prefix _ _).trans (mergeN_prefix r _ x h)

/-! ### The number of the names -/
theorem length_headN (d : Bs) : (headN d).length ≤ 1 := by unfold headN; split <;> simp
theorem length_flatMap_le {α β : Type} (f : α → List β) (m : Nat) : ∀ l : List α, (∀ x ∈ l, (f x).length ≤ m) → (l.flatMap f).length ≤ l.length * m
  | [], _ => by simp
  | x :: l, h => by
    have h1 := length_flatMap_le f m l (fun y hy => h y (by simp [hy]))
    have h2 := h x (by simp)
    rw [List.flatMap_cons, List.length_append, List.length_cons, Nat.add_mul, Nat.one_mul]; omega
theorem length_splitD (c : UInt8) : ∀ l : Bs, (splitD c l).length ≤ l.length + 1
  | [] => by simp [splitD]
  | b :: r => by
    have ih := length_splitD c r
    unfold splitD
    split
    · simp only [List.length_cons]; omega
    · split
      · rename_i h t e
        rw [e] at ih
        simp only [List.length_cons] at ih ⊢; omega
      · simp
theorem splitD_len (c : UInt8) : ∀ (l : Bs) (x : Bs), x ∈ splitD c l → x.length ≤ l.length
  | [], x, h => by simp [splitD] at h; simp [h]
  | b :: r, x, h => by
    unfold splitD at h
    split at h
    · rcases List.mem_cons.1 h with rfl | h
      · simp
      · have := splitD_len c r x h; simp; omega
    · split at h
      · rename_i hd t e
        rcases List.mem_cons.1 h with rfl | h
        · have := splitD_len c r hd (by rw [e]; simp); simp; omega
        · have := splitD_len c r x (by rw [e]; simp [h]); simp; omega
      · rename_i e
        rw [List.mem_singleton.1 h]; simp
theorem length_headsP (p : Bs) : (headsP p).length ≤ p.length + 1 := by
  have h1 := length_flatMap_le headN 1 (splitD 59 p) (fun x _ => length_headN x)
  have h2 := length_splitD 59 p
  unfold headsP; omega
theorem length_headsV (v : Bs) (h : v.length ≤ 4500) : (headsV v).length ≤ 4501 * 4501 := by
  have h1 := length_flatMap_le headsP 4501 (splitD 44 v) (fun x hx => by have := length_headsP x; have := splitD_len 44 v x hx; omega)
  have h2 := length_splitD 44 v
  exact Nat.le_trans h1 (Nat.mul_le_mul_right _ (by omega))

/-! ### A value that is joined by commas -/
theorem splitD_join (c : UInt8) : ∀ (a b : Bs), splitD c (a ++ c :: b) = splitD c a ++ splitD c b
  | [], b => by simp [splitD]
  | x :: a, b => by
    have ih := splitD_join c a b
    by_cases hx : x = c
    · rw [List.cons_append, splitD, if_pos hx, splitD, if_pos hx, ih]; rfl
    · rw [List.cons_append, splitD, if_neg hx, splitD, if_neg hx, ih]
      cases h : splitD c a with
      | nil => exact absurd h (splitD_ne c a)
      | cons y t => rfl
theorem headsV_join (a b : Bs) : headsV (a ++ 44 :: b) = headsV a ++ headsV b := by
  unfold headsV; rw [splitD_join, List.flatMap_append]
theorem headsV_nil : headsV [] = [] := by simp [headsV, headsP, splitD, headN, words, wordsAux]
/-- The values, joined by commas. -/
def commaJ : List Bs → Bs
  | [] => []
  | [v] => v
  | v :: r => v ++ 44 :: commaJ r
theorem headsV_commaJ : ∀ vs : List Bs, headsV (commaJ vs) = vs.flatMap headsV
  | [] => headsV_nil
  | [v] => by simp [commaJ]
  | v :: u :: r => by
    have ih := headsV_commaJ (u :: r)
    have e : commaJ (v :: u :: r) = v ++ 44 :: commaJ (u :: r) := rfl
    rw [e, headsV_join, ih]; simp [List.flatMap_cons]
theorem commaJ_snoc : ∀ (vs : List Bs) (v : Bs), commaJ (vs ++ [v]) = commaJ vs ++ ((if vs.length = 0 then [] else [44]) ++ v)
  | [], v => by simp [commaJ]
  | [u], v => by simp [commaJ]
  | u :: x :: r, v => by
    have ih := commaJ_snoc (x :: r) v
    have e : commaJ (u :: x :: r) = u ++ 44 :: commaJ (x :: r) := rfl
    have e2 : commaJ ((u :: x :: r) ++ [v]) = u ++ 44 :: commaJ ((x :: r) ++ [v]) := rfl
    rw [e, e2, ih]; simp
theorem commaJ_len : ∀ (vs : List Bs), ∀ v ∈ vs, v.length ≤ (commaJ vs).length
  | [], v, h => by cases h
  | [u], v, h => by rw [List.mem_singleton.1 h]; exact Nat.le_refl _
  | u :: x :: r, v, h => by
    have e : commaJ (u :: x :: r) = u ++ 44 :: commaJ (x :: r) := rfl
    rw [e, List.length_append, List.length_cons]
    rcases List.mem_cons.1 h with rfl | h
    · omega
    · have := commaJ_len (x :: r) v h; omega
theorem length_commaJ (m : Nat) : ∀ vs : List Bs, (∀ v ∈ vs, v.length ≤ m) → (commaJ vs).length ≤ vs.length * (m + 1)
  | [], _ => by simp [commaJ]
  | [u], h => by have := h u (by simp); simp [commaJ]; omega
  | u :: x :: r, h => by
    have ih := length_commaJ m (x :: r) (fun v hv => h v (by simp only [List.mem_cons] at hv ⊢; exact .inr hv))
    have h2 := h u (by simp)
    have e : commaJ (u :: x :: r) = u ++ 44 :: commaJ (x :: r) := rfl
    rw [e, List.length_append, List.length_cons, List.length_cons, Nat.add_mul, Nat.one_mul]
    omega
/-! ### The names are in lower case and not empty -/
theorem headN_lower (d n : Bs) (h : n ∈ headN d) : lower n = n ∧ n ≠ [] := by
  unfold headN at h
  split at h
  · cases h
  · rename_i w r e
    rw [List.mem_singleton.1 h]
    refine ⟨lower_idem w, fun e2 => ?_⟩
    have hw : w ≠ [] := (words_mem d w (by rw [e]; simp)).1
    exact hw (List.eq_nil_of_length_eq_zero (by rw [← length_lower w, e2]; rfl))
theorem headsV_lower (v n : Bs) (h : n ∈ headsV v) : lower n = n ∧ n ≠ [] := by
  unfold headsV headsP at h
  obtain ⟨p, _, h⟩ := List.mem_flatMap.1 h
  obtain ⟨d, _, h⟩ := List.mem_flatMap.1 h
  exact headN_lower d n h
theorem headN_len (d n : Bs) (h : n ∈ headN d) : n.length ≤ d.length := by
  unfold headN at h
  split at h
  · cases h
  · rename_i w r e
    rw [List.mem_singleton.1 h, length_lower]
    exact (words_mem d w (by rw [e]; simp)).2.2
theorem headsV_len (v n : Bs) (h : n ∈ headsV v) : n.length ≤ v.length := by
  unfold headsV headsP at h
  obtain ⟨p, hp, h⟩ := List.mem_flatMap.1 h
  obtain ⟨d, hd, h⟩ := List.mem_flatMap.1 h
  have h1 := headN_len d n h
  have h2 := splitD_len 59 p d hd
  have h3 := splitD_len 44 v p hp
  omega
end Hs
