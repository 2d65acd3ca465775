/- Plain laws of layer 11: the text of an address is canonical; the reference's way of writing it. No program in sight. Conditions: none.
   Plain functions of texts in UTF-8: code points, the canonical label of a text that is not ASCII. No program in sight. Conditions: none.
   Plain functions of hosts: what a text denotes, what is valid, how it is written. No program in sight. Conditions: none.
   Plain functions of URLs. No program in sight. Conditions: none. -/
import Derived.Test.YtjbciamhhfcdoaaGreatDoorSub18
import Derived.Test.YtjbciamhhfcdoaaGreatDoorSub05
import Derived.Lib.ValidLaws
import Derived.Lib.RuneCount
import Derived.Test.YtjbciamhhfcdoaaGreatDoorSub17
import Derived.Lib.Strings
import Derived.Lib.IndexAny
import Derived.Lib.ItoaNum
namespace Hs
open Go
set_option linter.unusedVariables false
set_option linter.unusedSimpArgs false

/-! ### Canonical -/
/-- A byte of a canonical text. -/
def okB (b : UInt8) : Bool := decide ((48 ≤ b.toNat ∧ b.toNat ≤ 57) ∨ (97 ≤ b.toNat ∧ b.toNat ≤ 102) ∨ b.toNat = 58)
/-- How often a colon stands behind a colon: the flag tells whether the byte before is one. -/
def dbl : Bool → Bs → Nat
  | _, [] => 0
  | f, b :: r => (if f = true ∧ b = 58 then 1 else 0) + dbl (decide (b = 58)) r
/-- No group begins with a digit 0 that another byte than a colon follows: the flag tells whether a group begins. -/
def noLead : Bool → Bs → Bool
  | _, [] => true
  | f, b :: r => !(decide (f = true ∧ b = 48 ∧ r ≠ [] ∧ r.head? ≠ some 58)) && noLead (decide (b = 58)) r
theorem okB_hexC (d : Nat) (h : d < 16) : okB (hexC d) = true := by
  have : ∀ d : Fin 16, okB (hexC d.1) = true := by decide
  exact this ⟨d, h⟩
theorem okB_hexT (g : Nat) : ∀ x ∈ hexT g, okB x = true := by
  intro x hx
  obtain ⟨d, hd, rfl⟩ := digs_mem 16 (by decide) (by decide) (g + 1) g (by omega) x hx
  exact okB_hexC d hd
theorem okB_join6 : ∀ l : List Nat, ∀ x ∈ join6 l, okB x = true
  | [], x, h => by simp [join6, joinD] at h
  | [g], x, h => okB_hexT g x h
  | g :: k :: l, x, h => by
    have h : x ∈ hexT g ++ 58 :: join6 (k :: l) := h
    rcases List.mem_append.1 h with h | h
    · exact okB_hexT g x h
    · rcases List.mem_cons.1 h with rfl | h
      · decide
      · exact okB_join6 (k :: l) x h
theorem dbl_app (t : Bs) : ∀ (a : Bs) (f : Bool), a ≠ [] → (∀ x ∈ a, x ≠ 58) → dbl f (a ++ t) = dbl false t
  | [], f, h, _ => absurd rfl h
  | [b], f, _, h => by
    have hb := h b (by simp)
    show (if f = true ∧ b = 58 then 1 else 0) + dbl (decide (b = 58)) t = _
    rw [if_neg (fun e => hb e.2), decide_eq_false hb, Nat.zero_add]
  | b :: c :: a, f, _, h => by
    have hb := h b (by simp)
    show (if f = true ∧ b = 58 then 1 else 0) + dbl (decide (b = 58)) (c :: a ++ t) = _
    rw [if_neg (fun e => hb e.2), Nat.zero_add]
    exact dbl_app t (c :: a) _ (by simp) (fun x hx => h x (List.mem_cons_of_mem _ hx))
theorem dbl_join (t : Bs) : ∀ (L : List Bs) (f : Bool), L ≠ [] → Solid L → dbl f (joinD 58 L ++ t) = dbl false t
  | [], f, h, _ => absurd rfl h
  | [p], f, _, h => dbl_app t p f (h p (by simp)).1 (h p (by simp)).2
  | p :: q :: L, f, _, h => by
    show dbl f ((p ++ 58 :: joinD 58 (q :: L)) ++ t) = _
    rw [List.append_assoc, dbl_app _ p f (h p (by simp)).1 (h p (by simp)).2, List.cons_append]
    show (if false = true ∧ (58 : UInt8) = 58 then 1 else 0) + dbl _ _ = _
    rw [if_neg (by simp), Nat.zero_add]
    exact dbl_join t (q :: L) _ (by simp) (fun a ha => h a (List.mem_cons_of_mem _ ha))
theorem dbl_fmt6 (l : List Nat) : dbl false (fmt6 l) ≤ 1 := by
  have key : ∀ (m : List Nat) (f : Bool), dbl f (join6 m) = 0 := by
    intro m f
    cases m with
    | nil => cases f <;> rfl
    | cons g m =>
      have := dbl_join [] ((g :: m).map hexT) f (by simp) (solid_map _)
      rw [List.append_nil] at this
      exact this
  unfold fmt6 fmtZ
  generalize bestZ l 0 (0, 0) = z
  split
  · rw [key]; omega
  · have h2 : ∀ f, dbl f (58 :: 58 :: join6 (l.drop (z.1 + z.2))) ≤ 1 + (if f = true then 1 else 0) := by
      intro f
      have h3 := key (l.drop (z.1 + z.2)) true
      show (if f = true ∧ (58 : UInt8) = 58 then 1 else 0) + ((if decide ((58 : UInt8) = 58) = true ∧ (58 : UInt8) = 58 then 1 else 0) + dbl (decide ((58 : UInt8) = 58)) (join6 _)) ≤ _
      have e : decide ((58 : UInt8) = 58) = true := rfl
      rw [e, h3]
      cases f <;> simp
    cases hm : l.take z.1 with
    | nil => exact h2 false
    | cons g m =>
      have := dbl_join (58 :: 58 :: join6 (l.drop (z.1 + z.2))) ((g :: m).map hexT) false (by simp) (solid_map _)
      show dbl false (joinD 58 ((g :: m).map hexT) ++ _) ≤ 1
      rw [this]
      exact h2 false
/-- The first digit of a number that is not 0 is not 0. -/
theorem digs_head : ∀ (k n : Nat), n < k → 0 < n → (digsN 16 n).head? ≠ some 48
  | 0, n, h, _ => by omega
  | k + 1, n, h, h0 => by
    by_cases hs : n < 16
    · rw [digsN_small hs]
      have : ∀ d : Fin 16, 0 < d.1 → ([hexC d.1] : Bs).head? ≠ some 48 := by decide
      exact this ⟨n, hs⟩ h0
    · have ih := digs_head k (n / 16) (by omega) (by omega)
      rw [digsN_big (by decide) (by omega)]
      cases hd : digsN 16 (n / 16) with
      | nil => exact absurd hd (digsN_ne 16 _)
      | cons c r => rw [hd] at ih; exact ih
theorem noLead_in (t : Bs) : ∀ (a : Bs), (∀ x ∈ a, x ≠ 58) → noLead false (a ++ t) = noLead false t
  | [], _ => rfl
  | b :: a, h => by
    have hb := h b (by simp)
    show (!(decide (false = true ∧ b = 48 ∧ a ++ t ≠ [] ∧ (a ++ t).head? ≠ some 58)) && noLead (decide (b = 58)) (a ++ t)) = _
    rw [decide_eq_false hb, decide_eq_false (by simp), noLead_in t a (fun x hx => h x (List.mem_cons_of_mem _ hx))]
    rfl
theorem noLead_hexT (g : Nat) (t : Bs) (f : Bool) (ht : t = [] ∨ t.head? = some 58) : noLead f (hexT g ++ t) = noLead false t := by
  have hs := (hexT_solid g).2
  cases hd : hexT g with
  | nil => exact absurd hd (hexT_solid g).1
  | cons c r =>
    rw [hd] at hs
    have hc := hs c (by simp)
    show (!(decide (f = true ∧ c = 48 ∧ r ++ t ≠ [] ∧ (r ++ t).head? ≠ some 58)) && noLead (decide (c = 58)) (r ++ t)) = _
    rw [decide_eq_false hc, noLead_in t r (fun x hx => hs x (List.mem_cons_of_mem _ hx))]
    have : ¬ (f = true ∧ c = 48 ∧ r ++ t ≠ [] ∧ (r ++ t).head? ≠ some 58) := by
      rintro ⟨_, rfl, h2, h3⟩
      by_cases h0 : 0 < g
      · have := digs_head (g + 1) g (by omega) h0
        unfold hexT at hd
        rw [hd] at this
        exact this rfl
      · have e0 : g = 0 := by omega
        subst e0
        have : hexT 0 = [48] := digsN_small (by decide)
        rw [this] at hd
        injection hd with _ hd
        subst hd
        rcases ht with rfl | ht
        · exact h2 rfl
        · exact h3 ht
    rw [decide_eq_false this]
    rfl
theorem noLead_col (f : Bool) (t : Bs) : noLead f (58 :: t) = noLead true t := by
  show (!(decide (f = true ∧ (58 : UInt8) = 48 ∧ _)) && noLead (decide ((58 : UInt8) = 58)) t) = _
  rw [decide_eq_false (by rintro ⟨_, h, _⟩; exact absurd h (by decide))]
  rfl
theorem noLead_join (t : Bs) (ht : t = [] ∨ t.head? = some 58) : ∀ (l : List Nat) (f : Bool), l ≠ [] → noLead f (join6 l ++ t) = noLead false t
  | [], f, h => absurd rfl h
  | [g], f, _ => noLead_hexT g t f ht
  | g :: k :: l, f, _ => by
    show noLead f ((hexT g ++ 58 :: join6 (k :: l)) ++ t) = _
    rw [List.append_assoc, noLead_hexT g _ f (.inr rfl), List.cons_append, noLead_col]
    exact noLead_join t ht (k :: l) true (by simp)
theorem noLead_fmt6 (l : List Nat) : noLead true (fmt6 l) = true := by
  have key : ∀ (m : List Nat) (f : Bool), noLead f (join6 m) = true := by
    intro m f
    cases m with
    | nil => cases f <;> rfl
    | cons g m =>
      have := noLead_join [] (.inl rfl) (g :: m) f (by simp)
      rw [List.append_nil] at this
      rw [this]; rfl
  unfold fmt6 fmtZ
  generalize bestZ l 0 (0, 0) = z
  split
  · exact key _ _
  · have h2 : ∀ f, noLead f (58 :: 58 :: join6 (l.drop (z.1 + z.2))) = true := by
      intro f; rw [noLead_col, noLead_col, key]
    cases hm : l.take z.1 with
    | nil => exact h2 true
    | cons g m =>
      rw [noLead_join _ (.inr rfl) (g :: m) true (by simp)]
      exact h2 false
theorem okB_fmt6 (l : List Nat) : ∀ x ∈ fmt6 l, okB x = true := by
  unfold fmt6 fmtZ
  generalize bestZ l 0 (0, 0) = z
  intro x hx
  split at hx
  · exact okB_join6 _ x hx
  · rcases List.mem_append.1 hx with hx | hx
    · exact okB_join6 _ x hx
    · rcases List.mem_cons.1 hx with rfl | hx
      · decide
      · rcases List.mem_cons.1 hx with rfl | hx
        · decide
        · exact okB_join6 _ x hx
theorem join6_len2 : ∀ l : List Nat, (∀ x ∈ l, x < 65536) → (join6 l).length ≤ 5 * l.length - 1
  | [], _ => by simp [join6, joinD]
  | [g], h => by
    have := hexT_len g (h g (by simp))
    show (hexT g).length ≤ _
    simp; omega
  | g :: k :: l, h => by
    have ih := join6_len2 (k :: l) (fun x hx => h x (List.mem_cons_of_mem _ hx))
    have := hexT_len g (h g (by simp))
    show (hexT g ++ 58 :: join6 (k :: l)).length ≤ _
    simp at ih ⊢; omega
theorem join6_len1 : ∀ l : List Nat, 2 ≤ l.length → 2 ≤ (join6 l).length
  | [], h => by simp at h
  | [g], h => by simp at h
  | g :: k :: l, h => by
    have h1 : 0 < (hexT g).length := List.length_pos_iff.2 (hexT_solid g).1
    show 2 ≤ (hexT g ++ 58 :: join6 (k :: l)).length
    simp; omega
theorem fmt6_bounds (a : List Nat) (h : Addr6 a) : 2 ≤ (fmt6 a).length ∧ (fmt6 a).length ≤ 39 := by
  have hg := best_good a
  have h8 := h.1
  unfold fmt6 fmtZ
  generalize bestZ a 0 (0, 0) = z at hg
  have h1 := hg.1
  split
  · have := join6_len2 a h.2
    have := join6_len1 a (by omega)
    omega
  · have e1 := join6_len2 (a.take z.1) (fun x hx => h.2 x (List.mem_of_mem_take hx))
    have e2 := join6_len2 (a.drop (z.1 + z.2)) (fun x hx => h.2 x (List.mem_of_mem_drop hx))
    rw [List.length_take] at e1
    rw [List.length_drop] at e2
    simp; omega
/-! ### The reference's way of writing -/
/-- The longest sequence of at least two groups 0: the reference's search. -/
def bestR : List Nat → Nat → Int × Nat → Int × Nat
  | [], _, b => b
  | x :: r, i, b => bestR r (i + 1) (if b.2 < runZ (x :: r) then ((i : Int), runZ (x :: r)) else b)
/-- The program's search and the reference's. -/
def SameZ (b : Nat × Nat) (c : Int × Nat) : Prop := (b.2 ≤ 1 ∧ c = (-1, 1)) ∨ (2 ≤ b.2 ∧ c = ((b.1 : Int), b.2))
theorem best_same : ∀ (l : List Nat) (i : Nat) (b : Nat × Nat) (c : Int × Nat), SameZ b c → SameZ (bestZ l i b) (bestR l i c)
  | [], i, b, c, h => h
  | x :: r, i, b, c, h => by
    unfold bestZ bestR
    apply best_same r (i + 1)
    rcases h with ⟨h1, rfl⟩ | ⟨h1, rfl⟩
    · simp only
      by_cases h2 : 2 ≤ runZ (x :: r)
      · rw [if_pos (by omega), if_pos (by omega)]
        exact .inr ⟨h2, rfl⟩
      · rw [if_neg (by omega : ¬ 1 < runZ (x :: r))]
        split
        · exact .inl ⟨by simp only; omega, rfl⟩
        · exact .inl ⟨h1, rfl⟩
    · simp only
      split
      · exact .inr ⟨by simp only; omega, rfl⟩
      · exact .inr ⟨h1, rfl⟩
theorem best_start (l : List Nat) : SameZ (bestZ l 0 (0, 0)) (bestR l 0 (-1, 1)) := best_same l 0 (0, 0) (-1, 1) (.inl ⟨by simp, rfl⟩)
theorem join6_snoc (l : List Nat) (g : Nat) (h : l ≠ []) : join6 (l ++ [g]) = join6 l ++ 58 :: hexT g := by
  unfold join6
  rw [List.map_append]
  exact joinD_snoc 58 (hexT g) (l.map hexT) (by simpa using h)
theorem join6_one (g : Nat) : join6 [g] = hexT g := rfl
theorem join6_last : ∀ l : List Nat, l ≠ [] → ∃ c, (join6 l).getLast? = some c ∧ c ≠ 58
  | [], h => absurd rfl h
  | [g], _ => by
    obtain ⟨c, hc⟩ : ∃ c, (hexT g).getLast? = some c := by
      cases hg : hexT g with
      | nil => exact absurd hg (hexT_solid g).1
      | cons a r => exact ⟨(a :: r).getLast (by simp), List.getLast?_eq_some_getLast (by simp)⟩
    exact ⟨c, hc, (hexT_solid g).2 c (List.mem_of_getLast? hc)⟩
  | g :: k :: l, _ => by
    obtain ⟨c, hc, h⟩ := join6_last (k :: l) (by simp)
    refine ⟨c, ?_, h⟩
    show (hexT g ++ 58 :: join6 (k :: l)).getLast? = some c
    rw [List.getLast?_append, List.getLast?_cons, hc]
    rfl
end Hs
namespace Hs
open Go
set_option linter.unusedVariables false
set_option linter.unusedSimpArgs false
/-! ### The library's cutting -/
/-- What Cut at two colons returns. -/
def cutR (l : Bs) : Bs × Bs × Bool := match cut2 l with
  | some p => (p.1, p.2, true)
  | none => (l, [], false)
theorem pre2 (b : UInt8) (r : Bs) : ([58, 58] : Bs).isPrefixOf (b :: r) = true ↔ b = 58 ∧ r.head? = some 58 := by
  cases r with
  | nil =>
    show ((58 == b) && false) = true ↔ b = 58 ∧ (none : Option UInt8) = some 58
    rw [Bool.and_false]
    exact ⟨fun h => absurd h (by decide), fun h => absurd h.2 (by decide)⟩
  | cons c r =>
    show ((58 == b) && ((58 == c) && true)) = true ↔ b = 58 ∧ some c = some 58
    rw [Bool.and_true, Bool.and_eq_true, beq_iff_eq, beq_iff_eq]
    exact ⟨fun h => ⟨h.1.symm, by rw [h.2]⟩, fun h => ⟨h.1.symm, (Option.some.inj h.2).symm⟩⟩
theorem index_cut2 : ∀ l : Bs, Lib.index l [58, 58] = match cut2 l with | some p => (p.1.length : Int) | none => -1
  | [] => rfl
  | b :: r => by
    have ih := index_cut2 r
    rw [Lib.index, cut2]
    by_cases h : b = 58 ∧ r.head? = some 58
    · rw [if_pos ((pre2 b r).2 h), if_pos h]; rfl
    · rw [if_neg (fun e => h ((pre2 b r).1 e)), if_neg h, ih]
      cases cut2 r with
      | none => rfl
      | some p =>
        simp only
        rw [if_neg (by simp <;> omega)]
        simp
theorem cut_cut2 (l : Bs) : Lib.cut l [58, 58] = cutR l := by
  unfold Lib.cut cutR
  rw [index_cut2]
  cases h : cut2 l with
  | none => rfl
  | some p =>
    have e := cut2_some h
    simp only
    rw [if_pos (by omega)]
    have e1 : ((p.1.length : Nat) : Int).toNat = p.1.length := by omega
    rw [e1]
    have e2 : l.take p.1.length = p.1 := by rw [e]; simp
    have e3 : l.drop (p.1.length + ([58, 58] : Bs).length) = p.2 := by
      rw [e, ← List.drop_drop]; simp
    rw [e2, e3]
theorem cutR_len (l : Bs) : (cutR l).1.length ≤ l.length ∧ (cutR l).2.1.length ≤ l.length := by
  unfold cutR
  cases h : cut2 l with
  | none => simp
  | some p =>
    have e := congrArg List.length (cut2_some h)
    simp at e
    simp only
    omega
/-- Reading in the program's words. -/
theorem parse6_cutR (l : Bs) : parse6 l = match grpsV (cutR l).1 (!(cutR l).2.2), grpsV (cutR l).2.1 true with
    | some x, some y => if ((cutR l).2.2 = false ∧ x.length + y.length = 8) ∨ ((cutR l).2.2 = true ∧ x.length + y.length ≤ 7) then some (x ++ (List.replicate (8 - x.length - y.length) 0 ++ y)) else none
    | _, _ => none := by
  unfold parse6 cutR
  cases h : cut2 l with
  | none =>
    have e : grpsV [] true = some [] := rfl
    simp only [Bool.not_false, e]
    cases grpsV l true with
    | none => rfl
    | some x =>
      simp only
      by_cases h8 : x.length = 8
      · rw [if_pos h8, if_pos (by simp [h8])]
        simp [h8]
      · rw [if_neg h8, if_neg (by simp; exact h8)]
  | some p =>
    simp only [Bool.not_true]
    cases grpsV p.1 false with
    | none => rfl
    | some x =>
      cases grpsV p.2 true with
      | none => rfl
      | some y => simp
end Hs
namespace Hs
open Go
set_option linter.unusedVariables false
set_option linter.unusedSimpArgs false
/-- The code points of a text, with fuel. -/
def ptsF : Nat → Bs → List Nat
  | 0, _ => []
  | n + 1, l => if l = [] then [] else (Lib.decodeL l).1 :: ptsF n (l.drop (Lib.decodeL l).2)
/-- The code points of a text. -/
def ptsD (l : Bs) : List Nat := ptsF l.length l
theorem ptsF_nil : ∀ n, ptsF n [] = []
  | 0 => rfl
  | _ + 1 => by simp [ptsF]
theorem ptsF_fuel : ∀ (n m : Nat) (l : Bs), l.length ≤ n → l.length ≤ m → ptsF n l = ptsF m l
  | 0, m, l, hn, _ => by
    have : l = [] := List.eq_nil_of_length_eq_zero (by omega)
    subst this
    rw [ptsF_nil, ptsF_nil]
  | n + 1, 0, l, _, hm => by
    have : l = [] := List.eq_nil_of_length_eq_zero (by omega)
    subst this
    rw [ptsF_nil, ptsF_nil]
  | n + 1, m + 1, l, hn, hm => by
    unfold ptsF
    by_cases hne : l = []
    · simp [hne]
    · have hw := Lib.decodeL_width l
      have hl : 0 < l.length := List.length_pos_iff.2 hne
      rw [if_neg hne, if_neg hne, ptsF_fuel n m (l.drop (Lib.decodeL l).2) (by rw [List.length_drop]; omega) (by rw [List.length_drop]; omega)]
theorem ptsD_nil : ptsD [] = [] := rfl
theorem ptsD_step {l : Bs} (hne : l ≠ []) : ptsD l = (Lib.decodeL l).1 :: ptsD (l.drop (Lib.decodeL l).2) := by
  have hl : 0 < l.length := List.length_pos_iff.2 hne
  have hw := Lib.decodeL_width l
  obtain ⟨n, hn⟩ : ∃ n, l.length = n + 1 := ⟨l.length - 1, by omega⟩
  unfold ptsD
  rw [hn]
  show (if l = [] then [] else _) = _
  rw [if_neg hne, ptsF_fuel n (l.drop (Lib.decodeL l).2).length _ (by rw [List.length_drop]; omega) (Nat.le_refl _)]
theorem ptsF_len : ∀ (n : Nat) (l : Bs), (ptsF n l).length ≤ n
  | 0, _ => Nat.le_refl _
  | n + 1, l => by
    unfold ptsF
    split
    · simp
    · have := ptsF_len n (l.drop (Lib.decodeL l).2)
      simp only [List.length_cons]
      omega
theorem ptsD_len (l : Bs) : (ptsD l).length ≤ l.length := ptsF_len _ _
theorem ptsF_le : ∀ (n : Nat) (l : Bs), ∀ p ∈ ptsF n l, p ≤ 1114111
  | 0, _, p, h => by cases h
  | n + 1, l, p, h => by
    unfold ptsF at h
    split at h
    · cases h
    · rcases List.mem_cons.1 h with rfl | h
      · exact Lib.decodeL_rune l
      · exact ptsF_le n _ p h
theorem ptsD_le (l : Bs) : ∀ p ∈ ptsD l, p ≤ 1114111 := ptsF_le _ _
/-- All bytes are ASCII. -/
def ascB (l : Bs) : Bool := l.all fun b => decide (b.toNat < 128)
theorem ptsD_asc : ∀ l : Bs, ascB l = true → (ptsD l).length = l.length
  | [], _ => rfl
  | b :: r, h => by
    unfold ascB at h
    simp only [List.all_cons, Bool.and_eq_true, decide_eq_true_eq] at h
    rw [ptsD_step (by simp), Lib.decodeL_ascii b r h.1]
    simp only [List.drop_succ_cons, List.drop_zero, List.length_cons]
    rw [ptsD_asc r h.2]
/-- What is not ASCII in a valid text takes more than one byte. -/
theorem ptsD_lt : ∀ (n : Nat) (l : Bs), l.length ≤ n → Lib.validD l = true → ascB l = false → (ptsD l).length < l.length
  | _, [], _, _, h => by simp [ascB] at h
  | 0, _ :: _, h, _, _ => by simp at h
  | n + 1, b :: r, hn, hv, ha => by
    simp only [List.length_cons] at hn
    by_cases hb : b.toNat < 128
    · have ha2 : ascB r = false := by
        unfold ascB at ha ⊢
        simp only [List.all_cons, decide_eq_true hb, Bool.true_and] at ha
        exact ha
      rw [Lib.validD_cons b r hb] at hv
      have := ptsD_lt n r (by omega) hv ha2
      rw [ptsD_step (by simp), Lib.decodeL_ascii b r hb]
      simp only [List.drop_succ_cons, List.drop_zero, List.length_cons]
      omega
    · rw [Lib.validD_step _ (by simp)] at hv
      have hw := Lib.decodeL_width (b :: r)
      have hle := Lib.decodeL_le (b :: r) (by simp)
      have h2 : 2 ≤ (Lib.decodeL (b :: r)).2 := by
        split at hv
        · cases hv
        · rename_i hne
          rcases Nat.lt_or_ge (Lib.decodeL (b :: r)).2 2 with h | h
          · exfalso
            have h1 : (Lib.decodeL (b :: r)).2 = 1 := by omega
            apply hne
            refine ⟨?_, h1⟩
            rw [Lib.decodeL_N] at h1 ⊢
            have h0 : ((b :: r).getD 0 0).toNat = b.toNat := rfl
            rw [h0] at h1 ⊢
            revert h1
            unfold Lib.decodeN
            rw [if_neg hb]
            repeat' split
            all_goals simp
          · exact h
      have := ptsD_len ((b :: r).drop (Lib.decodeL (b :: r)).2)
      rw [ptsD_step (by simp)]
      simp only [List.length_cons, List.length_drop] at this hle ⊢
      omega
theorem runeCountFrom_pts (s : ByteArray) : ∀ (f pos : Nat), Lib.runeCountFrom s f pos = (ptsF f ((un s).drop pos)).length
  | 0, _ => rfl
  | f + 1, pos => by
    have hlen : (un s).length = s.size := length_un s
    unfold Lib.runeCountFrom ptsF
    by_cases hp : pos < s.size
    · have hne : (un s).drop pos ≠ [] := by
        intro e
        have := congrArg List.length e
        rw [List.length_drop] at this
        simp at this
        omega
      rw [if_pos hp, if_neg hne, runeCountFrom_pts s f, List.drop_drop]
      have : Lib.decodeL ((un s).drop pos) = Utf8.decode s pos := Lib.decodeL_drop s pos
      rw [this]
      simp only [List.length_cons]
      omega
    · have hne : (un s).drop pos = [] := List.drop_eq_nil_of_le (by omega)
      rw [if_neg hp, if_pos hne]
      rfl
theorem runeCount_pts (s : ByteArray) : Lib.runeCount s = (ptsD (un s)).length := by
  have := runeCountFrom_pts s s.size 0
  rw [List.drop_zero] at this
  unfold Lib.runeCount ptsD
  rw [length_un]
  exact this
/-- The prefix of a label that stands for another one. -/
def xnP : Bs := [120, 110, 45, 45]
/-- The canonical label of a text that is not ASCII. -/
def toAsciiU (l : Bs) : Option Bs :=
  if Lib.validD l = false then none
  else if 256 < (ptsD l).length then none
  else match encV (ptsD (lower l)) with
    | none => none
    | some c => if labelV (xnP ++ c) = true then some (xnP ++ c) else none
theorem toAsciiU_len {x y : Bs} (h : toAsciiU x = some y) : labelV y = true := by
  unfold toAsciiU at h
  split at h
  · cases h
  · split at h
    · cases h
    · split at h
      · cases h
      · split at h
        · rename_i h2
          cases h
          exact h2
        · cases h
end Hs
namespace Hs
open Go
set_option linter.unusedVariables false
set_option linter.unusedSimpArgs false

/-- Eight groups 0. -/
def zer8 : List Nat := [0, 0, 0, 0, 0, 0, 0, 0]
/-- A host: its kind, the name of a domain, the addresses. -/
structure HostP where
  kind : Nat
  name : Bs
  v4 : Nat
  v6 : List Nat
deriving DecidableEq
def host0 : HostP := ⟨0, [], 0, zer8⟩
/-- The canonical label of an ASCII text. -/
def toAsciiA (l : Bs) : Option Bs := if 256 < l.length then none else if labelV (lower l) = true then some (lower l) else none
/-- The canonical label of a text. -/
def toAsciiV (l : Bs) : Option Bs := if ascB l = true then toAsciiA l else toAsciiU l
theorem toAsciiV_asc {l : Bs} (h : ascB l = true) : toAsciiV l = toAsciiA l := if_pos h
/-- A last dot left out. -/
def dropDot (l : Bs) : Bs := Lib.trimSuffix l [46]
/-- The canonical labels of labels. -/
def labsV : List Bs → Option (List Bs)
  | [] => some []
  | x :: r => match toAsciiV x with
    | none => none
    | some y => (labsV r).map (y :: ·)
/-- The domain of joined labels. -/
def domL (n : Bs) : Option HostP := if 253 < n.length then none else if numericV n = true then none else some ⟨1, n, 0, zer8⟩
/-- The domain that a text without percent signs denotes. -/
def domV (s : Bs) : Option HostP := match labsV (splitD 46 s) with
  | none => none
  | some l => domL (joinD 46 l)
/-- The host that a text without percent signs and brackets denotes. -/
def plainV (s : Bs) : Option HostP := if numericV s = true then (if (numsV s).2 = true then some ⟨2, [], (numsV s).1, zer8⟩ else none) else domV s
/-- The address in brackets. -/
def addrV (l : Bs) : Option HostP := if l.getLast? = some 93 then (parse6 ((l.take (l.length - 1)).drop 1)).map (fun v => ⟨3, [], 0, v⟩) else none
/-- The host that a text denotes. -/
def hostV (l : Bs) : Option HostP :=
  if 1024 < l.length then none
  else if l.head? = some 91 then addrV l
  else match pctV l with
    | none => none
    | some t => plainV (dropDot t)
/-- A valid host. -/
def hostOk (h : HostP) : Bool := match h.kind with
  | 1 => nameV h.name && decide (h.v4 = 0) && decide (h.v6 = zer8)
  | 2 => decide (h.name = []) && decide (h.v6 = zer8)
  | 3 => decide (h.name = []) && decide (h.v4 = 0)
  | _ => false
/-- The text of a host. -/
def hostT (h : HostP) : Bs := if hostOk h = true then (match h.kind with
  | 1 => h.name
  | 2 => fmtV h.v4
  | _ => 91 :: (fmt6 h.v6 ++ [93])) else []
end Hs
namespace Hs
open Go
set_option linter.unusedVariables false
set_option linter.unusedSimpArgs false

def bHttp : Bs := [104, 116, 116, 112]
def bHttps : Bs := [104, 116, 116, 112, 115]
def bWs : Bs := [119, 115]
def bWss : Bs := [119, 115, 115]
/-- A URL. -/
structure UrlP where
  scheme : Bs
  user : Bs
  host : HostP
  port : Int
  rest : Bs
deriving DecidableEq
def url0 : UrlP := ⟨[], [], host0, 0, []⟩
/-- The default port of a scheme, or -1. -/
def portD (s : Bs) : Int := if s = bHttp ∨ s = bWs then 80 else if s = bHttps ∨ s = bWss then 443 else -1
theorem portD_cases (s : Bs) : (portD s = 80 ∧ (s = bHttp ∨ s = bWs)) ∨ (portD s = 443 ∧ (s = bHttps ∨ s = bWss)) ∨ (portD s = -1 ∧ ¬ (s = bHttp ∨ s = bWs) ∧ ¬ (s = bHttps ∨ s = bWss)) := by
  unfold portD
  by_cases h : s = bHttp ∨ s = bWs
  · rw [if_pos h]; exact .inl ⟨rfl, h⟩
  · rw [if_neg h]
    by_cases h2 : s = bHttps ∨ s = bWss
    · rw [if_pos h2]; exact .inr (.inl ⟨rfl, h2⟩)
    · rw [if_neg h2]; exact .inr (.inr ⟨rfl, h, h2⟩)
def isLetter (b : UInt8) : Bool := isLower b || isUpper b
/-- A byte of a scheme behind the first one. -/
def schB (b : UInt8) : Bool := isLetter b || decide (b ∈ ([48, 49, 50, 51, 52, 53, 54, 55, 56, 57, 43, 45, 46] : Bs))
/-- The form of a scheme. -/
def schemeV : Bs → Bool
  | [] => false
  | b :: r => isLetter b && r.all schB
/-- A byte that no URL contains. -/
def badU (b : UInt8) : Bool := decide (b.toNat ≤ 32 ∨ b.toNat = 127)
/-- The number of a port behind a number; it saturates. -/
def numU : Bs → Int → Option Int
  | [], n => some n
  | b :: r, n => if isDigit b = true then numU r (min (10 * max n 0 + ((b.toNat : Int) - 48)) 65536) else none
/-- The number of a port, or -1 without digits. -/
def portV (l : Bs) : Option Int := match numU l (-1) with
  | none => none
  | some n => if n < 65536 then some n else none
/-- The name and the port in an authority without user; none where a bracket is not closed. -/
def hostPort (a : Bs) : Option (Bs × Bs) :=
  if a.head? = some 91 then (if Lib.indexByte a 93 < 0 then none else some (a.take ((Lib.indexByte a 93).toNat + 1), a.drop ((Lib.indexByte a 93).toNat + 1)))
  else if Lib.indexByte a 58 < 0 then some (a, []) else some (a.take (Lib.indexByte a 58).toNat, a.drop (Lib.indexByte a 58).toNat)
/-- User and the rest of an authority. -/
def userP (a : Bs) : Bs × Bs := if lastC 64 a < 0 then ([], a) else (a.take (lastC 64 a).toNat, a.drop ((lastC 64 a).toNat + 1))
/-- The end of place: a name and what stands behind it. -/
def placeT (u : UrlP) (name tail : Bs) : Option UrlP :=
  if tail ≠ [] ∧ tail.head? ≠ some 58 then none
  else match hostV name with
    | none => none
    | some h => match portV (tail.drop 1) with
      | none => none
      | some p => some { u with host := h, port := if p = portD u.scheme then u.port else p }
def placeV (u : UrlP) (a : Bs) : Option UrlP := match hostPort (userP a).2 with
  | none => none
  | some (n, t) => placeT { u with user := (userP a).1 } n t
/-- Where a slash, a question mark or a number sign stands. -/
def authL (r : Bs) : Nat := if Lib.indexAny r [47, 63, 35] < 0 then r.length else (Lib.indexAny r [47, 63, 35]).toNat
def slash (r : Bs) : Bs := if r.head? = some 47 then r else 47 :: r
/-- The URL with a scheme in lower case and a rest. -/
def special (s rest : Bs) : Option UrlP :=
  if portD s < 0 then some ⟨s, [], host0, -1, rest⟩
  else if rest.take 2 = [47, 47] then placeV ⟨s, [], host0, -1, slash ((rest.drop 2).drop (authL (rest.drop 2)))⟩ ((rest.drop 2).take (authL (rest.drop 2)))
  else none
/-- The URL with a text of any length. -/
def parseU (l : Bs) : Option UrlP :=
  if l.any badU = true then none
  else if Lib.indexByte l 58 < 0 then none
  else if schemeV (l.take (Lib.indexByte l 58).toNat) = true then special (lower (l.take (Lib.indexByte l 58).toNat)) (l.drop ((Lib.indexByte l 58).toNat + 1))
  else none
/-- The URL with a text. -/
def urlV (l : Bs) : Option UrlP := if 2048 < l.length then none else parseU l
/-- The text of a URL. -/
def textU (u : UrlP) : Bs :=
  if portD u.scheme < 0 then u.scheme ++ 58 :: u.rest
  else u.scheme ++ ([58, 47, 47] ++ ((if u.user = [] then [] else u.user ++ [64]) ++ (hostT u.host ++ ((if u.port = -1 then [] else 58 :: Lib.itoa u.port) ++ u.rest))))
/-- A URL is what its text denotes. -/
def validU (u : UrlP) : Bool := decide (parseU (textU u) = some u)
def formatU (u : UrlP) : Bs := if validU u = true then textU u else []
/-- The secure scheme. -/
def upScheme (s : Bs) : Bs := if s = bHttp then bHttps else bWss
def upgradeU (u : UrlP) : UrlP := if portD u.scheme = 80 then ⟨upScheme u.scheme, u.user, u.host, if u.port = portD (upScheme u.scheme) then -1 else u.port, u.rest⟩ else u
def bFile : Bs := [102, 105, 108, 101]
def bAbout : Bs := [97, 98, 111, 117, 116]
def bData : Bs := [100, 97, 116, 97]
def bBlank : Bs := [98, 108, 97, 110, 107]
def bSrcdoc : Bs := [115, 114, 99, 100, 111, 99]
def bLocal : Bs := [108, 111, 99, 97, 108, 104, 111, 115, 116]
/-- A loopback host. -/
def loopV (h : HostP) : Bool := hostOk h && (match h.kind with
  | 2 => decide (h.v4 / 16777216 = 127)
  | 3 => decide (h.v6 = [0, 0, 0, 0, 0, 0, 0, 1])
  | _ => coversV bLocal h.name)
/-- A trustworthy URL. -/
def trustV (u : UrlP) : Bool := validU u && (
  if u.scheme = bHttps ∨ u.scheme = bWss ∨ u.scheme = bFile then true
  else if u.scheme = bAbout then decide (u.rest = bBlank ∨ u.rest = bSrcdoc)
  else decide (0 < portD u.scheme) && loopV u.host)
end Hs
