/- Plain functions of names: the last dot, the comparison of names from the last label on, superdomains. No program in sight. Conditions: none.
   Plain facts on the decoding of Punycode, for the walks. No program in sight. Conditions: none. -/
import Derived.Test.YtjbciamhhfcdoaaGreatDoorSub05
import Derived.Lib.LastIndexByte
import Derived.Lib.Bytealg
import Derived.Test.YtjbciamhhfcdoaaGreatDoorSub02
namespace Hs
open Go
set_option linter.unusedVariables false
set_option linter.unusedSimpArgs false

/-- Where the last byte c stands, or -1. -/
def lastC (c : UInt8) : Bs → Int
  | [] => -1
  | b :: r => if 0 ≤ lastC c r then lastC c r + 1 else if b = c then 0 else -1
theorem dashI_eq : ∀ l : Bs, dashI l = lastC 45 l
  | [] => rfl
  | b :: r => by unfold dashI lastC; rw [dashI_eq r]
theorem lastC_bounds (c : UInt8) : ∀ l : Bs, -1 ≤ lastC c l ∧ lastC c l < l.length
  | [] => by simp [lastC]
  | b :: r => by
    have := lastC_bounds c r
    unfold lastC
    split
    · simp; omega
    · split <;> simp <;> omega
theorem lastC_snoc (c b : UInt8) : ∀ l : Bs, lastC c (l ++ [b]) = if b = c then (l.length : Int) else lastC c l
  | [] => by
    show (if (0 : Int) ≤ -1 then (-1 : Int) + 1 else if b = c then 0 else -1) = if b = c then 0 else -1
    rw [if_neg (show ¬ (0 : Int) ≤ -1 by omega)]
  | x :: r => by
    have ih := lastC_snoc c b r
    have := lastC_bounds c r
    rw [List.cons_append, lastC, ih, lastC]
    by_cases hb : b = c
    · rw [if_pos hb, if_pos hb, if_pos (by omega)]; simp
    · rw [if_neg hb, if_neg hb]
theorem lastIdx_take (s : ByteArray) (c : UInt8) : ∀ k, k ≤ s.size → Lib.lastIdx s (c.toNat : Int) k = lastC c ((un s).take k)
  | 0, _ => rfl
  | k + 1, h => by
    have hk : k < (un s).length := by rw [length_un]; omega
    have ih := lastIdx_take s c k (by omega)
    have hd : s.data[k]! = (un s)[k] := by
      have : k < s.data.size := by rw [ByteArray.size_data]; omega
      rw [getElem!_pos s.data k this]
      rfl
    rw [List.take_succ_eq_append_getElem hk, lastC_snoc, Lib.lastIdx, hd, ih, List.length_take, Nat.min_eq_left (by omega)]
    by_cases hc : (un s)[k] = c
    · rw [if_pos hc, if_pos (by rw [hc])]
    · rw [if_neg hc, if_neg (fun e => hc (UInt8.toNat_inj.1 (by omega)))]
theorem lastIndexByte_eq (s : ByteArray) (c : UInt8) : Lib.lastIndexByte s (c.toNat : Int) = lastC c (un s) := by
  unfold Lib.lastIndexByte
  rw [lastIdx_take s c s.size (Nat.le_refl _), List.take_of_length_le (by rw [length_un]; exact Nat.le_refl _)]
theorem lastC_neg (c : UInt8) : ∀ l : Bs, lastC c l < 0 ↔ ∀ x ∈ l, x ≠ c
  | [] => by simp [lastC]
  | b :: r => by
    have ih := lastC_neg c r
    have hb := lastC_bounds c r
    unfold lastC
    by_cases h : 0 ≤ lastC c r
    · rw [if_pos h]
      constructor
      · intro h2; omega
      · intro h2
        have := ih.2 (fun x hx => h2 x (List.mem_cons_of_mem _ hx))
        omega
    · rw [if_neg h]
      have hr := ih.1 (by omega)
      by_cases hc : b = c
      · rw [if_pos hc]
        constructor
        · intro h2; omega
        · intro h2; exact absurd hc (h2 b (List.mem_cons_self ..))
      · rw [if_neg hc]
        constructor
        · intro _ x hx
          rcases List.mem_cons.1 hx with rfl | hx
          · exact hc
          · exact hr x hx
        · intro _; decide
theorem lastC_split (c : UInt8) : ∀ l : Bs, 0 ≤ lastC c l → l = l.take (lastC c l).toNat ++ c :: l.drop ((lastC c l).toNat + 1)
  | [], h => by simp [lastC] at h
  | b :: r, h => by
    unfold lastC at h ⊢
    by_cases h1 : 0 ≤ lastC c r
    · rw [if_pos h1]
      have ih := lastC_split c r h1
      have e : (lastC c r + 1).toNat = (lastC c r).toNat + 1 := by omega
      rw [e, List.take_succ_cons, List.drop_succ_cons, List.cons_append, ← ih]
    · rw [if_neg h1] at h ⊢
      by_cases hc : b = c
      · rw [if_pos hc]; simp [hc]
      · rw [if_neg hc] at h; omega

/-- What stands behind the last dot, and before it. -/
def tailD (l : Bs) : Bs := l.drop (lastC 46 l + 1).toNat
def headD (l : Bs) : Bs := l.take (lastC 46 l).toNat
theorem headD_len (l : Bs) (h : 0 ≤ lastC 46 l) : (headD l).length < l.length := by
  have := lastC_bounds 46 l
  unfold headD
  rw [List.length_take]
  omega
theorem of_tail (l : Bs) : (lastC 46 l < 0 ∧ l = tailD l) ∨ (0 ≤ lastC 46 l ∧ l = headD l ++ 46 :: tailD l) := by
  have hb := lastC_bounds 46 l
  by_cases h : 0 ≤ lastC 46 l
  · refine .inr ⟨h, ?_⟩
    have e : (lastC 46 l + 1).toNat = (lastC 46 l).toNat + 1 := by omega
    unfold headD tailD
    rw [e]
    exact lastC_split 46 l h
  · refine .inl ⟨by omega, ?_⟩
    unfold tailD
    rw [show (lastC 46 l + 1).toNat = 0 by omega, List.drop_zero]
/-- How names are compared. -/
def pcmpF : Nat → Bs → Bs → Int
  | 0, _, _ => 0
  | f + 1, a, b => if Lib.compareBytes (tailD a) (tailD b) ≠ 0 then Lib.compareBytes (tailD a) (tailD b)
    else if lastC 46 a < 0 ∨ lastC 46 b < 0 then (if min (lastC 46 a) 0 < min (lastC 46 b) 0 then -1 else if min (lastC 46 b) 0 < min (lastC 46 a) 0 then 1 else 0)
    else pcmpF f (headD a) (headD b)
theorem pcmpF_fuel : ∀ (f g : Nat) (a b : Bs), a.length < f → a.length < g → pcmpF f a b = pcmpF g a b
  | 0, _, a, b, h, _ => by omega
  | _, 0, a, b, _, h => by omega
  | f + 1, g + 1, a, b, hf, hg => by
    unfold pcmpF
    split
    · rfl
    · split
      · rfl
      · rename_i h
        have := headD_len a (by omega)
        exact pcmpF_fuel f g _ _ (by omega) (by omega)
def pcmp (a b : Bs) : Int := pcmpF (a.length + 1) a b
theorem pcmp_step (a b : Bs) : pcmp a b = if Lib.compareBytes (tailD a) (tailD b) ≠ 0 then Lib.compareBytes (tailD a) (tailD b)
    else if lastC 46 a < 0 ∨ lastC 46 b < 0 then (if min (lastC 46 a) 0 < min (lastC 46 b) 0 then -1 else if min (lastC 46 b) 0 < min (lastC 46 a) 0 then 1 else 0)
    else pcmp (headD a) (headD b) := by
  unfold pcmp
  rw [pcmpF]
  split
  · rfl
  · split
    · rfl
    · rename_i h
      have := headD_len a (by omega)
      exact pcmpF_fuel _ _ _ _ (by omega) (by omega)
theorem compareBytes_zero : ∀ a b : Bs, Lib.compareBytes a b = 0 ↔ a = b
  | [], [] => by simp [Lib.compareBytes]
  | [], _ :: _ => by simp [Lib.compareBytes]
  | _ :: _, [] => by simp [Lib.compareBytes]
  | a :: r, b :: s => by
    have ih := compareBytes_zero r s
    unfold Lib.compareBytes
    by_cases h1 : a < b
    · rw [if_pos h1]
      have : a ≠ b := fun e => by subst e; exact absurd h1 (UInt8.lt_irrefl _)
      simp [this]
    · rw [if_neg h1]
      by_cases h2 : b < a
      · rw [if_pos h2]
        have : a ≠ b := fun e => by subst e; exact absurd h2 (UInt8.lt_irrefl _)
        simp [this]
      · rw [if_neg h2]
        have : a = b := by
          have h3 := UInt8.not_lt.1 h1
          have h4 := UInt8.not_lt.1 h2
          exact UInt8.le_antisymm h4 h3
        simp [this, ih]
theorem pcmp_zero : ∀ (n : Nat) (a b : Bs), a.length ≤ n → (pcmp a b = 0 ↔ a = b) := by
  intro n
  induction n with
  | zero =>
    intro a b h
    obtain rfl : a = [] := List.eq_nil_of_length_eq_zero (by omega)
    rw [pcmp_step]
    rcases of_tail b with ⟨hb, eb⟩ | ⟨hb, eb⟩
    · by_cases hc : Lib.compareBytes (tailD []) (tailD b) = 0
      · rw [if_neg (by simp [hc]), if_pos (.inr hb)]
        have hbb := lastC_bounds 46 b
        have e : lastC 46 ([] : Bs) = -1 := rfl
        rw [e, show lastC 46 b = -1 by omega]
        have := (compareBytes_zero _ _).1 hc
        rw [← eb] at this
        simp [← this, tailD]
      · rw [if_pos hc]
        constructor
        · intro h; exact absurd h hc
        · intro h; subst h; exact absurd ((compareBytes_zero _ _).2 rfl) hc
    · constructor
      · intro h
        exfalso
        split at h
        · contradiction
        · rw [if_pos (.inl (by decide))] at h
          have e : lastC 46 ([] : Bs) = -1 := rfl
          rw [e, if_pos (by omega)] at h
          exact absurd h (by decide)
      · intro h; subst h; simp [lastC] at hb
  | succ n ih =>
    intro a b h
    rw [pcmp_step]
    have ha := of_tail a
    have hb := of_tail b
    have ba := lastC_bounds 46 a
    have bb := lastC_bounds 46 b
    by_cases hc : Lib.compareBytes (tailD a) (tailD b) = 0
    · rw [if_neg (by simp [hc])]
      have ht := (compareBytes_zero _ _).1 hc
      rcases ha with ⟨ha, ea⟩ | ⟨ha, ea⟩ <;> rcases hb with ⟨hb, eb⟩ | ⟨hb, eb⟩
      · rw [if_pos (.inl ha), show lastC 46 a = -1 by omega, show lastC 46 b = -1 by omega]
        simp
        rw [ea, eb, ht]
      · rw [if_pos (.inl ha), if_pos (by omega)]
        constructor
        · intro h; exact absurd h (by decide)
        · intro h; subst h; omega
      · rw [if_pos (.inr hb), if_neg (by omega), if_pos (by omega)]
        constructor
        · intro h; exact absurd h (by decide)
        · intro h; subst h; omega
      · rw [if_neg (by omega)]
        have := headD_len a ha
        rw [ih (headD a) (headD b) (by omega)]
        constructor
        · intro h; rw [ea, eb, h, ht]
        · intro h; rw [h]
    · rw [if_pos hc]
      constructor
      · intro h; exact absurd h hc
      · intro h; subst h; exact absurd ((compareBytes_zero _ _).2 rfl) hc
theorem pcmp_eq (a b : Bs) : pcmp a b = 0 ↔ a = b := pcmp_zero a.length a b (Nat.le_refl _)

/-- The superdomains of a name. -/
def supers : Bs → List Bs
  | [] => []
  | b :: r => if b = 46 then r :: supers r else supers r
theorem supers_none : ∀ a : Bs, (∀ x ∈ a, x ≠ 46) → supers a = []
  | [], _ => rfl
  | b :: r, h => by rw [supers, if_neg (h b (List.mem_cons_self ..)), supers_none r (fun x hx => h x (List.mem_cons_of_mem _ hx))]
theorem supers_cut (r : Bs) : ∀ a : Bs, (∀ x ∈ a, x ≠ 46) → supers (a ++ 46 :: r) = r :: supers r
  | [], _ => by simp [supers]
  | b :: a, h => by rw [List.cons_append, supers, if_neg (h b (List.mem_cons_self ..)), supers_cut r a (fun x hx => h x (List.mem_cons_of_mem _ hx))]
theorem mem_supers (s : Bs) : ∀ l : Bs, s ∈ supers l ↔ (46 :: s) <:+ l
  | [] => by simp [supers]
  | b :: r => by
    have ih := mem_supers s r
    unfold supers
    rw [List.suffix_cons_iff, ← ih]
    by_cases hb : b = 46
    · rw [if_pos hb, List.mem_cons]
      constructor
      · rintro (h | h)
        · exact .inl (by rw [hb, h])
        · exact .inr h
      · rintro (h | h)
        · injection h with h1 h2; exact .inl h2
        · exact .inr h
    · rw [if_neg hb]
      constructor
      · intro h; exact .inr h
      · rintro (h | h)
        · injection h with h1 h2; exact absurd h1.symm hb
        · exact h
theorem supers_len : ∀ l : Bs, ∀ s ∈ supers l, s.length < l.length
  | [], s, h => by simp [supers] at h
  | b :: r, s, h => by
    unfold supers at h
    split at h
    · rcases List.mem_cons.1 h with rfl | h
      · simp
      · have := supers_len r s h; simp; omega
    · have := supers_len r s h; simp; omega
/-- Whether a name covers another one. -/
def coversV (s n : Bs) : Bool := nameV s && nameV n && (decide (s = n) || decide (s ∈ supers n))
end Hs
namespace Hs
open Go
set_option linter.unusedVariables false
set_option linter.unusedSimpArgs false
theorem drop_any (l : Bs) (f : UInt8 → Bool) (k : Nat) (h : k < l.length) : (l.drop k).any f = (f l[k] || (l.drop (k + 1)).any f) := by
  rw [List.drop_eq_getElem_cons h, List.any_cons]
theorem cutD_eq (l : Bs) (c : Nat) (hc : c = (dashI l).toNat) : cutD l = (l.take c, l.drop (if 0 < c then c + 1 else c)) := by
  unfold cutD
  by_cases h : 0 < dashI l
  · rw [if_pos h, if_pos (by omega), hc]
  · have h0 : c = 0 := by omega
    rw [if_neg h, h0]
    rfl
theorem dashI_snoc (l : Bs) (b : UInt8) : dashI (l ++ [b]) = if b = 45 then (l.length : Int) else dashI l := by
  rw [dashI_eq, lastC_snoc, dashI_eq]
theorem cut_snoc_eq (l : Bs) : (dashI (l ++ [45])).toNat = l.length := by rw [dashI_snoc, if_pos rfl]; omega
theorem cut_snoc_ne (l : Bs) {b : UInt8} (h : b ≠ 45) : (dashI (l ++ [b])).toNat = (dashI l).toNat := by rw [dashI_snoc, if_neg h]
theorem numD_nil (i w k bias : Nat) : numD [] i w k bias = none := rfl
theorem numD_bad {b : UInt8} {r : Bs} {i w k bias : Nat} (h : pv b = 99) : numD (b :: r) i w k bias = none := by rw [numD, if_pos h]
theorem numD_far {b : UInt8} {r : Bs} {i w k bias : Nat} (h : pv b ≠ 99) (h2 : 1099511627776 < i + pv b * w) : numD (b :: r) i w k bias = none := by rw [numD, if_neg h, if_pos h2]
theorem numD_end {b : UInt8} {r : Bs} {i w k bias : Nat} (h : pv b ≠ 99) (h2 : ¬ 1099511627776 < i + pv b * w) (h3 : pv b < thr k bias) : numD (b :: r) i w k bias = some (i + pv b * w, r) := by rw [numD, if_neg h, if_neg h2, if_pos h3]
theorem numD_wide {b : UInt8} {r : Bs} {i w k bias : Nat} (h : pv b ≠ 99) (h2 : ¬ 1099511627776 < i + pv b * w) (h3 : ¬ pv b < thr k bias) (h4 : 1099511627776 < w * (36 - thr k bias)) : numD (b :: r) i w k bias = none := by rw [numD, if_neg h, if_neg h2, if_neg h3, if_pos h4]
theorem numD_more {b : UInt8} {r : Bs} {i w k bias : Nat} (h : pv b ≠ 99) (h2 : ¬ 1099511627776 < i + pv b * w) (h3 : ¬ pv b < thr k bias) (h4 : ¬ 1099511627776 < w * (36 - thr k bias)) : numD (b :: r) i w k bias = numD r (i + pv b * w) (w * (36 - thr k bias)) (k + 1) bias := by rw [numD, if_neg h, if_neg h2, if_neg h3, if_neg h4]
theorem putIn_ok {l : List Nat} {i n : Nat} (h : l.all ptOk = true) (hn : ptOk n = true) : (putIn l i n).all ptOk = true := by
  rw [putIn, List.all_append, List.all_cons, hn]
  have h' := List.all_eq_true.1 h
  rw [List.all_eq_true.2 (fun x hx => h' x (List.mem_of_mem_take hx)), List.all_eq_true.2 (fun x hx => h' x (List.mem_of_mem_drop hx))]
  rfl
theorem decR_ok : ∀ (f : Nat) (l : Bs) (n i bias : Nat) (first : Bool) (pts out : List Nat), pts.all ptOk = true → pts.length ≤ 256 → decR f l n i bias first pts = some out → out.all ptOk = true ∧ out.length ≤ 256
  | _, [], _, _, _, _, pts, out, h, hl, e => by
    simp only [decR] at e
    cases e
    exact ⟨h, hl⟩
  | 0, _ :: _, _, _, _, _, _, _, _, _, e => by simp [decR] at e
  | f + 1, b :: r, n, i, bias, first, pts, out, h, hl, e => by
    unfold decR at e
    cases hN : numD (b :: r) i 1 0 bias with
    | none => rw [hN] at e; cases e
    | some p =>
      rw [hN] at e
      simp only at e
      split at e
      · cases e
      · rename_i hp
        split at e
        · cases e
        · rename_i hq
          exact decR_ok f _ _ _ _ _ _ out (putIn_ok h (by simpa using hp)) (by rw [length_putIn]; omega) e
theorem decV_ok {l : Bs} {out : List Nat} (h : decV l = some out) : out.all ptOk = true ∧ out.length ≤ 256 := by
  unfold decV at h
  split at h
  · cases h
  · split at h
    · cases h
    · rename_i ha
      split at h
      · cases h
      · rename_i hc
        refine decR_ok _ _ _ _ _ _ _ out ?_ (by rw [List.length_map]; omega) h
        rw [List.all_map]
        apply List.all_eq_true.2
        intro x hx
        have hx2 : x ∈ l := by
          unfold cutD at hx
          split at hx
          · exact List.mem_of_mem_take hx
          · cases hx
        have hlt : ¬ 128 ≤ x.toNat := by
          intro h128
          apply ha
          exact List.any_eq_true.2 ⟨x, hx2, decide_eq_true h128⟩
        show ptOk x.toNat = true
        unfold ptOk
        apply decide_eq_true
        omega
theorem all_le_pts {l : List Nat} (h : l.all ptOk = true) : ∀ p ∈ l, p ≤ 1114111 := by
  intro p hp
  have := List.all_eq_true.1 h p hp
  exact (of_decide_eq_true this).1
end Hs
