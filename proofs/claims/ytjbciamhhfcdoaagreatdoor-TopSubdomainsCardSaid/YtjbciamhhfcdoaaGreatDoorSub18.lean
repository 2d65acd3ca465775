/- Plain law of layer 10: spellings of an address in the bases 8, 10 and 16 are read as this address. No program in sight. Conditions: none.
   Plain functions of the layer ipv6: groups, two colons, addresses read and written, and their laws. No program in sight. Conditions: none.
   Plain functions of hosts: hexadecimal digits, percent signs. No program in sight. Conditions: none. -/
import Derived.Test.YtjbciamhhfcdoaaGreatDoorSub17
import Derived.Test.YtjbciamhhfcdoaaGreatDoorSub06
namespace Hs
open Go
set_option linter.unusedVariables false
set_option linter.unusedSimpArgs false

/-- A number in a base, with a prefix for the bases 8 and 16. -/
def spell (b n : Nat) : Bs := if b = 8 then 48 :: digsN 8 n else if b = 16 then 48 :: 88 :: digsN 16 n else digsN 10 n
theorem digV46 : digV 46 = 99 := by decide
theorem spell_no46 (b n : Nat) : ∀ x ∈ spell b n, x ≠ 46 := by
  intro x hx
  unfold spell at hx
  split at hx
  · rcases List.mem_cons.1 hx with rfl | hx
    · decide
    · exact digs_no 8 (by decide) (by decide) n 46 digV46 x hx
  · split at hx
    · rcases List.mem_cons.1 hx with rfl | hx
      · decide
      · rcases List.mem_cons.1 hx with rfl | hx
        · decide
        · exact digs_no 16 (by decide) (by decide) n 46 digV46 x hx
    · exact digs_no 10 (by decide) (by decide) n 46 digV46 x hx
theorem spell_ne (b n : Nat) : spell b n ≠ [] := by
  unfold spell
  split
  · simp
  · split
    · simp
    · exact digsN_ne 10 n
theorem hexP_oct (n : Nat) : hexP (48 :: digsN 8 n) = false := by
  have h1 := digs_no 8 (by decide) (by decide) n 120 (by decide)
  have h2 := digs_no 8 (by decide) (by decide) n 88 (by decide)
  cases hd : digsN 8 n with
  | nil => rfl
  | cons d r =>
    rw [hd] at h1 h2
    exact decide_eq_false (by rintro ⟨_, h | h⟩; exact h1 d (List.mem_cons_self ..) h; exact h2 d (List.mem_cons_self ..) h)
theorem numP_spell (b n : Nat) (h : n ≤ 1099511627776) : numP (spell b n) = (n, true) := by
  unfold spell
  split
  · unfold numP
    have hl : 0 < (digsN 8 n).length := List.length_pos_iff.2 (digsN_ne 8 n)
    rw [if_neg (by simp), hexP_oct, if_neg (by decide), if_pos ⟨by simp; omega, rfl⟩]
    exact numB_digs 8 (by decide) (by decide) n h
  · split
    · unfold numP
      have hx : hexP (48 :: 88 :: digsN 16 n) = true := rfl
      rw [if_neg (by simp), hx, if_pos rfl]
      exact numB_digs 16 (by decide) (by decide) n h
    · rw [digs_ten (n + 1) n (by omega)]
      exact numP_dec n h
theorem oct_dig (n : Nat) : (digsN 8 n).all isDigit = true := by
  rw [List.all_eq_true]
  intro x hx
  rw [← digV_lt]
  exact decide_eq_true (by have := digs_digV 8 (by decide) (by decide) n x hx; omega)
theorem numericV_spell (l : Bs) (b n : Nat) (h : (partsD l).getLast? = some (spell b n)) (hn : n ≤ 1099511627776) : numericV l = true := by
  unfold numericV
  rw [h]
  simp only [Option.getD_some]
  rw [numP_spell b n hn, num_ten]
  unfold spell
  split
  · rw [hexP_oct]
    have : ((48 : UInt8) :: digsN 8 n).all isDigit = true := by rw [List.all_cons, oct_dig]; rfl
    rw [this]; rfl
  · split
    · rfl
    · rw [digs_ten (n + 1) n (by omega), hexP_dec, decDigits_all]
      cases he : (Lib.decDigits n).isEmpty
      · rfl
      · exact absurd (by simpa using he) (decDigits_ne n)
theorem joinD_snoc (c : UInt8) (x : Bs) : ∀ (A : List Bs), A ≠ [] → joinD c (A ++ [x]) = joinD c A ++ c :: x
  | [], h => absurd rfl h
  | [p], _ => rfl
  | p :: q :: r, _ => by
    have ih := joinD_snoc c x (q :: r) (by simp)
    show p ++ c :: joinD c (q :: r ++ [x]) = (p ++ c :: joinD c (q :: r)) ++ c :: x
    rw [ih]; simp
theorem split_joinD (c : UInt8) : ∀ (A : List Bs), A ≠ [] → (∀ a ∈ A, ∀ x ∈ a, x ≠ c) → splitD c (joinD c A) = A
  | [], h, _ => absurd rfl h
  | [p], _, h => splitD_none c p (h p (by simp))
  | p :: q :: r, _, h => by
    show splitD c (p ++ c :: joinD c (q :: r)) = _
    rw [splitD_at c _ p (h p (by simp)), split_joinD c (q :: r) (by simp) (fun a ha => h a (List.mem_cons_of_mem _ ha))]
theorem parts_join (A : List Bs) (p : Bs) (h : ∀ a ∈ A ++ [p], ∀ x ∈ a, x ≠ 46) (hp : p ≠ []) : partsD (joinD 46 (A ++ [p])) = A ++ [p] :=
  partsD_of _ _ _ (split_joinD 46 _ (by simp) h) hp
theorem parts_join_dot (A : List Bs) (p : Bs) (h : ∀ a ∈ A ++ [p], ∀ x ∈ a, x ≠ 46) : partsD (joinD 46 (A ++ [p]) ++ [46]) = A ++ [p] := by
  refine partsD_dot _ _ _ ?_
  have e : joinD 46 (A ++ [p]) ++ [46] = joinD 46 ((A ++ [p]) ++ [[]]) := (joinD_snoc 46 [] _ (by simp)).symm
  rw [e]
  refine split_joinD 46 _ (by simp) ?_
  intro a ha
  rcases List.mem_append.1 ha with ha | ha
  · exact h a ha
  · simp at ha; subst ha; simp
/-- The number of the part i of n parts. -/
def partN (v n i : Nat) : Nat := if i + 1 = n then v % 2 ^ (32 - 8 * i) else v / 2 ^ (24 - 8 * i) % 256
/-- The spellings of the first k parts. -/
def spells (f : Nat → Nat) (v n : Nat) : Nat → List Bs
  | 0 => []
  | k + 1 => spells f v n k ++ [spell (f k) (partN v n k)]
theorem spells_len (f : Nat → Nat) (v n : Nat) : ∀ k, (spells f v n k).length = k
  | 0 => rfl
  | k + 1 => by rw [spells, List.length_append, spells_len f v n k]; rfl
theorem spells_no46 (f : Nat → Nat) (v n : Nat) : ∀ k, ∀ a ∈ spells f v n k, ∀ x ∈ a, x ≠ 46
  | 0, a, h => by simp [spells] at h
  | k + 1, a, h => by
    rcases List.mem_append.1 h with h | h
    · exact spells_no46 f v n k a h
    · simp at h; subst h; exact spell_no46 _ _
theorem partN_le (v n i : Nat) (hv : v < 4294967296) : partN v n i ≤ 1099511627776 := by
  unfold partN
  split
  · exact Nat.le_trans (Nat.mod_le _ _) (by omega)
  · have := Nat.mod_lt (v / 2 ^ (24 - 8 * i)) (by decide : 256 > 0); omega
theorem nums_spells (f : Nat → Nat) (v n : Nat) (hn : 1 ≤ n) (h4 : n ≤ 4) (hv : v < 4294967296) (l : Bs) (hl : partsD l = spells f v n n) : numsV l = (v, true) := by
  have hp : ∀ b i, numP (spell b (partN v n i)) = (partN v n i, true) := fun b i => numP_spell b _ (partN_le v n i hv)
  unfold numsV
  rw [hl, spells_len, if_pos h4]
  rcases (by omega : n = 1 ∨ n = 2 ∨ n = 3 ∨ n = 4) with rfl | rfl | rfl | rfl <;>
    simp only [spells, List.nil_append, List.cons_append, numF, hp, Nat.reduceSub, Nat.reduceMul, Nat.reducePow, true_and]
  · have e : partN v 1 0 = v := by simp [partN]; omega
    rw [e, if_pos (by omega)]; simp [optV]
  · have e0 : partN v 2 0 = v / 16777216 % 256 := rfl
    have e1 : partN v 2 1 = v % 16777216 := rfl
    rw [e0, e1, if_pos (by omega), if_pos (by omega)]
    have : (0 * 256 + v / 16777216 % 256) * 16777216 + v % 16777216 = v := by omega
    rw [this]; rfl
  · have e0 : partN v 3 0 = v / 16777216 % 256 := rfl
    have e1 : partN v 3 1 = v / 65536 % 256 := rfl
    have e2 : partN v 3 2 = v % 65536 := rfl
    rw [e0, e1, e2, if_pos (by omega), if_pos (by omega), if_pos (by omega)]
    have : ((0 * 256 + v / 16777216 % 256) * 256 + v / 65536 % 256) * 65536 + v % 65536 = v := by omega
    rw [this]; rfl
  · have e0 : partN v 4 0 = v / 16777216 % 256 := rfl
    have e1 : partN v 4 1 = v / 65536 % 256 := rfl
    have e2 : partN v 4 2 = v / 256 % 256 := rfl
    have e3 : partN v 4 3 = v % 256 := rfl
    rw [e0, e1, e2, e3, if_pos (by omega), if_pos (by omega), if_pos (by omega), if_pos (by omega)]
    have : (((0 * 256 + v / 16777216 % 256) * 256 + v / 65536 % 256) * 256 + v / 256 % 256) * 256 + v % 256 = v := by omega
    rw [this]; rfl
theorem spell_len (b n : Nat) (h : n < 4294967296) : (spell b n).length ≤ 40 := by
  have h8 := digs_len 8 (by decide) 32 n (by omega) (by decide)
  have h10 := digs_len 10 (by decide) 32 n (by omega) (by decide)
  have h16 := digs_len 16 (by decide) 32 n (by omega) (by decide)
  unfold spell
  split
  · simp; omega
  · split
    · simp; omega
    · omega
theorem partN_lt (v n i : Nat) (hv : v < 4294967296) : partN v n i < 4294967296 := by
  unfold partN
  split
  · exact Nat.lt_of_le_of_lt (Nat.mod_le _ _) hv
  · have := Nat.mod_lt (v / 2 ^ (24 - 8 * i)) (by decide : 256 > 0); omega
theorem spells_joined_len (f : Nat → Nat) (v n : Nat) (hv : v < 4294967296) : ∀ k, (joinD 46 (spells f v n k)).length ≤ 41 * k
  | 0 => by simp [spells, joinD]
  | k + 1 => by
    have ih := spells_joined_len f v n hv k
    have hs := spell_len (f k) (partN v n k) (partN_lt v n k hv)
    rw [spells]
    cases k with
    | zero => simp [spells, joinD]; omega
    | succ k =>
      rw [joinD_snoc 46 _ _ (by rw [spells]; simp)]
      simp; omega
/-- The base of a choice. -/
def baseOf (z : Int) : Nat := if z % 3 = 0 then 8 else if z % 3 = 1 then 10 else 16
theorem spells_first (f : Nat → Nat) (v n : Nat) : joinD 46 (spells f v n 1) = spell (f 0) (partN v n 0) := rfl
theorem spells_next (f : Nat → Nat) (v n k : Nat) (h : 0 < k) : joinD 46 (spells f v n (k + 1)) = joinD 46 (spells f v n k) ++ 46 :: spell (f k) (partN v n k) := by
  obtain ⟨k, rfl⟩ : ∃ j, k = j + 1 := ⟨k - 1, by omega⟩
  exact joinD_snoc 46 _ _ (by rw [spells]; simp)
/-- All that the law asks of the text. -/
theorem spells_read (f : Nat → Nat) (v n : Nat) (hn : 1 ≤ n) (h4 : n ≤ 4) (hv : v < 4294967296) :
    numsV (joinD 46 (spells f v n n)) = (v, true) ∧ numsV (joinD 46 (spells f v n n) ++ [46]) = (v, true) ∧ numericV (joinD 46 (spells f v n n)) = true := by
  obtain ⟨k, rfl⟩ : ∃ k, n = k + 1 := ⟨n - 1, by omega⟩
  have hno := spells_no46 f v (k + 1) (k + 1)
  have e1 : partsD (joinD 46 (spells f v (k + 1) (k + 1))) = spells f v (k + 1) (k + 1) := parts_join _ _ hno (spell_ne _ _)
  have e2 : partsD (joinD 46 (spells f v (k + 1) (k + 1)) ++ [46]) = spells f v (k + 1) (k + 1) := parts_join_dot _ _ hno
  refine ⟨nums_spells f v _ hn h4 hv _ e1, nums_spells f v _ hn h4 hv _ e2, numericV_spell _ (f k) (partN v (k + 1) k) ?_ (partN_le _ _ _ hv)⟩
  rw [e1, spells]; simp
end Hs
namespace Hs
open Go
set_option linter.unusedVariables false
set_option linter.unusedSimpArgs false

/-! ### Groups -/
/-- The number of a group of one to four digits. -/
def grpV (l : Bs) : Option Nat := if 1 ≤ l.length ∧ l.length ≤ 4 ∧ allB 16 l = true then some (valB 16 l 0) else none
theorem valB_lt : ∀ (l : Bs) (n k : Nat), allB 16 l = true → n < 16 ^ k → valB 16 l n < 16 ^ (k + l.length)
  | [], n, k, _, h => by simpa [valB] using h
  | b :: r, n, k, ha, h => by
    have h1 : digV b < 16 := by
      have := (List.all_eq_true.1 ha) b (List.mem_cons_self ..)
      exact of_decide_eq_true this
    have h2 : allB 16 r = true := by
      unfold allB at ha ⊢
      rw [List.all_cons, Bool.and_eq_true] at ha
      exact ha.2
    have h3 : n * 16 + digV b < 16 ^ (k + 1) := by rw [Nat.pow_succ]; omega
    have := valB_lt r (n * 16 + digV b) (k + 1) h2 h3
    rw [valB, List.length_cons, ← Nat.add_assoc, Nat.add_right_comm]
    exact this
theorem grpV_lt {l : Bs} {g : Nat} (h : grpV l = some g) : g < 65536 := by
  unfold grpV at h
  split at h
  · rename_i hc
    cases h
    have h1 := valB_lt l 0 0 hc.2.2 (by decide)
    have h2 : (16 : Nat) ^ (0 + l.length) ≤ 16 ^ 4 := Nat.pow_le_pow_right (by decide) (by omega)
    omega
  · cases h
/-- The groups of parts, behind groups that are read already. -/
def grpsA (last : Bool) : List Bs → List Nat → Option (List Nat)
  | [], acc => some acc
  | x :: r, acc => match grpV x with
    | some g => grpsA last r (acc ++ [g])
    | none => if (parseV x).2 = true ∧ last = true ∧ r = [] then some (acc ++ [(parseV x).1 / 65536, (parseV x).1 % 65536]) else none
/-- Groups that are separated by colons. -/
def grpsV (l : Bs) (last : Bool) : Option (List Nat) := if l = [] then some [] else grpsA last (splitD 58 l) []
theorem optV_lt {o : Option Nat} (h : ∀ v, o = some v → v < 4294967296) : (optV o).1 < 4294967296 := by
  cases o with
  | none => exact by decide
  | some v => exact h v rfl
theorem strF_lt : ∀ (L : List Bs) (v k : Nat), v < 256 ^ k → ∀ u, strF L v = some u → u < 256 ^ (k + L.length)
  | [], v, k, h, u, e => by simp [strF] at e; subst e; simpa using h
  | p :: r, v, k, h, u, e => by
    unfold strF at e
    cases hp : strN p with
    | none => rw [hp] at e; cases e
    | some n =>
      rw [hp] at e
      have hn := strN_le hp
      have := strF_lt r (v * 256 + n) (k + 1) (by rw [Nat.pow_succ]; omega) u e
      rw [List.length_cons, ← Nat.add_assoc, Nat.add_right_comm]
      exact this
theorem parseV_lt (l : Bs) : (parseV l).1 < 4294967296 := by
  unfold parseV
  split
  · rename_i h4
    refine optV_lt fun v hv => ?_
    have := strF_lt _ 0 0 (by decide) v hv
    rw [h4] at this
    exact this
  · exact by decide
theorem grpsA_lt (last : Bool) : ∀ (L : List Bs) (acc : List Nat), (∀ x ∈ acc, x < 65536) → ∀ y, grpsA last L acc = some y → ∀ x ∈ y, x < 65536
  | [], acc, h, y, e => by simp [grpsA] at e; subst e; exact h
  | p :: r, acc, h, y, e => by
    unfold grpsA at e
    cases hp : grpV p with
    | some g =>
      rw [hp] at e
      refine grpsA_lt last r (acc ++ [g]) ?_ y e
      intro x hx
      rcases List.mem_append.1 hx with hx | hx
      · exact h x hx
      · simp at hx; subst hx; exact grpV_lt hp
    | none =>
      rw [hp] at e
      simp only at e
      split at e
      · cases e
        have := parseV_lt p
        intro x hx
        rcases List.mem_append.1 hx with hx | hx
        · exact h x hx
        · simp at hx; rcases hx with rfl | rfl <;> omega
      · cases e
theorem grpsV_lt {l : Bs} {last : Bool} {y : List Nat} (h : grpsV l last = some y) : ∀ x ∈ y, x < 65536 := by
  unfold grpsV at h
  split at h
  · cases h; simp
  · exact grpsA_lt last _ [] (by simp) y h
theorem grpsA_len (last : Bool) : ∀ (L : List Bs) (acc : List Nat) (y : List Nat), grpsA last L acc = some y → y.length ≤ acc.length + L.length + 1
  | [], acc, y, e => by simp [grpsA] at e; subst e; omega
  | p :: r, acc, y, e => by
    unfold grpsA at e
    cases hp : grpV p with
    | some g =>
      rw [hp] at e
      have := grpsA_len last r (acc ++ [g]) y e
      simp at this ⊢; omega
    | none =>
      rw [hp] at e
      simp only at e
      split at e
      · cases e; simp <;> omega
      · cases e
/-! ### Two colons -/
/-- What stands before and behind the first two colons. -/
def cut2 : Bs → Option (Bs × Bs)
  | [] => none
  | b :: r => if b = 58 ∧ r.head? = some 58 then some ([], r.drop 1) else match cut2 r with
    | some p => some (b :: p.1, p.2)
    | none => none
/-- A text put in front of what was cut. -/
def front (a : Bs) : Option (Bs × Bs) → Option (Bs × Bs)
  | some p => some (a ++ p.1, p.2)
  | none => none
theorem front_nil (o : Option (Bs × Bs)) : front [] o = o := by cases o <;> rfl
theorem front_front (a b : Bs) (o : Option (Bs × Bs)) : front a (front b o) = front (a ++ b) o := by cases o <;> simp [front]
theorem cut2_cons (b : UInt8) (r : Bs) (h : ¬ (b = 58 ∧ r.head? = some 58)) : cut2 (b :: r) = front [b] (cut2 r) := by
  rw [cut2, if_neg h]
  cases cut2 r <;> rfl
theorem cut2_app (t : Bs) : ∀ a : Bs, (∀ x ∈ a, x ≠ 58) → cut2 (a ++ t) = front a (cut2 t)
  | [], _ => (front_nil _).symm
  | b :: a, h => by
    rw [List.cons_append, cut2_cons b _ (fun e => h b (List.mem_cons_self ..) e.1), cut2_app t a (fun x hx => h x (List.mem_cons_of_mem _ hx)), front_front]
    rfl
theorem cut2_at (r : Bs) : cut2 (58 :: 58 :: r) = some ([], r) := by
  rw [cut2, if_pos ⟨rfl, rfl⟩]
  try rfl
/-- Parts that are not empty and hold no colon. -/
def Solid (L : List Bs) : Prop := ∀ a ∈ L, a ≠ [] ∧ ∀ x ∈ a, x ≠ 58
theorem head_join (q : Bs) (L : List Bs) (t : Bs) (hq : q ≠ []) : (joinD 58 (q :: L) ++ t).head? = q.head? := by
  cases q with
  | nil => exact absurd rfl hq
  | cons b q => cases L <;> rfl
theorem cut2_join (r : Bs) : ∀ L : List Bs, Solid L → cut2 (joinD 58 L ++ 58 :: 58 :: r) = some (joinD 58 L, r)
  | [], _ => cut2_at r
  | [p], h => by
    show cut2 (p ++ 58 :: 58 :: r) = _
    rw [cut2_app _ p (h p (by simp)).2, cut2_at]
    simp [front, joinD]
  | p :: q :: L, h => by
    have ih := cut2_join r (q :: L) (fun a ha => h a (List.mem_cons_of_mem _ ha))
    have hq := h q (by simp)
    show cut2 ((p ++ 58 :: joinD 58 (q :: L)) ++ 58 :: 58 :: r) = _
    rw [List.append_assoc, cut2_app _ p (h p (by simp)).2, List.cons_append, cut2_cons, ih]
    · simp [front, joinD]
    · rintro ⟨_, e⟩
      rw [head_join q L _ hq.1] at e
      exact hq.2 58 (by cases q with | nil => exact absurd rfl hq.1 | cons b q => simp at e; simp [e]) rfl
theorem cut2_none : ∀ L : List Bs, Solid L → cut2 (joinD 58 L) = none
  | [], _ => rfl
  | [p], h => by
    have := cut2_app [] p (h p (by simp)).2
    rw [List.append_nil] at this
    show cut2 p = none
    rw [this]; rfl
  | p :: q :: L, h => by
    have ih := cut2_none (q :: L) (fun a ha => h a (List.mem_cons_of_mem _ ha))
    have hq := h q (by simp)
    show cut2 (p ++ 58 :: joinD 58 (q :: L)) = _
    rw [cut2_app _ p (h p (by simp)).2, cut2_cons, ih]
    · rfl
    · rintro ⟨_, e⟩
      have := head_join q L [] hq.1
      rw [List.append_nil] at this
      rw [this] at e
      exact hq.2 58 (by cases q with | nil => exact absurd rfl hq.1 | cons b q => simp at e; simp [e]) rfl
theorem cut2_some : ∀ {l : Bs} {p : Bs × Bs}, cut2 l = some p → l = p.1 ++ 58 :: 58 :: p.2
  | [], p, h => by cases h
  | b :: r, p, h => by
    rw [cut2] at h
    split at h
    · rename_i hc
      cases h
      obtain ⟨rfl, h2⟩ := hc
      cases r with
      | nil => cases h2
      | cons c r => simp at h2; subst h2; rfl
    · cases hr : cut2 r with
      | none => rw [hr] at h; cases h
      | some q =>
        rw [hr] at h
        cases h
        show b :: r = _
        rw [cut2_some hr]; rfl
/-! ### Reading -/
/-- The address with a text. -/
def parse6 (l : Bs) : Option (List Nat) := match cut2 l with
  | none => match grpsV l true with
    | some x => if x.length = 8 then some x else none
    | none => none
  | some p => match grpsV p.1 false, grpsV p.2 true with
    | some x, some y => if x.length + y.length ≤ 7 then some (x ++ (List.replicate (8 - x.length - y.length) 0 ++ y)) else none
    | _, _ => none
/-- Eight groups. -/
def Addr6 (a : List Nat) : Prop := a.length = 8 ∧ ∀ x ∈ a, x < 65536
theorem parse6_addr {l : Bs} {a : List Nat} (h : parse6 l = some a) : Addr6 a := by
  unfold parse6 at h
  split at h
  · split at h
    · rename_i x hx
      split at h
      · rename_i h8
        cases h
        exact ⟨h8, grpsV_lt hx⟩
      · cases h
    · cases h
  · split at h
    · rename_i x y hx hy
      split at h
      · rename_i h7
        cases h
        refine ⟨by simp; omega, ?_⟩
        intro z hz
        rcases List.mem_append.1 hz with hz | hz
        · exact grpsV_lt hx z hz
        · rcases List.mem_append.1 hz with hz | hz
          · rw [List.mem_replicate] at hz; omega
          · exact grpsV_lt hy z hz
      · cases h
    · cases h
/-- A result as the program hands it back: eight groups, and whether it is good. -/
def res6 : Option (List Nat) → List Nat × Bool
  | some a => (a, true)
  | none => ([0, 0, 0, 0, 0, 0, 0, 0], false)
/-! ### Writing -/
/-- The text of a group. -/
def hexT (g : Nat) : Bs := digsN 16 g
/-- How many groups 0 stand at the beginning. -/
def runZ : List Nat → Nat
  | [] => 0
  | x :: r => if x = 0 then runZ r + 1 else 0
theorem runZ_le : ∀ l : List Nat, runZ l ≤ l.length
  | [] => Nat.le_refl _
  | x :: r => by
    unfold runZ
    have := runZ_le r
    split <;> simp <;> omega
theorem runZ_take : ∀ l : List Nat, l.take (runZ l) = List.replicate (runZ l) 0
  | [] => rfl
  | x :: r => by
    unfold runZ
    split
    · rename_i h; subst h; rw [List.take_succ_cons, runZ_take r, List.replicate_succ]
    · rfl
/-- The longest sequence of groups 0, the first one of several. -/
def bestZ : List Nat → Nat → Nat × Nat → Nat × Nat
  | [], _, b => b
  | x :: r, i, b => bestZ r (i + 1) (if b.2 < runZ (x :: r) then (i, runZ (x :: r)) else b)
/-- A sequence of groups 0 of a list. -/
def GoodZ (a : List Nat) (b : Nat × Nat) : Prop := b.1 + b.2 ≤ a.length ∧ (a.drop b.1).take b.2 = List.replicate b.2 0
theorem bestZ_good (a : List Nat) : ∀ (l : List Nat) (i : Nat) (b : Nat × Nat), a.drop i = l → i + l.length = a.length → GoodZ a b → GoodZ a (bestZ l i b)
  | [], i, b, _, _, h => h
  | x :: r, i, b, hd, hl, h => by
    unfold bestZ
    refine bestZ_good a r (i + 1) _ ?_ (by simp at hl; omega) ?_
    · rw [← List.drop_drop, hd]; rfl
    · split
      · refine ⟨?_, ?_⟩
        · have := runZ_le (x :: r); simp at hl this ⊢; omega
        · show (a.drop i).take _ = _
          rw [hd, runZ_take]
      · exact h
/-- The groups, colons between them. -/
def join6 (l : List Nat) : Bs := joinD 58 (l.map hexT)
/-- The text of an address, with the sequence that is left out. -/
def fmtZ (l : List Nat) (z : Nat × Nat) : Bs := if z.2 < 2 then join6 l else join6 (l.take z.1) ++ 58 :: 58 :: join6 (l.drop (z.1 + z.2))
/-- The text of an address. -/
def fmt6 (l : List Nat) : Bs := fmtZ l (bestZ l 0 (0, 0))
theorem digV58 : digV 58 = 99 := by decide
theorem hexT_solid (g : Nat) : hexT g ≠ [] ∧ ∀ x ∈ hexT g, x ≠ 58 := ⟨digsN_ne 16 g, digs_no 16 (by decide) (by decide) g 58 digV58⟩
theorem solid_map (l : List Nat) : Solid (l.map hexT) := by
  intro a ha
  obtain ⟨g, _, rfl⟩ := List.mem_map.1 ha
  exact hexT_solid g
theorem hexT_len (g : Nat) (h : g < 65536) : (hexT g).length ≤ 4 := digs_len 16 (by decide) 4 g h (by decide)
theorem grpV_hexT (g : Nat) (h : g < 65536) : grpV (hexT g) = some g := by
  unfold grpV
  rw [if_pos ⟨List.length_pos_iff.2 (digsN_ne 16 g), hexT_len g h, allB_digs 16 (by decide) (by decide) g⟩]
  exact congrArg some (valB_digs 16 (by decide) (by decide) (g + 1) g (by omega))
theorem grpsA_hexT (last : Bool) : ∀ (l acc : List Nat), (∀ x ∈ l, x < 65536) → grpsA last (l.map hexT) acc = some (acc ++ l)
  | [], acc, _ => by simp [grpsA]
  | g :: l, acc, h => by
    rw [List.map_cons, grpsA, grpV_hexT g (h g (List.mem_cons_self ..))]
    simp only
    rw [grpsA_hexT last l _ (fun x hx => h x (List.mem_cons_of_mem _ hx))]
    simp
theorem joinD_ne (q : Bs) (L : List Bs) (hq : q ≠ []) : joinD 58 (q :: L) ≠ [] := by
  cases q with
  | nil => exact absurd rfl hq
  | cons b q => cases L <;> simp [joinD]
theorem grpsV_join6 (last : Bool) (l : List Nat) (h : ∀ x ∈ l, x < 65536) : grpsV (join6 l) last = some l := by
  unfold grpsV join6
  cases l with
  | nil => rfl
  | cons g l =>
    have hne : joinD 58 ((g :: l).map hexT) ≠ [] := joinD_ne _ _ (hexT_solid g).1
    rw [if_neg hne, split_joinD 58 _ (by simp) (fun a ha => (solid_map (g :: l) a ha).2), grpsA_hexT last _ [] h]
    rfl
theorem split_zeros (a : List Nat) (z : Nat × Nat) (h : GoodZ a z) : a = a.take z.1 ++ (List.replicate z.2 0 ++ a.drop (z.1 + z.2)) := by
  rw [← h.2, ← List.drop_drop, List.take_append_drop, List.take_append_drop]
theorem best_good (a : List Nat) : GoodZ a (bestZ a 0 (0, 0)) := bestZ_good a a 0 (0, 0) rfl (by simp) ⟨by simp, by simp⟩
theorem parse6_fmt (a : List Nat) (h : Addr6 a) : parse6 (fmt6 a) = some a := by
  have hg := best_good a
  unfold fmt6 fmtZ
  generalize bestZ a 0 (0, 0) = z at hg
  split
  · unfold parse6
    have : cut2 (join6 a) = none := cut2_none _ (solid_map a)
    rw [this]
    simp only
    rw [grpsV_join6 true a h.2]
    simp [h.1]
  · rename_i hz
    unfold parse6
    have : cut2 (join6 (a.take z.1) ++ 58 :: 58 :: join6 (a.drop (z.1 + z.2))) = some (join6 (a.take z.1), join6 (a.drop (z.1 + z.2))) := cut2_join _ _ (solid_map _)
    rw [this]
    simp only
    rw [grpsV_join6 false _ (fun x hx => h.2 x (List.mem_of_mem_take hx)), grpsV_join6 true _ (fun x hx => h.2 x (List.mem_of_mem_drop hx))]
    simp only
    have h1 := hg.1
    have h8 := h.1
    have hl1 : (a.take z.1).length = z.1 := by rw [List.length_take]; omega
    have hl2 : (a.drop (z.1 + z.2)).length = 8 - (z.1 + z.2) := by rw [List.length_drop]; omega
    rw [hl1, hl2, if_pos (by omega)]
    congr 1
    have e : 8 - z.1 - (8 - (z.1 + z.2)) = z.2 := by omega
    rw [e]
    exact (split_zeros a z hg).symm
theorem fmt6_inj {a b : List Nat} (ha : Addr6 a) (hb : Addr6 b) (h : fmt6 a = fmt6 b) : a = b := by
  have h1 := parse6_fmt a ha
  rw [h, parse6_fmt b hb] at h1
  exact (Option.some.inj h1).symm
theorem join6_len : ∀ l : List Nat, (∀ x ∈ l, x < 65536) → (join6 l).length ≤ 5 * l.length
  | [], _ => by simp [join6, joinD]
  | [g], h => by
    have := hexT_len g (h g (by simp))
    show (hexT g).length ≤ _
    simp; omega
  | g :: k :: l, h => by
    have ih := join6_len (k :: l) (fun x hx => h x (List.mem_cons_of_mem _ hx))
    have := hexT_len g (h g (by simp))
    show (hexT g ++ 58 :: join6 (k :: l)).length ≤ _
    simp at ih ⊢; omega
theorem fmt6_len (a : List Nat) (h : Addr6 a) : (fmt6 a).length ≤ 44 := by
  have hg := best_good a
  have h8 := h.1
  unfold fmt6 fmtZ
  generalize bestZ a 0 (0, 0) = z at hg
  have h1 := hg.1
  split
  · have := join6_len a h.2
    omega
  · have e1 := join6_len (a.take z.1) (fun x hx => h.2 x (List.mem_of_mem_take hx))
    have e2 := join6_len (a.drop (z.1 + z.2)) (fun x hx => h.2 x (List.mem_of_mem_drop hx))
    rw [List.length_take] at e1
    rw [List.length_drop] at e2
    simp; omega
end Hs
namespace Hs
open Go
set_option linter.unusedVariables false
set_option linter.unusedSimpArgs false
/-- The value of a hexadecimal digit, or -1. -/
def hxI (b : UInt8) : Int := if 48 ≤ b.toNat ∧ b.toNat ≤ 57 then (b.toNat : Int) - 48 else if 97 ≤ b.toNat ∧ b.toNat ≤ 102 then (b.toNat : Int) - 97 + 10 else if 65 ≤ b.toNat ∧ b.toNat ≤ 70 then (b.toNat : Int) - 65 + 10 else -1
theorem hxI_cases (b : UInt8) : (48 ≤ b.toNat ∧ b.toNat ≤ 57 ∧ hxI b = (b.toNat : Int) - 48) ∨ (97 ≤ b.toNat ∧ b.toNat ≤ 102 ∧ hxI b = (b.toNat : Int) - 97 + 10) ∨ (65 ≤ b.toNat ∧ b.toNat ≤ 70 ∧ hxI b = (b.toNat : Int) - 65 + 10) ∨ (¬ (48 ≤ b.toNat ∧ b.toNat ≤ 57) ∧ ¬ (97 ≤ b.toNat ∧ b.toNat ≤ 102) ∧ ¬ (65 ≤ b.toNat ∧ b.toNat ≤ 70) ∧ hxI b = -1) := by
  unfold hxI
  split
  · omega
  · split
    · omega
    · split <;> omega
theorem hxI_bounds (b : UInt8) : -1 ≤ hxI b ∧ hxI b < 16 := by have := hxI_cases b; omega
/-- Percent signs with two digits replaced by bytes. -/
def pctV : Bs → Option Bs
  | [] => some []
  | b :: r =>
    if b ≠ 37 then (pctV r).map (b :: ·)
    else match r with
      | x :: y :: q => if hxI x < 0 ∨ hxI y < 0 then none else (pctV q).map (UInt8.ofNat (16 * hxI x + hxI y).toNat :: ·)
      | _ => none
theorem pctV_plain {b : UInt8} {r : Bs} (h : b ≠ 37) : pctV (b :: r) = (pctV r).map (b :: ·) := by
  rw [pctV.eq_def]
  simp only
  rw [if_pos h]
theorem pctV_pct {x y : UInt8} {q : Bs} (hx : ¬ hxI x < 0) (hy : ¬ hxI y < 0) : pctV (37 :: x :: y :: q) = (pctV q).map (UInt8.ofNat (16 * hxI x + hxI y).toNat :: ·) := by
  rw [pctV.eq_def]
  simp only
  rw [if_neg (by simp), if_neg (by rintro (h | h) <;> contradiction)]
theorem pctV_bad {x y : UInt8} {q : Bs} (h : hxI x < 0 ∨ hxI y < 0) : pctV (37 :: x :: y :: q) = none := by
  rw [pctV.eq_def]
  simp only
  rw [if_neg (by simp), if_pos h]
theorem pctV_short {r : Bs} (h : r.length < 2) : pctV (37 :: r) = none := by
  match r, h with
  | [], _ => rw [pctV.eq_def]; simp
  | [x], _ => rw [pctV.eq_def]; simp
/-- What is read already, and the rest. -/
def pctA (o r : Bs) : Option Bs := (pctV r).map (o ++ ·)
theorem pctA_plain {b : UInt8} {o r : Bs} (h : b ≠ 37) : pctA o (b :: r) = pctA (o ++ [b]) r := by
  unfold pctA
  rw [pctV_plain h]
  cases pctV r <;> simp
theorem pctA_pct {x y : UInt8} {o q : Bs} (hx : ¬ hxI x < 0) (hy : ¬ hxI y < 0) : pctA o (37 :: x :: y :: q) = pctA (o ++ [UInt8.ofNat (16 * hxI x + hxI y).toNat]) q := by
  unfold pctA
  rw [pctV_pct hx hy]
  cases pctV q <;> simp
theorem pctA_nil (o : Bs) : pctA o [] = some o := by simp [pctA, pctV]
theorem pctA_none {o r : Bs} (h : pctV r = none) : pctA o r = none := by rw [pctA, h]; rfl
theorem pctV_len : ∀ (n : Nat) (l o : Bs), l.length ≤ n → pctV l = some o → o.length ≤ l.length
  | _, [], o, _, h => by simp [pctV] at h; subst h; simp
  | 0, b :: r, o, hn, h => by simp at hn
  | n + 1, b :: r, o, hn, h => by
    simp only [List.length_cons] at hn
    by_cases hb : b = 37
    · subst hb
      match r, h, hn with
      | [], h, _ => rw [pctV_short (by simp)] at h; cases h
      | [x], h, _ => rw [pctV_short (by simp)] at h; cases h
      | x :: y :: q, h, hn =>
        by_cases hxy : hxI x < 0 ∨ hxI y < 0
        · rw [pctV_bad hxy] at h; cases h
        · rw [pctV_pct (fun e => hxy (.inl e)) (fun e => hxy (.inr e))] at h
          cases hq : pctV q with
          | none => rw [hq] at h; cases h
          | some z =>
            rw [hq] at h
            cases h
            have := pctV_len n q z (by simp at hn; omega) hq
            simp
            omega
    · rw [pctV_plain hb] at h
      cases hr : pctV r with
      | none => rw [hr] at h; cases h
      | some z =>
        rw [hr] at h
        cases h
        have := pctV_len n r z (by omega) hr
        simp
        omega
end Hs
