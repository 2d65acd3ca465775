/- Plain law of the layer sts: exchanging two directives changes nothing. No program in sight. Conditions: none. -/
import Derived.Test.YtjdkmidajhbefaaPlainSts
import Derived.Test.YtjdkmidajhbefaaPlainDirM
namespace Hs
/-- The list with two elements exchanged. -/
def swapD (l : List Dir) (a b : Nat) (ha : a < l.length) (hb : b < l.length) : List Dir := (l.set a l[b]).set b l[a]
theorem swapD_perm (l : List Dir) (a b : Nat) (ha : a < l.length) (hb : b < l.length) : (swapD l a b ha hb).Perm l := by
  have h := Array.swap_perm (xs := l.toArray) (i := a) (j := b) (by simpa using ha) (by simpa using hb)
  have e : (l.toArray.swap a b (by simpa using ha) (by simpa using hb)).toList = swapD l a b ha hb := by
    simp [Array.swap, swapD]
  rw [Array.perm_iff_toList_perm, e] at h
  exact h
theorem swapD_length (l : List Dir) (a b : Nat) (ha : a < l.length) (hb : b < l.length) : (swapD l a b ha hb).length = l.length := by simp [swapD]
theorem names_inj : ∀ (l : List Dir) (d e : Dir), (namesD l).Nodup → d ∈ l → e ∈ l → d.1 = e.1 → d = e
  | [], _, _, _, h, _, _ => by cases h
  | x :: l, d, e, hn, hd, he, hde => by
    have e1 : namesD (x :: l) = x.1 :: namesD l := rfl
    rw [e1, List.nodup_cons] at hn
    have hm : ∀ y : Dir, y ∈ l → y.1 ∈ namesD l := fun y hy => List.mem_map.2 ⟨y, hy, rfl⟩
    rcases List.mem_cons.1 hd with h1 | h1
    · rcases List.mem_cons.1 he with h2 | h2
      · rw [h1, h2]
      · exact absurd (by rw [← h1, hde]; exact hm e h2) hn.1
    · rcases List.mem_cons.1 he with h2 | h2
      · exact absurd (by rw [← h2, ← hde]; exact hm d h1) hn.1
      · exact names_inj l d e hn.2 h1 h2 hde
theorem findD_mem (l : List Dir) (n : Bs) (d : Dir) (h : findD l n = some d) : d ∈ l ∧ d.1 = n := by
  unfold findD at h
  exact ⟨List.mem_of_find?_eq_some h, by have := List.find?_some h; simpa using this⟩
theorem findD_perm (l m : List Dir) (hp : m.Perm l) (hn : (namesD l).Nodup) (n : Bs) : findD m n = findD l n := by
  have hnm : (namesD m).Perm (namesD l) := List.Perm.map _ hp
  cases hl : findD l n with
  | none =>
    have h1 : n ∉ namesD l := (findD_none l n).1 (by rw [hl]; rfl)
    have h2 : (findD m n).isSome = false := (findD_none m n).2 (fun h => h1 (hnm.mem_iff.1 h))
    cases hm : findD m n with
    | none => rfl
    | some x => rw [hm] at h2; cases h2
  | some d =>
    obtain ⟨hd, hdn⟩ := findD_mem l n d hl
    have h2 : (findD m n).isSome = true := (findD_some m n).2 (hnm.mem_iff.2 (List.mem_map.2 ⟨d, hd, hdn⟩))
    cases hm : findD m n with
    | none => rw [hm] at h2; cases h2
    | some x =>
      obtain ⟨hx, hxn⟩ := findD_mem m n x hm
      rw [names_inj l x d hn (hp.mem_iff.1 hx) hd (hxn.trans hdn.symm)]
theorem stsL_perm (l m : List Dir) (hp : m.Perm l) : stsL m = stsL l := by
  have hnm : (namesD m).Perm (namesD l) := List.Perm.map _ hp
  unfold stsL
  by_cases h : (namesD l).Nodup
  · rw [if_pos h, if_pos (hnm.nodup_iff.2 h), findD_perm l m hp h, findD_perm l m hp h]
  · rw [if_neg h, if_neg (fun x => h (hnm.nodup_iff.1 x))]
/-- The policies of two texts of the same directives in another order. -/
theorem stsP_perm (l m : List Dir) (hp : m.Perm l) (s t : Bs) (hs : formatD l = (s, 0)) (ht : formatD m = (t, 0)) : stsP t = stsP s := by
  have h1 := (parseD_format l (by rw [hs])).2
  have h2 := (parseD_format m (by rw [ht])).2
  rw [hs] at h1
  rw [ht] at h2
  unfold stsP
  rw [h1, h2]
  unfold stsR
  simp only [if_true]
  exact stsL_perm l m hp
theorem swapD_get (l : List Dir) (a b : Nat) (ha : a < l.length) (hb : b < l.length) (i : Nat) (h : i < l.length) : (swapD l a b ha hb)[i]'(by rw [swapD_length]; exact h) = if i = b then l[a] else if i = a then l[b] else l[i] := by
  show ((l.set a l[b]).set b l[a])[i]'(by simpa using h) = _
  rw [List.getElem_set]
  by_cases h1 : b = i
  · rw [if_pos h1, if_pos h1.symm]
  · rw [if_neg h1, if_neg (fun e => h1 e.symm), List.getElem_set]
    by_cases h2 : a = i
    · rw [if_pos h2, if_pos h2.symm]
    · rw [if_neg h2, if_neg (fun e => h2 e.symm)]
end Hs
