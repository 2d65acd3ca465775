/- Plain functions of the layer sts: the policy that a list of directives states. No program in sight. Conditions: none. -/
import Derived.Test.YtjdkmidajhbefaaDoorPlainDirL
import Derived.Test.YtjdkmidajhbefaaDoorPlainSeconds
namespace Hs
def ageN : Bs := [109, 97, 120, 45, 97, 103, 101]
def subN : Bs := [105, 110, 99, 108, 117, 100, 101, 115, 117, 98, 100, 111, 109, 97, 105, 110, 115]
/-- The first directive with a name. -/
def findD (l : List Dir) (n : Bs) : Option Dir := l.find? (fun d => d.1 == n)
def dirOf (o : Option Dir) : Dir := o.getD ([], [], false)
def namesD (l : List Dir) : List Bs := l.map (·.1)
/-- What the two directives state: whether the first is there, its number, whether the second is there, whether it has a value. -/
def stsB (ai ok : Bool) (sv : Nat) (bi bv : Bool) : (Int × Bool) × Int :=
  if (ai = true ∧ ok = false) ∨ bv = true then ((0, false), 6)
  else if ai = true then (((sv : Int), bi), 0) else ((0, false), 18)
def stsL (l : List Dir) : (Int × Bool) × Int :=
  if (namesD l).Nodup then stsB (findD l ageN).isSome (secR (dirOf (findD l ageN)).2.1).2 (secR (dirOf (findD l ageN)).2.1).1 (findD l subN).isSome (dirOf (findD l subN)).2.2
  else ((0, false), 17)
theorem stsL_dup (l : List Dir) (h : ¬ (namesD l).Nodup) : stsL l = ((0, false), 17) := by unfold stsL; rw [if_neg h]
theorem stsL_ok (l : List Dir) (h : (namesD l).Nodup) : stsL l = stsB (findD l ageN).isSome (secR (dirOf (findD l ageN)).2.1).2 (secR (dirOf (findD l ageN)).2.1).1 (findD l subN).isSome (dirOf (findD l subN)).2.2 := by unfold stsL; rw [if_pos h]
def stsR (r : List Dir × Int) : (Int × Bool) × Int := if r.2 = 0 then stsL r.1 else ((0, false), r.2)
/-- What Parse returns. -/
def stsP (l : Bs) : (Int × Bool) × Int := stsR (parseD l)

theorem findD_snoc (l : List Dir) (d : Dir) (n : Bs) : findD (l ++ [d]) n = if (findD l n).isSome then findD l n else (if d.1 = n then some d else none) := by
  unfold findD
  rw [List.find?_append]
  cases h : l.find? (fun d => d.1 == n) with
  | some x => simp
  | none =>
    by_cases hd : d.1 = n
    · simp [hd]
    · have : (d.1 == n) = false := by simpa using hd
      simp [hd, List.find?, this]
theorem findD_some (l : List Dir) (n : Bs) : (findD l n).isSome = true ↔ n ∈ namesD l := by
  unfold findD namesD
  rw [List.find?_isSome, List.mem_map]
  constructor
  · rintro ⟨d, hd, he⟩
    exact ⟨d, hd, by simpa using he⟩
  · rintro ⟨d, hd, he⟩
    exact ⟨d, hd, by simpa using he⟩
theorem findD_none (l : List Dir) (n : Bs) : (findD l n).isSome = false ↔ n ∉ namesD l := by
  rw [← findD_some]; cases (findD l n).isSome <;> simp
theorem namesD_take (l : List Dir) (k : Nat) (h : k < l.length) : namesD (l.take (k + 1)) = namesD (l.take k) ++ [l[k].1] := by
  unfold namesD
  rw [List.take_succ_eq_append_getElem h, List.map_append]; rfl
/-- Where a name occurs a second time the list is none. -/
theorem dup_at (l : List Dir) (k : Nat) (h : k < l.length) (hf : (findD (l.take k) l[k].1).isSome = true) : ¬ (namesD l).Nodup := by
  intro hn
  rw [findD_some] at hf
  have e : namesD l = namesD (l.take k) ++ namesD (l.drop k) := by unfold namesD; rw [← List.map_append, List.take_append_drop]
  rw [e, List.nodup_append] at hn
  have : l[k].1 ∈ namesD (l.drop k) := List.mem_map.2 ⟨l[k], by rw [List.drop_eq_getElem_cons h]; exact List.mem_cons_self, rfl⟩
  exact hn.2.2 _ hf _ this rfl
theorem nodup_step (l : List Dir) (k : Nat) (h : k < l.length) (hn : (namesD (l.take k)).Nodup) (hf : (findD (l.take k) l[k].1).isSome = false) : (namesD (l.take (k + 1))).Nodup := by
  rw [namesD_take l k h, List.nodup_append]
  rw [findD_none] at hf
  refine ⟨hn, by simp, fun a ha b hb => ?_⟩
  simp only [List.mem_singleton] at hb
  subst hb
  exact fun e => hf (e ▸ ha)
/-- A directive without a value has none. -/
def bareD (l : List Dir) : Prop := ∀ d ∈ l, d.2.2 = false → d.2.1 = []
theorem elemI_bare' (l : Bs) (i : Nat) (p : Dir × Nat) (h : elemI l i = some p) : p.1.2.2 = false → p.1.2.1 = [] := by
  by_cases ht : i < tokEnd l i
  · by_cases he : atN l (blkEnd l (tokEnd l i)) = 61
    · rw [elemI_val l i ht he, Option.map_eq_some_iff] at h
      obtain ⟨q, _, rfl⟩ := h
      simp
    · rw [elemI_bare l i ht he] at h
      simp only [Option.some.injEq] at h
      subst h
      simp
  · rw [elemI_no l i ht] at h; simp at h
theorem parseI_bareD (l : Bs) : ∀ (n i : Nat) (acc : List Dir), l.length - i ≤ n → bareD acc → bareD (parseI l i acc).1
  | n, i, acc, hn, ha => by
    rw [parseI_blank]
    have hge := blkEnd_ge l i
    have hid := blkEnd_idem l i
    have hnil : bareD [] := fun d hd => by cases hd
    by_cases hl : blkEnd l i < l.length
    · match n, hn with
      | 0, hn => omega
      | n + 1, hn =>
      by_cases h59 : atN l (blkEnd l i) = 59
      · rw [parseI_semi l _ acc h59]
        exact parseI_bareD l n _ acc (by omega) ha
      · by_cases h32 : acc.length = 32
        · rw [parseI_limit l _ acc hid hl h59 h32]; exact hnil
        · cases he : elemO l (blkEnd l i) with
          | none => rw [parseI_none l _ acc hid hl h59 h32 he]; exact hnil
          | some p =>
            rw [parseI_some l _ acc p hid hl h59 h32 he]
            have hi := (elemO_inv l _ p he).1
            have hb := elemI_bound l _ p.1 p.2 (by omega) hi
            refine parseI_bareD l n _ _ (by omega) (fun d hd => ?_)
            rcases List.mem_append.1 hd with h | h
            · exact ha d h
            · simp only [List.mem_singleton] at h; subst h; exact elemI_bare' l _ p hi
    · rw [parseI_end l _ acc (by omega)]; exact ha
theorem parseD_bareD (l : Bs) : bareD (parseD l).1 := by
  by_cases h : 4096 < l.length
  · rw [parseD_long l h]; exact fun d hd => by cases hd
  · rw [parseD_short l h]; exact parseI_bareD l l.length 0 [] (by omega) (fun d hd => by cases hd)
theorem findD_bare (l : List Dir) (n : Bs) (hb : bareD l) (h : (dirOf (findD l n)).2.2 = false) : (dirOf (findD l n)).2.1 = [] := by
  unfold dirOf at h ⊢
  cases hf : findD l n with
  | none => rfl
  | some d =>
    rw [hf] at h
    exact hb d (List.mem_of_find?_eq_some hf) h
end Hs
