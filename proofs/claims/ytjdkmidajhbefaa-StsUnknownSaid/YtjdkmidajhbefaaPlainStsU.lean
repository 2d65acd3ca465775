/- Plain law of the layer sts: a directive with an unknown and new name changes nothing. No program in sight. Conditions: none. -/
import Derived.Test.YtjdkmidajhbefaaPlainSts
import Derived.Test.YtjdkmidajhbefaaPlainDirM
namespace Hs
theorem findD_cons_ne (l : List Dir) (d : Dir) (n : Bs) (h : d.1 ≠ n) : findD (d :: l) n = findD l n := by
  unfold findD
  rw [List.find?_cons]
  have : (d.1 == n) = false := by simpa using h
  rw [this]
theorem findD_snoc_ne (l : List Dir) (d : Dir) (n : Bs) (h : d.1 ≠ n) : findD (l ++ [d]) n = findD l n := by
  rw [findD_snoc, if_neg h]
  cases hf : findD l n <;> simp
theorem stsL_unknown (l : List Dir) (d : Dir) (h1 : d.1 ≠ ageN) (h2 : d.1 ≠ subN) (h3 : d.1 ∉ namesD l) : stsL (l ++ [d]) = stsL l ∧ stsL (d :: l) = stsL l := by
  have n1 : (namesD (l ++ [d])).Nodup ↔ (namesD l).Nodup := by
    have e : namesD (l ++ [d]) = namesD l ++ [d.1] := by simp [namesD]
    rw [e, List.nodup_append]
    constructor
    · exact fun h => h.1
    · intro h
      refine ⟨h, by simp, fun a ha b hb => ?_⟩
      simp only [List.mem_singleton] at hb
      subst hb
      exact fun e => h3 (e ▸ ha)
  have n2 : (namesD (d :: l)).Nodup ↔ (namesD l).Nodup := by
    have e : namesD (d :: l) = d.1 :: namesD l := rfl
    rw [e, List.nodup_cons]
    exact ⟨fun h => h.2, fun h => ⟨h3, h⟩⟩
  refine ⟨?_, ?_⟩
  · unfold stsL
    rw [findD_snoc_ne l d _ h1, findD_snoc_ne l d _ h2]
    by_cases h : (namesD l).Nodup
    · rw [if_pos h, if_pos (n1.2 h)]
    · rw [if_neg h, if_neg (fun x => h (n1.1 x))]
  · unfold stsL
    rw [findD_cons_ne l d _ h1, findD_cons_ne l d _ h2]
    by_cases h : (namesD l).Nodup
    · rw [if_pos h, if_pos (n2.2 h)]
    · rw [if_neg h, if_neg (fun x => h (n2.1 x))]
/-- The policy of a text, with a directive behind it or ahead of it. -/
theorem stsP_unknown (s : Bs) (l : List Dir) (d : Dir) (t : Bs) (hs : parseD s = (l, 0)) (hl : l.length < 32) (ht : formatD [d] = (t, 0)) (hlen : s.length + t.length + 1 ≤ 4096) (h1 : d.1 ≠ ageN) (h2 : d.1 ≠ subN) (h3 : d.1 ∉ namesD l) : stsP (s ++ 59 :: t) = stsP s ∧ stsP (t ++ 59 :: s) = stsP s := by
  have hp := (parseD_format [d] (by rw [ht])).2
  rw [ht] at hp
  have c1 := parseD_concat s t l [d] hs hp hlen (by simp; omega)
  have c2 := parseD_concat t s [d] l hp hs (by omega) (by simp; omega)
  have hu := stsL_unknown l d h1 h2 h3
  unfold stsP
  rw [c1, c2, hs]
  unfold stsR
  simp only [if_true]
  exact ⟨hu.1, hu.2⟩
end Hs
