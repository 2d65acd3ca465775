/- Arrays of eight groups, compared; blocks of eight groups in later worlds. Conditions: none. -/
import Derived.Test.YtblcgicgbindlaaDoorIpv6P
import Derived.Test.YtblcgicgbindlaaDoorLater
import Derived.ChangeKeysEq
namespace Go.Proofs.YtblcgicgbindlaaDoor
open Go.RowKit Hs
set_option linter.unusedSimpArgs false
set_option linter.unusedVariables false

theorem part16 (l : List Nat) (i : Nat) (h : i < l.length) (W : World) : (part 38 (gcells l).toArray i).run Tryd.prog W = .ok (.int .u16 (l[i] : Int)) W :=
  run_part_plain W (by kernel_rfl) (by simp [gcells, List.getElem?_eq_getElem h])
theorem items16 (d : Nat) (a b : List Nat) (W : World) : ∀ (is : List Nat), (∀ i ∈ is, i < a.length ∧ i < b.length) → (Op.eqItems (d + 1) 38 1 (gcells a).toArray (gcells b).toArray is).run Tryd.prog W = .ok (decide (∀ i ∈ is, a[i]? = b[i]?)) W
  | [], _ => by simp [Op.eqItems]
  | i :: is, h => by
    obtain ⟨h1, h2⟩ := h i (List.mem_cons_self ..)
    have ih := items16 d a b W is (fun j hj => h j (List.mem_cons_of_mem _ hj))
    simp only [Op.eqItems, Sem.run_bind, Nat.mul_one, part16 a i h1 W, part16 b i h2 W, Result.andThen_ok, run_equalIn_int W d 38 .u16 .u16 _ _ Tryd.underlying38]
    by_cases he : a[i] = b[i]
    · have e1 : ((a[i] : Int) == (b[i] : Int)) = true := by simp [he]
      rw [e1]
      simp only [Bool.not_true, Bool.false_eq_true, if_false]
      rw [ih]
      congr 1
      simp [List.getElem?_eq_getElem h1, List.getElem?_eq_getElem h2, he]
    · have e1 : ((a[i] : Int) == (b[i] : Int)) = false := by simp; omega
      rw [e1]
      simp only [Bool.not_false, if_true]
      have : decide (∀ j ∈ i :: is, a[j]? = b[j]?) = false := by
        apply decide_eq_false
        intro hh
        have := hh i (List.mem_cons_self ..)
        rw [List.getElem?_eq_getElem h1, List.getElem?_eq_getElem h2] at this
        exact he (Option.some.inj this)
      rw [this]
      rfl
theorem cells16 : Tryd.prog.cellsOf 38 = 1 := by kernel_rfl
/-- Two arrays of eight groups are compared. -/
theorem arr8_eq (a b : List Nat) (ha : a.length = 8) (hb : b.length = 8) (W : World) : (Op.equalIn 10000 39 (.agg (gcells a).toArray) (.agg (gcells b).toArray)).run Tryd.prog W = .ok (decide (a = b)) W := by
  obtain ⟨i, hi, _⟩ := Option.map_eq_some_iff.1 infoU16s
  have h := run_equalIn_array W 9999 (gcells a).toArray (gcells b).toArray Tryd.underlying39 hi
  rw [cells16, items16 9998 a b W _ (fun j hj => by have := List.mem_range.1 hj; omega)] at h
  have e9 : 9999 + 1 = 10000 := by omega
  rw [e9] at h
  refine h.trans ?_
  have key : (∀ i ∈ List.range 8, a[i]? = b[i]?) ↔ a = b := by
    constructor
    · intro hh
      apply List.ext_getElem?
      intro j
      by_cases hj : j < 8
      · exact hh j (List.mem_range.2 hj)
      · rw [List.getElem?_eq_none (by omega), List.getElem?_eq_none (by omega)]
    · intro e j _
      rw [e]
  rw [decide_eq_decide.2 key]
/-- The cells of a block of eight groups, in all later worlds. -/
theorem BlkN.later {W : World} {g : Nat} {T : TypeId} {l : List Nat} (h : BlkN W g T (gcells l).toArray) (k : Nat) (hk : k < l.length) : ∀ x : Later W, x.1.cell? ⟨g, k, none⟩ = some (.int .u16 (l[k] : Int)) := by
  intro x
  rw [cell_of_row x.1 g k _ _ _ (h.below h.lt x.2)]
  simp [gcells, List.getElem?_eq_getElem hk]
theorem BlkN.at {W : World} {g : Nat} {T : TypeId} {l : List Nat} (h : BlkN W g T (gcells l).toArray) (k : Nat) (hk : k < l.length) : W.cell? ⟨g, k, none⟩ = some (.int .u16 (l[k] : Int)) := h.later k hk ⟨W, Below.refl _ _⟩
/-- Groups, as an argument. -/
theorem agg_groups (l : List Nat) : ((l.map Int.ofNat).map (Value.int .u16)).toArray = (gcells l).toArray := by
  unfold gcells
  rw [List.map_map]
  rfl
end Go.Proofs.YtblcgicgbindlaaDoor
