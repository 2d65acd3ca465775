/- Arguments that are arrays of integers, opened: their elements. Conditions: none. -/
import Derived.ProofKit
import Derived.OpenShut
import Derived.WideKeyArr2
namespace Hs
open Go Go.ChangeShapes Go.WideShapes
set_option linter.unusedVariables false
set_option linter.unusedSimpArgs false

theorem opened_arr {H : Type} {enc : TypeId × Value → H} {P : Program} {W : World} {base base2 : Nat} {sp : Nat → Bool} {held : Bool} {r : Reach} {t e : TypeId} {n : Nat} {k : IntKind} {v : Value} {d : DataW H} {p : List MemPlace}
    (ht : P.underlying t = some (.array n e)) (he : P.underlying e = some (.int k)) (hce : P.cellsOf e = 1) (hct : P.cellsOf t = n)
    (hval : Value.okWide P W r base t v) (h : DataW.Trod enc P W base2 sp held t v d p) :
    ∃ l : List Int, l.length = n ∧ v = .agg (l.map (Value.int k)).toArray ∧ ∀ x ∈ l, (Lit.int k x).wf = true := by
  simp only [Value.okWide, ht] at hval
  obtain ⟨cs, rfl, h2, _⟩ := hval
  rw [hct] at h2
  obtain ⟨fuel, hf⟩ := h
  obtain ⟨xs, m, _, _, _, hxn, hel⟩ := DataW.trod_array ht hf
  simp only [Value.cells] at hel
  have key : ∀ i (hi : i < cs.size), ∃ x, cs[i] = .int k x ∧ (Lit.int k x).wf = true := by
    intro i hi
    have h1 := hel i (by omega)
    rw [hce, Nat.mul_one, List.getElem?_eq_getElem (by omega)] at h1
    obtain ⟨x, hx, _, hw⟩ := DataW.trod_int he h1
    refine ⟨x, ?_, hw⟩
    have h3 := congrArg (fun l : List Value => l[0]?) hx
    simp only [List.getElem?_take, List.getElem?_drop] at h3
    simp at h3
    rw [Array.getElem?_eq_getElem hi] at h3
    simpa using h3
  refine ⟨cs.toList.map (fun u => match u with | .int _ x => x | _ => 0), by simp [h2], ?_, ?_⟩
  · congr 1
    apply Array.ext
    · simp
    · intro i h3 h4
      obtain ⟨x, hx, _⟩ := key i h3
      simp [hx]
  · intro x hx
    rw [List.mem_map] at hx
    obtain ⟨u, hu, rfl⟩ := hx
    obtain ⟨i, hi, rfl⟩ := List.getElem_of_mem hu
    obtain ⟨y, hy, hw⟩ := key i (by simpa using hi)
    have : cs.toList[i] = .int k y := by simpa using hy
    rw [this]
    exact hw
/-- Four integers. -/
theorem list4 {l : List Int} (h : l.length = 4) : ∃ a b c d, l = [a, b, c, d] := by
  match l, h with
  | [a, b, c, d], _ => exact ⟨a, b, c, d, rfl⟩
theorem list2 {l : List Int} (h : l.length = 2) : ∃ a b, l = [a, b] := by
  match l, h with
  | [a, b], _ => exact ⟨a, b, rfl⟩
/-- Numbers of 16 bits, as natural numbers. -/
theorem u16_nats : ∀ {l : List Int}, (∀ x ∈ l, (Lit.int .u16 x).wf = true) → ∃ m : List Nat, l = m.map Int.ofNat ∧ ∀ x ∈ m, x < 65536
  | [], _ => ⟨[], rfl, by simp⟩
  | x :: r, h => by
    obtain ⟨m, rfl, hm⟩ := u16_nats (l := r) (fun y hy => h y (List.mem_cons_of_mem _ hy))
    have hx := h x (List.mem_cons_self ..)
    simp [Lit.wf, IntKind.min, IntKind.max, IntKind.signed, IntKind.bits] at hx
    refine ⟨x.toNat :: m, by simp; omega, ?_⟩
    intro y hy
    rcases List.mem_cons.1 hy with rfl | hy
    · omega
    · exact hm y hy
end Hs
