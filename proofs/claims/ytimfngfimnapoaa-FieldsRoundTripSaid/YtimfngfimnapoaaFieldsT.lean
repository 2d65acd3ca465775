/- Small laws for the walks of Format of the layer fields. Conditions: none. -/
import Derived.Test.YtimfngfimnapoaaFieldsK
import Derived.Test.YtimfngfimnapoaaLater
namespace Go.Proofs.Ytimfngfimnapoaa
open Go.RowKit Hs
set_option linter.unusedSimpArgs false
set_option linter.unusedVariables false

theorem valid_drop (l : List Fld) (k : Nat) (h : k < l.length) : (l.drop k).all validF = (validF l[k] && (l.drop (k + 1)).all validF) := by rw [List.drop_eq_getElem_cons h, List.all_cons]
theorem textF0_take (l : List Fld) (k : Nat) (h : k < l.length) : textF0 (l.take (k + 1)) = textF0 (l.take k) ++ fieldText l[k] := by
  rw [List.take_succ_eq_append_getElem h, textF0_snoc]
theorem length_textF0 (m : Nat) : ∀ l : List Fld, (∀ x ∈ l, x.1.length ≤ m ∧ x.2.length ≤ m) → (textF0 l).length ≤ l.length * (2 * m + 4)
  | [], _ => by simp [textF0]
  | x :: l, h => by
    have h1 := length_textF0 m l (fun y hy => h y (by simp [hy]))
    have h2 := h x (by simp)
    have e : textF0 (x :: l) = fieldText x ++ textF0 l := by simp [textF0]
    rw [e]
    simp only [fieldText, List.length_append, List.length_cons, List.length_nil, Nat.add_mul, Nat.one_mul]
    omega
theorem length_textF0_take (l : List Fld) (k : Nat) (hl : l.length ≤ 100) (h : ∀ x ∈ l, x.1.length ≤ 10000 ∧ x.2.length ≤ 10000) : (textF0 (l.take k)).length ≤ 3000000 := by
  have h1 := length_textF0 10000 (l.take k) (fun x hx => h x (List.mem_of_mem_take hx))
  rw [List.length_take] at h1
  have : min k l.length * (2 * 10000 + 4) ≤ 100 * (2 * 10000 + 4) := Nat.mul_le_mul_right _ (by omega)
  omega
theorem grown_later {A B : World} (h : Below A.heap.size A B) : A.grownBy B none := ⟨h.os, h.tape, h.output, h.size, fun k hk _ => h.block k hk⟩
theorem own_none_ne (o : Option Nat) : o = none ∨ o ≠ none := by cases o <;> simp
theorem own_slice3 {w : World} {base : Nat} {e : TypeId} {size n : Nat} {v : Value} {xs : List Value} (h : w.ownsRow base e size v n xs) : ∃ a cap, v = .slice a n cap := by
  rcases h.2 with ⟨rfl, rfl⟩ | ⟨g, cap, cur, rfl, _⟩
  · exact ⟨none, 0, rfl⟩
  · exact ⟨_, cap, rfl⟩
theorem own_cast {w : World} {base : Nat} {e : TypeId} {size n m : Nat} {v : Value} {xs ys : List Value} (h : w.ownsRow base e size v n xs) (hn : n = m) (hx : xs = ys) : w.ownsRow base e size v m ys := by
  subst hn; subst hx; exact h
theorem size_crlf : (⟨#[13, 10]⟩ : ByteArray).size = 2 := rfl
theorem size_cs : (⟨#[58, 32]⟩ : ByteArray).size = 2 := rfl
end Go.Proofs.Ytimfngfimnapoaa
