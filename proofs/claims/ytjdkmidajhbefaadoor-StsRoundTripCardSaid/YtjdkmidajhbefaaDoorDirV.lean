/- A directive as a value, and as cells of a row. Conditions: none. -/
import Derived.Test.YtjdkmidajhbefaaDoorAsciiBytes
import Derived.Test.YtjdkmidajhbefaaDoorPlainDir
import Derived.Test.YtjdkmidajhbefaaDoorBlk
namespace Go.Proofs.YtjdkmidajhbefaaDoor
open Go.RowKit Hs
set_option linter.unusedSimpArgs false
set_option linter.unusedVariables false
theorem dirSize : (Tryd.prog.info? 37).map (·.size) = some 3 := by kernel_rfl
theorem infoDir : (Tryd.prog.info? 37).map (fun i => (i.zero, i.size, i.bytes)) = some (some (.agg #[.string ⟨#[]⟩, .string ⟨#[]⟩, .bool false]), 3, 40) := by kernel_rfl
/-- A directive as a value. -/
def dirVal (d : Dir) : Value := .agg #[.string (mk d.1), .string (mk d.2.1), .bool d.2.2]
/-- A list of directives as cells. -/
def dcells (l : List Dir) : List Value := l.flatMap fun d => [.string (mk d.1), .string (mk d.2.1), .bool d.2.2]
theorem dcells_snoc (l : List Dir) (d : Dir) : dcells l ++ [.string (mk d.1), .string (mk d.2.1), .bool d.2.2] = dcells (l ++ [d]) := by simp [dcells]
theorem length_dcells : ∀ l : List Dir, (dcells l).length = l.length * 3
  | [] => rfl
  | d :: l => by
    have := length_dcells l
    unfold dcells at this ⊢
    simp only [List.flatMap_cons, List.length_append, List.length_cons, List.length_nil]
    omega
theorem dcells_get : ∀ (l : List Dir) (k : Nat) (h : k < l.length), (dcells l)[k * 3]? = some (.string (mk l[k].1)) ∧ (dcells l)[k * 3 + 1]? = some (.string (mk l[k].2.1)) ∧ (dcells l)[k * 3 + 2]? = some (.bool l[k].2.2)
  | [], k, h => by simp at h
  | d :: l, 0, h => by simp [dcells]
  | d :: l, k + 1, h => by
    have := dcells_get l k (by simpa using h)
    have e : dcells (d :: l) = .string (mk d.1) :: .string (mk d.2.1) :: .bool d.2.2 :: dcells l := by simp [dcells]
    rw [e]
    have e1 : (k + 1) * 3 = k * 3 + 3 := by omega
    rw [e1]
    simpa using this
end Go.Proofs.YtjdkmidajhbefaaDoor
