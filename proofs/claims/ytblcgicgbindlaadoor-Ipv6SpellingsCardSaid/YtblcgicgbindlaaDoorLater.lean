/- A region that draws its order, whose operations only read and whose callees leave all blocks that existed as they were: one walk of the order of the text serves every order. Conditions: none. -/
import Derived.Test.YtblcgicgbindlaaDoorKit
namespace Hs
open Go Go.RowKit
set_option linter.unusedVariables false

/-- The worlds in which all blocks of W are as in W. -/
def Later (W : World) : Type := { w' : World // Below W.heap.size W w' }
instance (W : World) : Nonempty (Later W) := ⟨⟨W, Below.refl _ _⟩⟩
theorem wp_region_later {P : Program} {id : Nat} {Q : Exit → Act → World → Prop} {a : Act} {w : World} (W : World) {l : List Oper} (hm : P.follows .mixedOrders = true) (hB : Region.lexB .any l.toArray = true) (h0 : Below W.heap.size W w)
    (h : wpQuiet P l.toArray (fun w' => ∃ x : Later W, w' = x.1) (fun a' => ∀ w', (∃ x : Later W, w' = x.1) → Q .normal a' w') l a) : (Code.region id l.toArray true).wp P Q a w :=
  wp_region_quiet (C := fun w' => ∃ x : Later W, w' = x.1) hm hB ⟨⟨_, h0.drew⟩, rfl⟩ (by simpa using h)
theorem Calls.later {P : Program} {f : FuncId} {args : Array Value} {W : World} {x : Later W} {v : Value} (h : Calls P f args x.1 fun e w' => e = .returned v ∧ Below x.1.heap.size x.1 w') : Calls P f args x.1 fun e w'' => e = .returned v ∧ ∃ y : Later W, w'' = y.1 :=
  h.mono fun _ w' ⟨he, hb⟩ => ⟨he, ⟨w', x.2.trans (hb.mono x.2.size)⟩, rfl⟩
theorem Calls.later_same {P : Program} {f : FuncId} {args : Array Value} {W : World} {x : Later W} {v : Value} (h : Calls P f args x.1 fun e w' => e = .returned v ∧ x.1 = w') : Calls P f args x.1 fun e w'' => e = .returned v ∧ ∃ y : Later W, w'' = y.1 :=
  h.mono fun _ _ ⟨he, hb⟩ => ⟨he, x, hb.symm⟩
end Hs
