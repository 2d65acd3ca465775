/- The walks of the byte classes of the layer ascii (program and reference): each returns the plain function's answer and changes nothing. Conditions: none. -/
import Derived.Test.YtjdkmidajhbefaaDoorRows
import Derived.Test.YtjdkmidajhbefaaDoorKit
namespace Go.Proofs.YtjdkmidajhbefaaDoor
open Go.RowKit Hs
set_option linter.unusedSimpArgs false

set_option maxHeartbeats 500000 in
theorem ascii_isDigit (b : UInt8) (n : Int) (h : n = (b.toNat : Int)) (w : World) : Calls Tryd.prog 39 #[.int .u8 n] w fun e w' => e = .returned (.bool (isDigit b)) ∧ w = w' := by
  subst h
  go_enter Tryd.func39, Tryd.ntmps39
  go_wp2
  all_goals
    go_ret
    refine ⟨ret_bool ?_, rfl⟩
    first | (refine btrue ?_; omega) | (refine bfalse ?_; omega) | (refine bdec ?_; omega) | (refine beqdec ?_; omega) | (refine bnedec ?_; omega)

set_option maxHeartbeats 500000 in
theorem ascii_isBlank (b : UInt8) (n : Int) (h : n = (b.toNat : Int)) (w : World) : Calls Tryd.prog 18 #[.int .u8 n] w fun e w' => e = .returned (.bool (isBlank b)) ∧ w = w' := by
  subst h
  go_enter Tryd.func18, Tryd.ntmps18
  go_wp2
  all_goals
    go_ret
    refine ⟨ret_bool ?_, rfl⟩
    first | (refine btrue ?_; omega) | (refine bfalse ?_; omega) | (refine bdec ?_; omega) | (refine beqdec ?_; omega) | (refine bnedec ?_; omega)




set_option maxHeartbeats 500000 in
theorem ascii_isToken (b : UInt8) (n : Int) (h : n = (b.toNat : Int)) (w : World) : Calls Tryd.prog 30 #[.int .u8 n] w fun e w' => e = .returned (.bool (isTok b)) ∧ w = w' := by
  subst h
  go_enter Tryd.func30, Tryd.ntmps30
  go_wp2_with ((go_at_call 39; refine (ascii_isDigit b _ rfl _).mono ?_; rintro e w' ⟨rfl, rfl⟩))
  all_goals
    go_ret
    refine ⟨ret_bool ?_, rfl⟩
    (try simp only [isBlank, isDigit, beq_iff_eq, beq_eq_false_iff_ne, ne_eq, decide_eq_true_eq, decide_eq_false_iff_not] at *)
    first | (refine btrue ?_; omega) | (refine bfalse ?_; omega) | (refine bdec ?_; omega) | (refine beqdec ?_; omega) | (refine bnedec ?_; omega)

end Go.Proofs.YtjdkmidajhbefaaDoor
