/- The walks of the byte classes of the layer ascii (program and reference): each returns the plain function's answer and changes nothing. Conditions: none. -/
import Derived.Test.YtimfngfimnapoaaDoorRows
import Derived.Test.YtimfngfimnapoaaDoorKit
namespace Go.Proofs.YtimfngfimnapoaaDoor
open Go.RowKit Hs
set_option linter.unusedSimpArgs false


set_option maxHeartbeats 500000 in
theorem ascii_isBlank (b : UInt8) (n : Int) (h : n = (b.toNat : Int)) (w : World) : Calls Tryd.prog 33 #[.int .u8 n] w fun e w' => e = .returned (.bool (isBlank b)) ∧ w = w' := by
  subst h
  go_enter Tryd.func33, Tryd.ntmps33
  go_wp2
  all_goals
    go_ret
    refine ⟨ret_bool ?_, rfl⟩
    first | (refine btrue ?_; omega) | (refine bfalse ?_; omega) | (refine bdec ?_; omega) | (refine beqdec ?_; omega) | (refine bnedec ?_; omega)

set_option maxHeartbeats 500000 in
theorem ref01_isBlank (b : UInt8) (n : Int) (h : n = (b.toNat : Int)) (w : World) : Calls Tryd.prog 34 #[.int .u8 n] w fun e w' => e = .returned (.bool (isBlank b)) ∧ w = w' := by
  subst h
  go_enter Tryd.func34, Tryd.ntmps34
  go_wp2
  all_goals
    go_ret
    refine ⟨ret_bool ?_, rfl⟩
    first | (refine btrue ?_; omega) | (refine bfalse ?_; omega) | (refine bdec ?_; omega) | (refine beqdec ?_; omega) | (refine bnedec ?_; omega)

set_option maxHeartbeats 500000 in
theorem ascii_isSpace (b : UInt8) (n : Int) (h : n = (b.toNat : Int)) (w : World) : Calls Tryd.prog 28 #[.int .u8 n] w fun e w' => e = .returned (.bool (isSpace b)) ∧ w = w' := by
  subst h
  go_enter Tryd.func28, Tryd.ntmps28
  go_wp2_with ((go_at_call 33; refine (ascii_isBlank b _ rfl _).mono ?_; rintro e w' ⟨rfl, rfl⟩))
  all_goals
    go_ret
    refine ⟨ret_bool ?_, rfl⟩
    (try simp only [isBlank, isDigit, beq_iff_eq, beq_eq_false_iff_ne, ne_eq, decide_eq_true_eq, decide_eq_false_iff_not] at *)
    first | (refine btrue ?_; omega) | (refine bfalse ?_; omega) | (refine bdec ?_; omega) | (refine beqdec ?_; omega) | (refine bnedec ?_; omega)

set_option maxHeartbeats 500000 in
theorem ref01_isSpace (b : UInt8) (n : Int) (h : n = (b.toNat : Int)) (w : World) : Calls Tryd.prog 29 #[.int .u8 n] w fun e w' => e = .returned (.bool (isSpace b)) ∧ w = w' := by
  subst h
  go_enter Tryd.func29, Tryd.ntmps29
  go_wp2_with ((go_at_call 34; refine (ref01_isBlank b _ rfl _).mono ?_; rintro e w' ⟨rfl, rfl⟩))
  all_goals
    go_ret
    refine ⟨ret_bool ?_, rfl⟩
    (try simp only [isBlank, isDigit, beq_iff_eq, beq_eq_false_iff_ne, ne_eq, decide_eq_true_eq, decide_eq_false_iff_not] at *)
    first | (refine btrue ?_; omega) | (refine bfalse ?_; omega) | (refine bdec ?_; omega) | (refine beqdec ?_; omega) | (refine bnedec ?_; omega)


end Go.Proofs.YtimfngfimnapoaaDoor
