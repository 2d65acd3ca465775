/- The walks of the byte classes of the layer ascii (program and reference): each returns the plain function's answer and changes nothing. Conditions: none. -/
import Derived.Test.YtmneleackpgfbaaDoorRows
import Derived.Test.YtmneleackpgfbaaDoorKit
namespace Go.Proofs.YtmneleackpgfbaaDoor
open Go.RowKit Hs
set_option linter.unusedSimpArgs false


set_option maxHeartbeats 500000 in
theorem ascii_isBlank (b : UInt8) (n : Int) (h : n = (b.toNat : Int)) (w : World) : Calls Tryd.prog 56 #[.int .u8 n] w fun e w' => e = .returned (.bool (isBlank b)) ∧ w = w' := by
  subst h
  go_enter Tryd.func56, Tryd.ntmps56
  go_wp2
  all_goals
    go_ret
    refine ⟨ret_bool ?_, rfl⟩
    first | (refine btrue ?_; omega) | (refine bfalse ?_; omega) | (refine bdec ?_; omega) | (refine beqdec ?_; omega) | (refine bnedec ?_; omega)

set_option maxHeartbeats 500000 in
theorem ref01_isBlank (b : UInt8) (n : Int) (h : n = (b.toNat : Int)) (w : World) : Calls Tryd.prog 57 #[.int .u8 n] w fun e w' => e = .returned (.bool (isBlank b)) ∧ w = w' := by
  subst h
  go_enter Tryd.func57, Tryd.ntmps57
  go_wp2
  all_goals
    go_ret
    refine ⟨ret_bool ?_, rfl⟩
    first | (refine btrue ?_; omega) | (refine bfalse ?_; omega) | (refine bdec ?_; omega) | (refine beqdec ?_; omega) | (refine bnedec ?_; omega)

set_option maxHeartbeats 500000 in
theorem ascii_isSpace (b : UInt8) (n : Int) (h : n = (b.toNat : Int)) (w : World) : Calls Tryd.prog 47 #[.int .u8 n] w fun e w' => e = .returned (.bool (isSpace b)) ∧ w = w' := by
  subst h
  go_enter Tryd.func47, Tryd.ntmps47
  go_wp2_with ((go_at_call 56; refine (ascii_isBlank b _ rfl _).mono ?_; rintro e w' ⟨rfl, rfl⟩))
  all_goals
    go_ret
    refine ⟨ret_bool ?_, rfl⟩
    (try simp only [isBlank, isDigit, beq_iff_eq, beq_eq_false_iff_ne, ne_eq, decide_eq_true_eq, decide_eq_false_iff_not] at *)
    first | (refine btrue ?_; omega) | (refine bfalse ?_; omega) | (refine bdec ?_; omega) | (refine beqdec ?_; omega) | (refine bnedec ?_; omega)

set_option maxHeartbeats 500000 in
theorem ref01_isSpace (b : UInt8) (n : Int) (h : n = (b.toNat : Int)) (w : World) : Calls Tryd.prog 48 #[.int .u8 n] w fun e w' => e = .returned (.bool (isSpace b)) ∧ w = w' := by
  subst h
  go_enter Tryd.func48, Tryd.ntmps48
  go_wp2_with ((go_at_call 57; refine (ref01_isBlank b _ rfl _).mono ?_; rintro e w' ⟨rfl, rfl⟩))
  all_goals
    go_ret
    refine ⟨ret_bool ?_, rfl⟩
    (try simp only [isBlank, isDigit, beq_iff_eq, beq_eq_false_iff_ne, ne_eq, decide_eq_true_eq, decide_eq_false_iff_not] at *)
    first | (refine btrue ?_; omega) | (refine bfalse ?_; omega) | (refine bdec ?_; omega) | (refine beqdec ?_; omega) | (refine bnedec ?_; omega)


end Go.Proofs.YtmneleackpgfbaaDoor
