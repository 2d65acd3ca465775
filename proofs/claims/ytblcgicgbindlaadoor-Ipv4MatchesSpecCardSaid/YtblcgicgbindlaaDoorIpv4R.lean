/- The walk of digit of the reference of ipv4. Conditions: none. -/
import Derived.Test.YtblcgicgbindlaaDoorIpv4N
namespace Go.Proofs.YtblcgicgbindlaaDoor
open Go.RowKit Hs
set_option linter.unusedSimpArgs false
set_option linter.unusedVariables false

theorem r10_digit (b : UInt8) (z : Int) (hz : z = (b.toNat : Int)) (w : World) : Calls Tryd.prog 50 #[.int .u8 z] w fun e w' => e = .returned (.int .i64 (digV b)) ∧ w = w' := by
  subst hz
  have hx := b.toNat_lt
  have hdc := dig_cases b
  obtain ⟨q, hq⟩ : ∃ q, q = digV b := ⟨_, rfl⟩
  rw [← hq] at hdc ⊢
  clear hq
  rcases hdc with ⟨h1, h2, h3⟩ | ⟨h1, h2, h3⟩ | ⟨h1, h2, h3⟩ | ⟨h1, h2, h3, h4⟩
  all_goals
    go_enter Tryd.func50, Tryd.ntmps50
    go_wp2
    all_goals (try (exfalso; omega))
    all_goals
      go_ret
      exact ⟨ret_int (by omega), rfl⟩
end Go.Proofs.YtblcgicgbindlaaDoor
