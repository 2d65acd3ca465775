/- The walk of FromInt of the reference: decimal digits. Conditions: the number is not negative and has at most ten digits. -/
import Derived.Test.YtblcgicgbindlaaDoorRows
import Derived.Test.YtblcgicgbindlaaDoorKit
import Derived.Test.YtblcgicgbindlaaDoorPlainSeconds
import Derived.Deep.RegionWith
namespace Go.Proofs.YtblcgicgbindlaaDoor
open Go.RowKit Hs
set_option linter.unusedSimpArgs false
set_option linter.unusedVariables false

/-- 'string([]byte that holds one byte)'. -/
theorem one_byte (W : World) (b : Nat) (x : Int) (c : UInt8) (hx : x = (c.toNat : Int)) (h : W.cell? ⟨b, 0, none⟩ = some (.int .u8 x)) : (convert 58 9 (.slice (some ⟨b, 0, none⟩) 1 1)).run Tryd.prog W = .ok (.string (mk [c])) W := by
  subst hx
  refine string_of_row (n := 1) (l := [c]) ⟨by simp, _, 1, rfl, Nat.le_refl _, by simp [maxLen], .inr ⟨b, 0, rfl, World.block_lt_of_cell? W _ h, fun j u hj => ?_⟩⟩ Tryd.underlying58 Tryd.underlying5 Tryd.underlying9
  match j, hj with
  | 0, hj => simp [bcells] at hj; subst hj; simpa using h
  | j + 1, hj => simp [bcells] at hj
theorem byte_of (d : Nat) (h : d < 10) : (48 + (d : Int)) = ((UInt8.ofNat (48 + d)).toNat : Int) := by simp <;> omega

set_option maxRecDepth 20000 in
set_option maxHeartbeats 400000 in
theorem fromInt_any (k : Nat) : ∀ (z : Int) (w : World), 0 ≤ z → z < k → z ≤ 9999999999 → Calls Tryd.prog 22 #[.int .i64 z] w fun e w' => e = .returned (.string (mk (Lib.decDigits z.toNat))) ∧ Below w.heap.size w w' := by
  induction k with
  | zero => intro z w h0 h; omega
  | succ k ih =>
    intro z w h0 hk hn
    obtain ⟨n, rfl⟩ := Int.eq_ofNat_of_zero_le h0
    rw [Int.toNat_natCast]
    by_cases h : n < 10
    · have hd : Lib.decDigits n = [UInt8.ofNat (48 + n)] := by rw [Lib.decDigits, dif_pos h] <;> rfl
      obtain ⟨c, hc⟩ : ∃ c, c = UInt8.ofNat (48 + n) := ⟨_, rfl⟩
      have hb := byte_of n h
      rw [← hc] at hd hb
      rw [hd]
      have hcv := one_byte (w.alloc (.cells #[.int .u8 (48 + (n : Int))] 5)) w.heap.size (48 + (n : Int)) c hb (by simp)
      clear hc hb hd ih
      go_enter Tryd.func22, Tryd.ntmps22
      go_wp2
      go_ret
      exact ⟨rfl, (Below.refl _ _).alloc (Nat.le_refl _) _⟩
    · have hd : Lib.decDigits n = Lib.decDigits (n / 10) ++ [UInt8.ofNat (48 + n % 10)] := by rw [Lib.decDigits, dif_neg h] <;> rfl
      obtain ⟨c, hc⟩ : ∃ c, c = UInt8.ofNat (48 + n % 10) := ⟨_, rfl⟩
      have hb := byte_of (n % 10) (by omega)
      rw [← hc] at hd hb
      have hz : IntKind.i64.wrap ((n : Int) / 10) = ((n / 10 : Nat) : Int) := by
        rw [IntKind.wrap_i64]; omega
      have hy : IntKind.u8.wrap (IntKind.i64.wrap (48 + (n : Int).tmod 10)) = ((c.toNat : Nat) : Int) := by
        rw [← hb, Int.tmod_eq_emod_of_nonneg (by omega), IntKind.wrap_i64, IntKind.wrap_u8]; omega
      have IH : Hid (∀ W : World, Calls Tryd.prog 22 #[.int .i64 (IntKind.i64.wrap ((n : Int) / 10))] W fun e w' => e = .returned (.string (mk (Lib.decDigits (n / 10)))) ∧ Below W.heap.size W w') := by
        refine Lib.hid fun W => ?_
        rw [hz]
        have := ih ((n / 10 : Nat) : Int) W (by omega) (by omega) (by omega)
        rwa [Int.toNat_natCast] at this
      have hcv := fun (W : World) (b : Nat) (h : W.cell? ⟨b, 0, none⟩ = some (.int .u8 (IntKind.u8.wrap (IntKind.i64.wrap (48 + (n : Int).tmod 10))))) => one_byte W b _ c hy h
      have hlen := decDigits_len (n / 10) (by omega)
      have hln2 : (mk (Lib.decDigits (n / 10))).size ≤ 10 := by rw [size_mk]; exact hlen
      clear hc hb hz ih
      rw [hd]
      clear hd
      go_enter Tryd.func22, Tryd.ntmps22
      go_wp2
      go_region_with (go_at_call 22; refine (IH.out _).mono ?_; rintro e w1 ⟨rfl, hb1⟩; obtain ⟨hc1, hf1⟩ := bcell hb1)
      all_goals (go_wp2; go_ret)
      all_goals rw [mk_append]
      · refine ⟨by first | rfl | (simp; done) | (go_simp; done), ?_⟩
        exact (((Below.refl _ w).drew).trans hb1).alloc (by have := hb1.size; simp at *; omega) _
      all_goals
        refine ⟨by first | rfl | (simp; done) | (go_simp; done), ?_⟩
        refine Below.trans (b := w.drew.alloc (.cells #[.int .u8 c.toNat] 5)) (((Below.refl _ w).drew).alloc (by simp) _) ?_
        exact (hb1.mono (by simp))
end Go.Proofs.YtblcgicgbindlaaDoor
