/- The walk of hexText of the reference of layer 11. Conditions: the group has at most 16 bits. -/
import Derived.Test.YtblcgicgbindlaaDoorIpv6G
import Derived.Test.YtblcgicgbindlaaDoorDigs
namespace Go.Proofs.YtblcgicgbindlaaDoor
open Go.RowKit Hs
set_option linter.unusedSimpArgs false
set_option linter.unusedVariables false

set_option maxHeartbeats 1600000 in
theorem r11_hexText (n : Nat) (w : World) (hn : n < 65536) : Calls Tryd.prog 47 #[.int .u16 (n : Int)] w fun e w' => e = .returned (.string (mk (hexT n))) ∧ w = w' := by
  have HN := Lib.hid (hexT_len n hn)
  go_enter Tryd.func47, Tryd.ntmps47
  go_wp2
  go_loop [3, 4] (fun sv mv => ∃ (S : ByteArray) (m : Nat), sv = .string S ∧ mv = .int .u16 m ∧ m < 65536 ∧ S.size ≤ 4 ∧ Hid (DigSt 16 n (un S) m)) (fun sv mv => (intOf mv).toNat + (1 - strLen sv))
  case atStart => exact ⟨⟨#[]⟩, n, rfl, rfl, by omega, by decide, Lib.hid (.inl ⟨rfl, rfl⟩)⟩
  case round =>
    obtain ⟨S, m, rfl, rfl, hm, hS, hst⟩ := hrel
    have l0 : 0 ≤ (m : Int) % 16 := by omega
    have l1 : (m : Int) % 16 + 1 ≤ 16 := by omega
    have l2 : ((m : Int) % 16).toNat = m % 16 := by omega
    have l3 : ((m : Int) % 16 + 1).toNat = m % 16 + 1 := by omega
    have l4 : (m : Int) % 16 ≤ (m : Int) % 16 + 1 := by omega
    have LH := Lib.hid (lit_hex (m % 16) (by omega))
    have hsz : (mk [hexC (m % 16)]).size = 1 := by rw [size_mk]; rfl
    have hgo : (0 < m ∨ un S = []) → DigSt 16 n (hexC (m % 16) :: un S) (m / 16) := fun h => hst.out.step (by decide) h
    have hszz : (0 < m ∨ un S = []) → S.size + 1 ≤ 4 := fun h => by have h1 := (hgo h).len; have h2 : (digsN 16 n).length ≤ 4 := HN.out; rw [List.length_cons, length_un] at h1; omega
    by_cases hm0 : 0 < m
    · have g1 : decide ((0 : Int) < (m : Int)) = true := decide_eq_true (by omega)
      have hs2 := hszz (.inl hm0)
      have hst2 : Hid (DigSt 16 n (un (mk [hexC (m % 16)] ++ S)) (m / 16)) := Lib.hid (by rw [un_append, un_mk]; exact hgo (.inl hm0))
      have hs3 : (mk [hexC (m % 16)] ++ S).size ≤ 4 := by rw [ByteArray.size_append, hsz]; omega
      clear hgo hszz hst
      go_wp2
      all_goals (try (exfalso; omega))
      (try rw [LH.out])
      go_round
      case rel => exact ⟨_, m / 16, rfl, by go_num, by omega, hs3, hst2⟩
      case measure => simp [intOf, strLen]; omega
    · obtain rfl : m = 0 := by omega
      cases he : (un S).isEmpty
      · have hne : S.toList.isEmpty = false := by rw [toList_un]; exact he
        have hfin : Hid (S = mk (digsN 16 n)) := Lib.hid (un_inj (by rw [un_mk]; exact hst.out.fin (by intro e; rw [e] at he; simp at he)))
        clear hgo hszz hst he LH
        go_wp2_with fail
        all_goals (try (exfalso; omega))
        go_ret
        exact ⟨by rw [hfin.out]; rfl, rfl⟩
      · have hne : S.toList.isEmpty = true := by rw [toList_un]; exact he
        have hS0 : un S = [] := by simpa using he
        have hSs : S.size = 0 := by rw [← length_un, hS0]; rfl
        have hs2 := hszz (.inr hS0)
        have hst2 : Hid (DigSt 16 n (un (mk [hexC (0 % 16)] ++ S)) (0 / 16)) := Lib.hid (by rw [un_append, un_mk]; exact hgo (.inr hS0))
        have hs3 : (mk [hexC (0 % 16)] ++ S).size ≤ 4 := by rw [ByteArray.size_append, hsz]; omega
        clear hgo hszz hst he hS0
        go_wp2
        all_goals (try (exfalso; omega))
        (try rw [LH.out])
        go_round
        case rel => exact ⟨_, 0, rfl, by go_num, by omega, hs3, hst2⟩
        case measure => simp [intOf, strLen]; omega
end Go.Proofs.YtblcgicgbindlaaDoor
