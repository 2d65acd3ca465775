/- The walk of group of the law of layer 11: a group with leading zeros and letters of either case. Conditions: the group has at most 16 bits. -/
import Derived.Test.YtblcgicgbindlaaDoorIpv6H
import Derived.Test.YtblcgicgbindlaaDoorPlainIpv6S
namespace Hs
open Go
/-- The letter of a digit, in the case that the flag says. -/
theorem lit_cap (d : Nat) (h : d < 16) : (⟨#[48, 49, 50, 51, 52, 53, 54, 55, 56, 57, 65, 66, 67, 68, 69, 70]⟩ : ByteArray).extract d (d + 1) = mk [capB true (hexC d)] := by
  have : ∀ d : Fin 16, (⟨#[48, 49, 50, 51, 52, 53, 54, 55, 56, 57, 65, 66, 67, 68, 69, 70]⟩ : ByteArray).extract d.1 (d.1 + 1) = mk [capB true (hexC d.1)] := by decide
  exact this ⟨d, h⟩
theorem capB_false (b : UInt8) : capB false b = b := by
  unfold capB
  rw [if_neg]
  rintro ⟨h, _⟩
  cases h
theorem lit_low (d : Nat) (h : d < 16) : (⟨#[48, 49, 50, 51, 52, 53, 54, 55, 56, 57, 97, 98, 99, 100, 101, 102]⟩ : ByteArray).extract d (d + 1) = mk [capB false (hexC d)] := by rw [capB_false]; exact lit_hex d h
theorem map_cap_false (l : Bs) : l.map (capB false) = l := by
  conv => rhs; rw [← List.map_id l]
  apply List.map_congr_left
  intro x _
  exact capB_false x
/-- What is laid of a group's digits, in the case that the flag says. -/
def CapSt (up : Bool) (n : Nat) (s : Bs) (m : Nat) : Prop := ∃ t, s = t.map (capB up) ∧ DigSt 16 n t m
theorem CapSt.step {up : Bool} {n m : Nat} {s : Bs} (h : CapSt up n s m) (hm : 0 < m ∨ s = []) : CapSt up n (capB up (hexC (m % 16)) :: s) (m / 16) := by
  obtain ⟨t, rfl, ht⟩ := h
  refine ⟨hexC (m % 16) :: t, by rw [List.map_cons], ht.step (by decide) ?_⟩
  rcases hm with h | h
  · exact .inl h
  · exact .inr (List.map_eq_nil_iff.1 h)
theorem CapSt.fin {up : Bool} {n : Nat} {s : Bs} (h : CapSt up n s 0) (hs : s ≠ []) : s = (hexT n).map (capB up) := by
  obtain ⟨t, rfl, ht⟩ := h
  have : t ≠ [] := fun e => hs (by rw [e]; rfl)
  rw [ht.fin this]; rfl
theorem CapSt.len {up : Bool} {n m : Nat} {s : Bs} (h : CapSt up n s m) : s.length ≤ (hexT n).length := by
  obtain ⟨t, rfl, ht⟩ := h
  rw [List.length_map]
  exact ht.len
theorem zeros_cons (j : Nat) (t : Bs) : 48 :: (List.replicate j (48 : UInt8) ++ t) = List.replicate (j + 1) 48 ++ t := by rw [List.replicate_succ]; rfl
end Hs
namespace Go.Proofs.YtblcgicgbindlaaDoor
open Go.RowKit Hs
set_option linter.unusedSimpArgs false
set_option linter.unusedVariables false

set_option maxHeartbeats 3200000 in
theorem law_group_low (n zs : Nat) (w : World) (hn : n < 65536) (hz : zs < 4) : Calls Tryd.prog 28 #[.int .u16 (n : Int), .int .i64 (zs : Int), .bool false] w fun e w' => e = .returned (.string (mk (grpT zs false n))) ∧ w = w' := by
  have HN := Lib.hid (hexT_len n hn)
  go_enter Tryd.func28, Tryd.ntmps28
  go_wp2
  go_loop [8, 9] (fun sv mv => ∃ (S : ByteArray) (m : Nat), sv = .string S ∧ mv = .int .u16 m ∧ m < 65536 ∧ S.size ≤ 4 ∧ Hid (CapSt false n (un S) m)) (fun sv mv => (intOf mv).toNat + (1 - strLen sv))
  case atStart => exact ⟨⟨#[]⟩, n, rfl, rfl, by omega, by decide, Lib.hid ⟨[], rfl, .inl ⟨rfl, rfl⟩⟩⟩
  case round =>
    obtain ⟨S, m, rfl, rfl, hm, hS, hst⟩ := hrel
    have l0 : 0 ≤ (m : Int) % 16 := by omega
    have l1 : (m : Int) % 16 + 1 ≤ 16 := by omega
    have l2 : ((m : Int) % 16).toNat = m % 16 := by omega
    have l3 : ((m : Int) % 16 + 1).toNat = m % 16 + 1 := by omega
    have l4 : (m : Int) % 16 ≤ (m : Int) % 16 + 1 := by omega
    have LH := Lib.hid (lit_low (m % 16) (by omega))
    have hsz : (mk [capB false (hexC (m % 16))]).size = 1 := by rw [size_mk]; rfl
    have hgo : (0 < m ∨ un S = []) → CapSt false n (capB false (hexC (m % 16)) :: un S) (m / 16) := fun h => hst.out.step h
    have hszz : (0 < m ∨ un S = []) → S.size + 1 ≤ 4 := fun h => by have h1 := (hgo h).len; have h2 := HN.out; rw [List.length_cons, length_un] at h1; omega
    by_cases hm0 : 0 < m
    · have g1 : decide ((0 : Int) < (m : Int)) = true := decide_eq_true (by omega)
      have hs2 := hszz (.inl hm0)
      have hst2 : Hid (CapSt false n (un (mk [capB false (hexC (m % 16))] ++ S)) (m / 16)) := Lib.hid (by rw [un_append, un_mk]; exact hgo (.inl hm0))
      have hs3 : (mk [capB false (hexC (m % 16))] ++ S).size ≤ 4 := by rw [ByteArray.size_append, hsz]; omega
      clear hgo hszz hst
      go_wp2
      all_goals (try (exfalso; omega))
      (try rw [LH.out])
      go_round
      case rel => exact ⟨_, m / 16, rfl, by go_num, by omega, hs3, hst2⟩
      case measure => simp [intOf, strLen]; omega
    · have g0 : decide ((0 : Int) < (m : Int)) = false := decide_eq_false (by omega)
      cases he : (un S).isEmpty
      · have hne : S.toList.isEmpty = false := by rw [toList_un]; exact he
        have hfin : Hid (un S = (hexT n).map (capB false)) := Lib.hid (by have h := hst.out; rw [show m = 0 by omega] at h; exact h.fin (by intro e; rw [e] at he; simp at he))
        clear hgo hszz hst he LH l0 l1 l2 l3 l4 hsz
        have HZ0 : Hid (un S = List.replicate 0 48 ++ (hexT n).map (capB false)) := Lib.hid (by rw [hfin.out]; rfl)
        have hSl : S.size = (hexT n).length := by rw [← length_un, hfin.out, List.length_map]
        obtain ⟨L, hL⟩ : ∃ L, L = (hexT n).length := ⟨_, rfl⟩
        rw [← hL] at hSl
        have HL := Lib.hid hL
        clear hfin hL
        go_wp2
        all_goals (try (exfalso; omega))
        go_loop [1, 8] (fun zv sv => ∃ (S : ByteArray) (j : Nat), sv = .string S ∧ zv = .int .i64 ((zs : Int) - (j : Int)) ∧ j ≤ zs ∧ S.size = L + j ∧ S.size ≤ 4 ∧ Hid (un S = List.replicate j 48 ++ (hexT n).map (capB false))) (fun zv _ => (intOf zv).toNat)
        case atStart => exact ⟨S, 0, rfl, by go_num, by omega, by omega, hS, HZ0⟩
        case round =>
          obtain ⟨S, j, rfl, rfl, hj, hSj, hS4, hst⟩ := hrel
          by_cases hmore : S.size < 4 ∧ j < zs
          · have g1 : decide ((S.size : Int) < 4) = true := decide_eq_true (by omega)
            have g2 : decide ((0 : Int) < (zs : Int) - (j : Int)) = true := decide_eq_true (by omega)
            have hst2 : Hid (un ((⟨#[48]⟩ : ByteArray) ++ S) = List.replicate (j + 1) 48 ++ (hexT n).map (capB false)) := Lib.hid (by rw [un_append, hst.out, ← zeros_cons]; rfl)
            have hs1 : ((⟨#[48]⟩ : ByteArray)).size = 1 := rfl
            have hs2 : ((⟨#[48]⟩ : ByteArray) ++ S).size = L + (j + 1) := by rw [ByteArray.size_append, hs1]; omega
            have hs3 : ((⟨#[48]⟩ : ByteArray) ++ S).size ≤ 4 := by rw [ByteArray.size_append, hs1]; omega
            clear hst
            go_wp2
            all_goals (try (exfalso; omega))
            go_round
            case rel => exact ⟨_, j + 1, rfl, by go_num, by omega, hs2, hs3, hst2⟩
            case measure => simp [intOf]; omega
          · have hj2 : Hid (j = min zs (4 - (hexT n).length)) := Lib.hid (by have := HL.out; omega)
            have hend : Hid (S = mk (grpT zs false n)) := Lib.hid (un_inj (by rw [un_mk, hst.out, hj2.out]; rfl))
            have hc : ¬ S.size < 4 ∨ (S.size < 4 ∧ ¬ j < zs) := by omega
            clear hst hj2 hmore
            rcases hc with h1 | ⟨h1, h2⟩
            · have g1 : decide ((S.size : Int) < 4) = false := decide_eq_false (by omega)
              go_wp2
              all_goals (try (exfalso; omega))
              go_ret
              rw [hend.out]
              exact ⟨rfl, rfl⟩
            · have g1 : decide ((S.size : Int) < 4) = true := decide_eq_true (by omega)
              have g2 : decide ((0 : Int) < (zs : Int) - (j : Int)) = false := decide_eq_false (by omega)
              go_wp2
              all_goals (try (exfalso; omega))
              go_ret
              rw [hend.out]
              exact ⟨rfl, rfl⟩
      · obtain rfl : m = 0 := by omega
        have hne : S.toList.isEmpty = true := by rw [toList_un]; exact he
        have hS0 : un S = [] := by simpa using he
        have hSs : S.size = 0 := by rw [← length_un, hS0]; rfl
        have hs2 := hszz (.inr hS0)
        have hst2 : Hid (CapSt false n (un (mk [capB false (hexC (0 % 16))] ++ S)) (0 / 16)) := Lib.hid (by rw [un_append, un_mk]; exact hgo (.inr hS0))
        have hs3 : (mk [capB false (hexC (0 % 16))] ++ S).size ≤ 4 := by rw [ByteArray.size_append, hsz]; omega
        clear hgo hszz hst he hS0
        go_wp2
        all_goals (try (exfalso; omega))
        (try rw [LH.out])
        go_round
        case rel => exact ⟨_, 0, rfl, by go_num, by omega, hs3, hst2⟩
        case measure => simp [intOf, strLen]; omega
set_option maxHeartbeats 3200000 in
theorem law_group_up (n zs : Nat) (w : World) (hn : n < 65536) (hz : zs < 4) : Calls Tryd.prog 28 #[.int .u16 (n : Int), .int .i64 (zs : Int), .bool true] w fun e w' => e = .returned (.string (mk (grpT zs true n))) ∧ w = w' := by
  have HN := Lib.hid (hexT_len n hn)
  go_enter Tryd.func28, Tryd.ntmps28
  go_wp2
  go_loop [8, 9] (fun sv mv => ∃ (S : ByteArray) (m : Nat), sv = .string S ∧ mv = .int .u16 m ∧ m < 65536 ∧ S.size ≤ 4 ∧ Hid (CapSt true n (un S) m)) (fun sv mv => (intOf mv).toNat + (1 - strLen sv))
  case atStart => exact ⟨⟨#[]⟩, n, rfl, rfl, by omega, by decide, Lib.hid ⟨[], rfl, .inl ⟨rfl, rfl⟩⟩⟩
  case round =>
    obtain ⟨S, m, rfl, rfl, hm, hS, hst⟩ := hrel
    have l0 : 0 ≤ (m : Int) % 16 := by omega
    have l1 : (m : Int) % 16 + 1 ≤ 16 := by omega
    have l2 : ((m : Int) % 16).toNat = m % 16 := by omega
    have l3 : ((m : Int) % 16 + 1).toNat = m % 16 + 1 := by omega
    have l4 : (m : Int) % 16 ≤ (m : Int) % 16 + 1 := by omega
    have LH := Lib.hid (lit_cap (m % 16) (by omega))
    have hsz : (mk [capB true (hexC (m % 16))]).size = 1 := by rw [size_mk]; rfl
    have hgo : (0 < m ∨ un S = []) → CapSt true n (capB true (hexC (m % 16)) :: un S) (m / 16) := fun h => hst.out.step h
    have hszz : (0 < m ∨ un S = []) → S.size + 1 ≤ 4 := fun h => by have h1 := (hgo h).len; have h2 := HN.out; rw [List.length_cons, length_un] at h1; omega
    by_cases hm0 : 0 < m
    · have g1 : decide ((0 : Int) < (m : Int)) = true := decide_eq_true (by omega)
      have hs2 := hszz (.inl hm0)
      have hst2 : Hid (CapSt true n (un (mk [capB true (hexC (m % 16))] ++ S)) (m / 16)) := Lib.hid (by rw [un_append, un_mk]; exact hgo (.inl hm0))
      have hs3 : (mk [capB true (hexC (m % 16))] ++ S).size ≤ 4 := by rw [ByteArray.size_append, hsz]; omega
      clear hgo hszz hst
      go_wp2
      all_goals (try (exfalso; omega))
      (try rw [LH.out])
      go_round
      case rel => exact ⟨_, m / 16, rfl, by go_num, by omega, hs3, hst2⟩
      case measure => simp [intOf, strLen]; omega
    · have g0 : decide ((0 : Int) < (m : Int)) = false := decide_eq_false (by omega)
      cases he : (un S).isEmpty
      · have hne : S.toList.isEmpty = false := by rw [toList_un]; exact he
        have hfin : Hid (un S = (hexT n).map (capB true)) := Lib.hid (by have h := hst.out; rw [show m = 0 by omega] at h; exact h.fin (by intro e; rw [e] at he; simp at he))
        clear hgo hszz hst he LH l0 l1 l2 l3 l4 hsz
        have HZ0 : Hid (un S = List.replicate 0 48 ++ (hexT n).map (capB true)) := Lib.hid (by rw [hfin.out]; rfl)
        have hSl : S.size = (hexT n).length := by rw [← length_un, hfin.out, List.length_map]
        obtain ⟨L, hL⟩ : ∃ L, L = (hexT n).length := ⟨_, rfl⟩
        rw [← hL] at hSl
        have HL := Lib.hid hL
        clear hfin hL
        go_wp2
        all_goals (try (exfalso; omega))
        go_loop [1, 8] (fun zv sv => ∃ (S : ByteArray) (j : Nat), sv = .string S ∧ zv = .int .i64 ((zs : Int) - (j : Int)) ∧ j ≤ zs ∧ S.size = L + j ∧ S.size ≤ 4 ∧ Hid (un S = List.replicate j 48 ++ (hexT n).map (capB true))) (fun zv _ => (intOf zv).toNat)
        case atStart => exact ⟨S, 0, rfl, by go_num, by omega, by omega, hS, HZ0⟩
        case round =>
          obtain ⟨S, j, rfl, rfl, hj, hSj, hS4, hst⟩ := hrel
          by_cases hmore : S.size < 4 ∧ j < zs
          · have g1 : decide ((S.size : Int) < 4) = true := decide_eq_true (by omega)
            have g2 : decide ((0 : Int) < (zs : Int) - (j : Int)) = true := decide_eq_true (by omega)
            have hst2 : Hid (un ((⟨#[48]⟩ : ByteArray) ++ S) = List.replicate (j + 1) 48 ++ (hexT n).map (capB true)) := Lib.hid (by rw [un_append, hst.out, ← zeros_cons]; rfl)
            have hs1 : ((⟨#[48]⟩ : ByteArray)).size = 1 := rfl
            have hs2 : ((⟨#[48]⟩ : ByteArray) ++ S).size = L + (j + 1) := by rw [ByteArray.size_append, hs1]; omega
            have hs3 : ((⟨#[48]⟩ : ByteArray) ++ S).size ≤ 4 := by rw [ByteArray.size_append, hs1]; omega
            clear hst
            go_wp2
            all_goals (try (exfalso; omega))
            go_round
            case rel => exact ⟨_, j + 1, rfl, by go_num, by omega, hs2, hs3, hst2⟩
            case measure => simp [intOf]; omega
          · have hj2 : Hid (j = min zs (4 - (hexT n).length)) := Lib.hid (by have := HL.out; omega)
            have hend : Hid (S = mk (grpT zs true n)) := Lib.hid (un_inj (by rw [un_mk, hst.out, hj2.out]; rfl))
            have hc : ¬ S.size < 4 ∨ (S.size < 4 ∧ ¬ j < zs) := by omega
            clear hst hj2 hmore
            rcases hc with h1 | ⟨h1, h2⟩
            · have g1 : decide ((S.size : Int) < 4) = false := decide_eq_false (by omega)
              go_wp2
              all_goals (try (exfalso; omega))
              go_ret
              rw [hend.out]
              exact ⟨rfl, rfl⟩
            · have g1 : decide ((S.size : Int) < 4) = true := decide_eq_true (by omega)
              have g2 : decide ((0 : Int) < (zs : Int) - (j : Int)) = false := decide_eq_false (by omega)
              go_wp2
              all_goals (try (exfalso; omega))
              go_ret
              rw [hend.out]
              exact ⟨rfl, rfl⟩
      · obtain rfl : m = 0 := by omega
        have hne : S.toList.isEmpty = true := by rw [toList_un]; exact he
        have hS0 : un S = [] := by simpa using he
        have hSs : S.size = 0 := by rw [← length_un, hS0]; rfl
        have hs2 := hszz (.inr hS0)
        have hst2 : Hid (CapSt true n (un (mk [capB true (hexC (0 % 16))] ++ S)) (0 / 16)) := Lib.hid (by rw [un_append, un_mk]; exact hgo (.inr hS0))
        have hs3 : (mk [capB true (hexC (0 % 16))] ++ S).size ≤ 4 := by rw [ByteArray.size_append, hsz]; omega
        clear hgo hszz hst he hS0
        go_wp2
        all_goals (try (exfalso; omega))
        (try rw [LH.out])
        go_round
        case rel => exact ⟨_, 0, rfl, by go_num, by omega, hs3, hst2⟩
        case measure => simp [intOf, strLen]; omega
theorem law_group (n zs : Nat) (up : Bool) (w : World) (hn : n < 65536) (hz : zs < 4) : Calls Tryd.prog 28 #[.int .u16 (n : Int), .int .i64 (zs : Int), .bool up] w fun e w' => e = .returned (.string (mk (grpT zs up n))) ∧ w = w' := by
  cases up
  · exact law_group_low n zs w hn hz
  · exact law_group_up n zs w hn hz
end Go.Proofs.YtblcgicgbindlaaDoor
