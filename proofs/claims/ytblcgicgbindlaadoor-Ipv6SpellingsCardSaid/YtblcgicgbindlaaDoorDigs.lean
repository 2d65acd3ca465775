/- The walks of digits of the law of layer 10 at the bases 8, 10, 16. Conditions: the number has at most 32 bits. -/
import Derived.Test.YtblcgicgbindlaaDoorAsciiText
import Derived.Test.YtblcgicgbindlaaDoorPlainIpv4S
namespace Go.Proofs.YtblcgicgbindlaaDoor
open Go.RowKit Hs
set_option linter.unusedSimpArgs false
set_option linter.unusedVariables false

set_option maxHeartbeats 1600000 in
theorem law_digits10 (n : Nat) (w : World) (hn : n < 4294967296) : Calls Tryd.prog 21 #[.int .i64 (n : Int), .int .i64 10] w fun e w' => e = .returned (.string (mk (spell 10 n))) ∧ Below w.heap.size w w' := by
  have HN := Lib.hid (digs_len 10 (by decide) 64 n (by omega) (by decide))
  have e0 : spell 10 n = digsN 10 n := by rfl
  rw [e0]
  clear e0
  go_enter Tryd.func21, Tryd.ntmps21
  go_wp2
  go_loopw [5, 6] (fun sv mv wr => ∃ (S : ByteArray) (m : Nat), sv = .string S ∧ mv = .int .i64 m ∧ m < 4294967296 ∧ S.size ≤ 64 ∧ Hid (DigSt 10 n (un S) m) ∧ Below w.heap.size w wr) (fun sv mv _ => (intOf mv).toNat + (1 - strLen sv))
  case atStart => exact ⟨⟨#[]⟩, n, rfl, rfl, by omega, by decide, Lib.hid (.inl ⟨rfl, rfl⟩), Below.refl _ _⟩
  case round =>
    obtain ⟨S, m, rfl, rfl, hm, hS, hst, hnx⟩ := hrel
    have l0 : 0 ≤ (m : Int) % 10 := by omega
    have l1 : (m : Int) % 10 + 1 ≤ 16 := by omega
    have l2 : ((m : Int) % 10).toNat = m % 10 := by omega
    have l3 : ((m : Int) % 10 + 1).toNat = m % 10 + 1 := by omega
    have l4 : (m : Int) % 10 ≤ (m : Int) % 10 + 1 := by omega
    have LH := Lib.hid (lit_hex (m % 10) (by omega))
    have hsz : (mk [hexC (m % 10)]).size = 1 := by rw [size_mk]; rfl
    have hgo : (0 < m ∨ un S = []) → DigSt 10 n (hexC (m % 10) :: un S) (m / 10) := fun h => hst.out.step (by decide) h
    have hszz : (0 < m ∨ un S = []) → S.size + 1 ≤ 64 := fun h => by have := (hgo h).len; have := HN.out; rw [List.length_cons, length_un] at *; omega
    by_cases hm0 : 0 < m
    · have g1 : decide ((0 : Int) < (m : Int)) = true := decide_eq_true (by omega)
      have hs2 := hszz (.inl hm0)
      have hst2 : Hid (DigSt 10 n (un (mk [hexC (m % 10)] ++ S)) (m / 10)) := Lib.hid (by rw [un_append, un_mk]; exact hgo (.inl hm0))
      have hs3 : (mk [hexC (m % 10)] ++ S).size ≤ 64 := by rw [ByteArray.size_append, hsz]; omega
      clear hgo hszz hst
      go_wp2
      go_region
      all_goals
        go_wp2
        all_goals (try (exfalso; omega))
        (try rw [LH.out])
        go_roundw
        case rel => exact ⟨_, m / 10, rfl, by go_num, by omega, hs3, hst2, hnx.trans (Below.refl _ _).drew⟩
        case measure => simp [intOf, strLen]; omega
    · obtain rfl : m = 0 := by omega
      cases he : (un S).isEmpty
      · have hne : S.toList.isEmpty = false := by rw [toList_un]; exact he
        have hfin : Hid (S = mk (digsN 10 n)) := Lib.hid (un_inj (by rw [un_mk]; exact hst.out.fin (by intro e; rw [e] at he; simp at he)))
        clear hgo hszz hst he LH
        go_wp2_with fail
        all_goals (try (exfalso; omega))
        go_ret
        exact ⟨by rw [hfin.out]; rfl, hnx⟩
      · have hne : S.toList.isEmpty = true := by rw [toList_un]; exact he
        have hS0 : un S = [] := by simpa using he
        have hSs : S.size = 0 := by rw [← length_un, hS0]; rfl
        have hs2 := hszz (.inr hS0)
        have hst2 : Hid (DigSt 10 n (un (mk [hexC (0 % 10)] ++ S)) (0 / 10)) := Lib.hid (by rw [un_append, un_mk]; exact hgo (.inr hS0))
        have hs3 : (mk [hexC (0 % 10)] ++ S).size ≤ 64 := by rw [ByteArray.size_append, hsz]; omega
        clear hgo hszz hst he hS0
        go_wp2
        go_region
        all_goals
          go_wp2
          all_goals (try (exfalso; omega))
          (try rw [LH.out])
          go_roundw
          case rel => exact ⟨_, 0, rfl, by go_num, by omega, hs3, hst2, hnx.trans (Below.refl _ _).drew⟩
          case measure => simp [intOf, strLen]; omega
set_option maxHeartbeats 1600000 in
theorem law_digits8 (n : Nat) (w : World) (hn : n < 4294967296) : Calls Tryd.prog 21 #[.int .i64 (n : Int), .int .i64 8] w fun e w' => e = .returned (.string (mk (spell 8 n))) ∧ Below w.heap.size w w' := by
  have HN := Lib.hid (digs_len 8 (by decide) 64 n (by omega) (by decide))
  have e0 : spell 8 n = 48 :: digsN 8 n := by rfl
  rw [e0]
  clear e0
  go_enter Tryd.func21, Tryd.ntmps21
  go_wp2
  go_loopw [5, 6] (fun sv mv wr => ∃ (S : ByteArray) (m : Nat), sv = .string S ∧ mv = .int .i64 m ∧ m < 4294967296 ∧ S.size ≤ 64 ∧ Hid (DigSt 8 n (un S) m) ∧ Below w.heap.size w wr) (fun sv mv _ => (intOf mv).toNat + (1 - strLen sv))
  case atStart => exact ⟨⟨#[]⟩, n, rfl, rfl, by omega, by decide, Lib.hid (.inl ⟨rfl, rfl⟩), Below.refl _ _⟩
  case round =>
    obtain ⟨S, m, rfl, rfl, hm, hS, hst, hnx⟩ := hrel
    have l0 : 0 ≤ (m : Int) % 8 := by omega
    have l1 : (m : Int) % 8 + 1 ≤ 16 := by omega
    have l2 : ((m : Int) % 8).toNat = m % 8 := by omega
    have l3 : ((m : Int) % 8 + 1).toNat = m % 8 + 1 := by omega
    have l4 : (m : Int) % 8 ≤ (m : Int) % 8 + 1 := by omega
    have LH := Lib.hid (lit_hex (m % 8) (by omega))
    have hsz : (mk [hexC (m % 8)]).size = 1 := by rw [size_mk]; rfl
    have hgo : (0 < m ∨ un S = []) → DigSt 8 n (hexC (m % 8) :: un S) (m / 8) := fun h => hst.out.step (by decide) h
    have hszz : (0 < m ∨ un S = []) → S.size + 1 ≤ 64 := fun h => by have := (hgo h).len; have := HN.out; rw [List.length_cons, length_un] at *; omega
    by_cases hm0 : 0 < m
    · have g1 : decide ((0 : Int) < (m : Int)) = true := decide_eq_true (by omega)
      have hs2 := hszz (.inl hm0)
      have hst2 : Hid (DigSt 8 n (un (mk [hexC (m % 8)] ++ S)) (m / 8)) := Lib.hid (by rw [un_append, un_mk]; exact hgo (.inl hm0))
      have hs3 : (mk [hexC (m % 8)] ++ S).size ≤ 64 := by rw [ByteArray.size_append, hsz]; omega
      clear hgo hszz hst
      go_wp2
      go_region
      all_goals
        go_wp2
        all_goals (try (exfalso; omega))
        (try rw [LH.out])
        go_roundw
        case rel => exact ⟨_, m / 8, rfl, by go_num, by omega, hs3, hst2, hnx.trans (Below.refl _ _).drew⟩
        case measure => simp [intOf, strLen]; omega
    · obtain rfl : m = 0 := by omega
      cases he : (un S).isEmpty
      · have hne : S.toList.isEmpty = false := by rw [toList_un]; exact he
        have hfin : Hid (S = mk (digsN 8 n)) := Lib.hid (un_inj (by rw [un_mk]; exact hst.out.fin (by intro e; rw [e] at he; simp at he)))
        clear hgo hszz hst he LH
        go_wp2_with fail
        all_goals (try (exfalso; omega))
        go_ret
        exact ⟨by rw [hfin.out]; exact ret_str (by rw [un_append, un_mk]; rfl), hnx⟩
      · have hne : S.toList.isEmpty = true := by rw [toList_un]; exact he
        have hS0 : un S = [] := by simpa using he
        have hSs : S.size = 0 := by rw [← length_un, hS0]; rfl
        have hs2 := hszz (.inr hS0)
        have hst2 : Hid (DigSt 8 n (un (mk [hexC (0 % 8)] ++ S)) (0 / 8)) := Lib.hid (by rw [un_append, un_mk]; exact hgo (.inr hS0))
        have hs3 : (mk [hexC (0 % 8)] ++ S).size ≤ 64 := by rw [ByteArray.size_append, hsz]; omega
        clear hgo hszz hst he hS0
        go_wp2
        go_region
        all_goals
          go_wp2
          all_goals (try (exfalso; omega))
          (try rw [LH.out])
          go_roundw
          case rel => exact ⟨_, 0, rfl, by go_num, by omega, hs3, hst2, hnx.trans (Below.refl _ _).drew⟩
          case measure => simp [intOf, strLen]; omega
set_option maxHeartbeats 1600000 in
theorem law_digits16 (n : Nat) (w : World) (hn : n < 4294967296) : Calls Tryd.prog 21 #[.int .i64 (n : Int), .int .i64 16] w fun e w' => e = .returned (.string (mk (spell 16 n))) ∧ Below w.heap.size w w' := by
  have HN := Lib.hid (digs_len 16 (by decide) 64 n (by omega) (by decide))
  have e0 : spell 16 n = 48 :: 88 :: digsN 16 n := by rfl
  rw [e0]
  clear e0
  go_enter Tryd.func21, Tryd.ntmps21
  go_wp2
  go_loopw [5, 6] (fun sv mv wr => ∃ (S : ByteArray) (m : Nat), sv = .string S ∧ mv = .int .i64 m ∧ m < 4294967296 ∧ S.size ≤ 64 ∧ Hid (DigSt 16 n (un S) m) ∧ Below w.heap.size w wr) (fun sv mv _ => (intOf mv).toNat + (1 - strLen sv))
  case atStart => exact ⟨⟨#[]⟩, n, rfl, rfl, by omega, by decide, Lib.hid (.inl ⟨rfl, rfl⟩), Below.refl _ _⟩
  case round =>
    obtain ⟨S, m, rfl, rfl, hm, hS, hst, hnx⟩ := hrel
    have l0 : 0 ≤ (m : Int) % 16 := by omega
    have l1 : (m : Int) % 16 + 1 ≤ 16 := by omega
    have l2 : ((m : Int) % 16).toNat = m % 16 := by omega
    have l3 : ((m : Int) % 16 + 1).toNat = m % 16 + 1 := by omega
    have l4 : (m : Int) % 16 ≤ (m : Int) % 16 + 1 := by omega
    have LH := Lib.hid (lit_hex (m % 16) (by omega))
    have hsz : (mk [hexC (m % 16)]).size = 1 := by rw [size_mk]; rfl
    have hgo : (0 < m ∨ un S = []) → DigSt 16 n (hexC (m % 16) :: un S) (m / 16) := fun h => hst.out.step (by decide) h
    have hszz : (0 < m ∨ un S = []) → S.size + 1 ≤ 64 := fun h => by have := (hgo h).len; have := HN.out; rw [List.length_cons, length_un] at *; omega
    by_cases hm0 : 0 < m
    · have g1 : decide ((0 : Int) < (m : Int)) = true := decide_eq_true (by omega)
      have hs2 := hszz (.inl hm0)
      have hst2 : Hid (DigSt 16 n (un (mk [hexC (m % 16)] ++ S)) (m / 16)) := Lib.hid (by rw [un_append, un_mk]; exact hgo (.inl hm0))
      have hs3 : (mk [hexC (m % 16)] ++ S).size ≤ 64 := by rw [ByteArray.size_append, hsz]; omega
      clear hgo hszz hst
      go_wp2
      go_region
      all_goals
        go_wp2
        all_goals (try (exfalso; omega))
        (try rw [LH.out])
        go_roundw
        case rel => exact ⟨_, m / 16, rfl, by go_num, by omega, hs3, hst2, hnx.trans (Below.refl _ _).drew⟩
        case measure => simp [intOf, strLen]; omega
    · obtain rfl : m = 0 := by omega
      cases he : (un S).isEmpty
      · have hne : S.toList.isEmpty = false := by rw [toList_un]; exact he
        have hfin : Hid (S = mk (digsN 16 n)) := Lib.hid (un_inj (by rw [un_mk]; exact hst.out.fin (by intro e; rw [e] at he; simp at he)))
        have hl := fun W => ref01_lower S W (by omega)
        have hu : un S = digsN 16 n := by rw [hfin.out, un_mk]
        rw [hu, lower_digs 16 (by decide) (by decide) n] at hl
        have HL := Lib.hid hl
        clear hl hu
        have hsz2 : (digsN 16 n).length ≤ 64 := HN.out
        clear hgo hszz hst he LH
        go_wp2_with fail
        all_goals (try (exfalso; omega))
        refine (HL.out _).mono ?_; rintro e w2 ⟨rfl, hb2⟩
        go_wp2
        go_ret
        exact ⟨ret_str (by rw [un_append, un_mk]; rfl), hnx.trans (hb2.mono hnx.size)⟩
      · have hne : S.toList.isEmpty = true := by rw [toList_un]; exact he
        have hS0 : un S = [] := by simpa using he
        have hSs : S.size = 0 := by rw [← length_un, hS0]; rfl
        have hs2 := hszz (.inr hS0)
        have hst2 : Hid (DigSt 16 n (un (mk [hexC (0 % 16)] ++ S)) (0 / 16)) := Lib.hid (by rw [un_append, un_mk]; exact hgo (.inr hS0))
        have hs3 : (mk [hexC (0 % 16)] ++ S).size ≤ 64 := by rw [ByteArray.size_append, hsz]; omega
        clear hgo hszz hst he hS0
        go_wp2
        go_region
        all_goals
          go_wp2
          all_goals (try (exfalso; omega))
          (try rw [LH.out])
          go_roundw
          case rel => exact ⟨_, 0, rfl, by go_num, by omega, hs3, hst2, hnx.trans (Below.refl _ _).drew⟩
          case measure => simp [intOf, strLen]; omega
end Go.Proofs.YtblcgicgbindlaaDoor
