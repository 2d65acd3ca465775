/- The walk of digits of ipv4 at the base 10. Conditions: strings are of bounded length.
   The walk of digits of ipv4 at the bases 8 and 16. Conditions: strings are of bounded length.
   The walk of number of ipv4. Conditions: strings are of bounded length.
   The library's tables of UTF-8 stand, in memory that exists. Conditions: none.
   From a listed variable to its cells: an array of strings that reads as listed holds these strings. Conditions: none.
   What the library's table of powers of ten gives the walks. Conditions: none.
   The walks of the library's Split at a dot and of parts of ipv4. Conditions: strings are of bounded length; the library's tables stand. -/
import Derived.Test.YtjbciamhhfcdoaaGreatDoorSub15
import Derived.Test.YtjbciamhhfcdoaaGreatDoorSub05
import Derived.Test.YtjbciamhhfcdoaaGreatDoorRows
import Derived.Test.YtjbciamhhfcdoaaGreatDoorSub01
import Derived.Shelf.Unicode.DecodeSlow
import Derived.Below
import Derived.ProofKit
import Derived.OpenShut
import Derived.LaidMore
import Derived.Lib.LaidTab
import Derived.Lib.ItoaNum
import Derived.Stop.LaidErr
import Derived.Lib.SplitLaws
namespace Go.Proofs.YtjbciamhhfcdoaaGreatDoor
open Go.RowKit Hs
set_option linter.unusedSimpArgs false
set_option linter.unusedVariables false

theorem dig_cases (b : UInt8) : ((48 : Int) ≤ (b.toNat : Int) ∧ (b.toNat : Int) ≤ 57 ∧ digV b = b.toNat - 48) ∨ ((97 : Int) ≤ (b.toNat : Int) ∧ (b.toNat : Int) ≤ 102 ∧ digV b = b.toNat - 87) ∨ ((65 : Int) ≤ (b.toNat : Int) ∧ (b.toNat : Int) ≤ 70 ∧ digV b = b.toNat - 55) ∨ (((b.toNat : Int) < 48 ∨ 57 < (b.toNat : Int)) ∧ ((b.toNat : Int) < 97 ∨ 102 < (b.toNat : Int)) ∧ ((b.toNat : Int) < 65 ∨ 70 < (b.toNat : Int)) ∧ digV b = 99) := by
  unfold digV
  by_cases h1 : 48 ≤ b.toNat ∧ b.toNat ≤ 57
  · rw [if_pos h1]; omega
  · rw [if_neg h1]
    by_cases h2 : 97 ≤ b.toNat ∧ b.toNat ≤ 102
    · rw [if_pos h2]; omega
    · rw [if_neg h2]
      by_cases h3 : 65 ≤ b.toNat ∧ b.toNat ≤ 70
      · rw [if_pos h3]; omega
      · rw [if_neg h3]; omega

set_option maxHeartbeats 1600000 in
theorem i4_digits10 (s : ByteArray) (w : World) (hs : s.size ≤ 100000000) : Calls Tryz.prog 125 #[.string s, .int .i64 10] w fun e w' => e = .returned (.tuple #[.int .i64 (numB 10 (un s)).1, .bool (numB 10 (un s)).2]) ∧ w = w' := by
  go_enter Tryz.func125, Tryz.ntmps125
  go_wp2
  go_loop [6, 12] (fun nv iv => ∃ k : Nat, iv = .int .i64 k ∧ k ≤ s.size ∧ nv = .int .i64 (satB 10 ((un s).take k) 0) ∧ satB 10 ((un s).take k) 0 ≤ 1099511627776 ∧ Hid (allB 10 (un s) = allB 10 ((un s).drop k))) (fun _ iv => s.size - (intOf iv).toNat)
  case atStart => exact ⟨0, rfl, by omega, rfl, by simp [satB], rfl⟩
  case round =>
    obtain ⟨k, rfl, hk, rfl, hle, ha⟩ := hrel
    by_cases hlt : k < s.size
    · have hlu : k < (un s).length := by rw [length_un]; exact hlt
      have hst := Lib.hid (satB_take 10 (un s) k hlu)
      have hx := (s[k]'hlt).toNat_lt
      have hnx : Hid (digV (s[k]'hlt) < 10 → allB 10 (un s) = allB 10 ((un s).drop (k + 1))) := by
        intro h
        have e := ha.out
        rw [allB, allB, all_drop_eq (un s) _ k hlu true (decide_eq_true h)] at e
        exact e
      have hno : Hid (¬ digV (s[k]'hlt) < 10 → numB 10 (un s) = (0, false)) := by
        intro h
        have e : allB 10 (un s) = false := by rw [ha.out]; unfold allB; rw [all_drop_eq (un s) _ k hlu false (decide_eq_false h)]; rfl
        exact if_neg (by simp [e])
      clear ha
      obtain ⟨v, hv⟩ : ∃ v, v = satB 10 ((un s).take k) 0 := ⟨_, rfl⟩
      rw [← hv] at hle hst ⊢
      clear hv
      have hdc := dig_cases (s[k]'hlt)
      obtain ⟨q, hq⟩ : ∃ q, q = digV (s[k]'hlt) := ⟨_, rfl⟩
      rw [← hq] at hdc hnx hno
      have hst' : Hid (satB 10 ((un s).take (k + 1)) 0 = min (v * 10 + q) 1099511627776) := by rw [hq]; exact hst.out
      clear hst hq
      by_cases hqb : q < 10
      · have HN := Lib.hid (hnx.out hqb)
        clear hnx hno
        rcases hdc with ⟨h1, h2, h3⟩ | ⟨h1, h2, h3⟩ | ⟨h1, h2, h3⟩ | ⟨h1, h2, h3, h4⟩
        all_goals (try (exfalso; omega))
        all_goals
          go_wp2
          all_goals (try (exfalso; omega))
          go_round
          case rel =>
            refine ⟨k + 1, by go_num, by omega, ?_, by rw [hst'.out]; omega, HN⟩
            rw [hst'.out]
            congr 1
            omega
          case measure => simp [intOf]; omega
      · have HN := Lib.hid (hno.out hqb)
        clear hnx hno
        rcases hdc with ⟨h1, h2, h3⟩ | ⟨h1, h2, h3⟩ | ⟨h1, h2, h3⟩ | ⟨h1, h2, h3, h4⟩
        all_goals (try (exfalso; omega))
        all_goals
          go_wp2
          all_goals (try (exfalso; omega))
          all_goals
            go_ret2
            exact ⟨by rw [HN.out]; rfl, rfl⟩
    · obtain rfl : k = s.size := by omega
      have htk : (un s).take s.size = un s := List.take_of_length_le (by rw [length_un]; exact Nat.le_refl _)
      have hfin : Hid (numB 10 (un s) = (satB 10 (un s) 0, true)) := by
        have e : allB 10 (un s) = true := by rw [ha.out, List.drop_eq_nil_of_le (by rw [length_un]; exact Nat.le_refl _)]; rfl
        exact if_pos e
      clear ha
      rw [htk] at hle ⊢
      go_wp2
      all_goals (try (exfalso; omega))
      go_ret2
      exact ⟨by rw [hfin.out]; rfl, rfl⟩
end Go.Proofs.YtjbciamhhfcdoaaGreatDoor
namespace Go.Proofs.YtjbciamhhfcdoaaGreatDoor
open Go.RowKit Hs
set_option linter.unusedSimpArgs false
set_option linter.unusedVariables false

set_option maxHeartbeats 1600000 in
theorem i4_digits8 (s : ByteArray) (w : World) (hs : s.size ≤ 100000000) : Calls Tryz.prog 125 #[.string s, .int .i64 8] w fun e w' => e = .returned (.tuple #[.int .i64 (numB 8 (un s)).1, .bool (numB 8 (un s)).2]) ∧ w = w' := by
  go_enter Tryz.func125, Tryz.ntmps125
  go_wp2
  go_loop [6, 12] (fun nv iv => ∃ k : Nat, iv = .int .i64 k ∧ k ≤ s.size ∧ nv = .int .i64 (satB 8 ((un s).take k) 0) ∧ satB 8 ((un s).take k) 0 ≤ 1099511627776 ∧ Hid (allB 8 (un s) = allB 8 ((un s).drop k))) (fun _ iv => s.size - (intOf iv).toNat)
  case atStart => exact ⟨0, rfl, by omega, rfl, by simp [satB], rfl⟩
  case round =>
    obtain ⟨k, rfl, hk, rfl, hle, ha⟩ := hrel
    by_cases hlt : k < s.size
    · have hlu : k < (un s).length := by rw [length_un]; exact hlt
      have hst := Lib.hid (satB_take 8 (un s) k hlu)
      have hx := (s[k]'hlt).toNat_lt
      have hnx : Hid (digV (s[k]'hlt) < 8 → allB 8 (un s) = allB 8 ((un s).drop (k + 1))) := by
        intro h
        have e := ha.out
        rw [allB, allB, all_drop_eq (un s) _ k hlu true (decide_eq_true h)] at e
        exact e
      have hno : Hid (¬ digV (s[k]'hlt) < 8 → numB 8 (un s) = (0, false)) := by
        intro h
        have e : allB 8 (un s) = false := by rw [ha.out]; unfold allB; rw [all_drop_eq (un s) _ k hlu false (decide_eq_false h)]; rfl
        exact if_neg (by simp [e])
      clear ha
      obtain ⟨v, hv⟩ : ∃ v, v = satB 8 ((un s).take k) 0 := ⟨_, rfl⟩
      rw [← hv] at hle hst ⊢
      clear hv
      have hdc := dig_cases (s[k]'hlt)
      obtain ⟨q, hq⟩ : ∃ q, q = digV (s[k]'hlt) := ⟨_, rfl⟩
      rw [← hq] at hdc hnx hno
      have hst' : Hid (satB 8 ((un s).take (k + 1)) 0 = min (v * 8 + q) 1099511627776) := by rw [hq]; exact hst.out
      clear hst hq
      by_cases hqb : q < 8
      · have HN := Lib.hid (hnx.out hqb)
        clear hnx hno
        rcases hdc with ⟨h1, h2, h3⟩ | ⟨h1, h2, h3⟩ | ⟨h1, h2, h3⟩ | ⟨h1, h2, h3, h4⟩
        all_goals (try (exfalso; omega))
        all_goals
          go_wp2
          all_goals (try (exfalso; omega))
          go_round
          case rel =>
            refine ⟨k + 1, by go_num, by omega, ?_, by rw [hst'.out]; omega, HN⟩
            rw [hst'.out]
            congr 1
            omega
          case measure => simp [intOf]; omega
      · have HN := Lib.hid (hno.out hqb)
        clear hnx hno
        rcases hdc with ⟨h1, h2, h3⟩ | ⟨h1, h2, h3⟩ | ⟨h1, h2, h3⟩ | ⟨h1, h2, h3, h4⟩
        all_goals (try (exfalso; omega))
        all_goals
          go_wp2
          all_goals (try (exfalso; omega))
          all_goals
            go_ret2
            exact ⟨by rw [HN.out]; rfl, rfl⟩
    · obtain rfl : k = s.size := by omega
      have htk : (un s).take s.size = un s := List.take_of_length_le (by rw [length_un]; exact Nat.le_refl _)
      have hfin : Hid (numB 8 (un s) = (satB 8 (un s) 0, true)) := by
        have e : allB 8 (un s) = true := by rw [ha.out, List.drop_eq_nil_of_le (by rw [length_un]; exact Nat.le_refl _)]; rfl
        exact if_pos e
      clear ha
      rw [htk] at hle ⊢
      go_wp2
      all_goals (try (exfalso; omega))
      go_ret2
      exact ⟨by rw [hfin.out]; rfl, rfl⟩
set_option maxHeartbeats 1600000 in
theorem i4_digits16 (s : ByteArray) (w : World) (hs : s.size ≤ 100000000) : Calls Tryz.prog 125 #[.string s, .int .i64 16] w fun e w' => e = .returned (.tuple #[.int .i64 (numB 16 (un s)).1, .bool (numB 16 (un s)).2]) ∧ w = w' := by
  go_enter Tryz.func125, Tryz.ntmps125
  go_wp2
  go_loop [6, 12] (fun nv iv => ∃ k : Nat, iv = .int .i64 k ∧ k ≤ s.size ∧ nv = .int .i64 (satB 16 ((un s).take k) 0) ∧ satB 16 ((un s).take k) 0 ≤ 1099511627776 ∧ Hid (allB 16 (un s) = allB 16 ((un s).drop k))) (fun _ iv => s.size - (intOf iv).toNat)
  case atStart => exact ⟨0, rfl, by omega, rfl, by simp [satB], rfl⟩
  case round =>
    obtain ⟨k, rfl, hk, rfl, hle, ha⟩ := hrel
    by_cases hlt : k < s.size
    · have hlu : k < (un s).length := by rw [length_un]; exact hlt
      have hst := Lib.hid (satB_take 16 (un s) k hlu)
      have hx := (s[k]'hlt).toNat_lt
      have hnx : Hid (digV (s[k]'hlt) < 16 → allB 16 (un s) = allB 16 ((un s).drop (k + 1))) := by
        intro h
        have e := ha.out
        rw [allB, allB, all_drop_eq (un s) _ k hlu true (decide_eq_true h)] at e
        exact e
      have hno : Hid (¬ digV (s[k]'hlt) < 16 → numB 16 (un s) = (0, false)) := by
        intro h
        have e : allB 16 (un s) = false := by rw [ha.out]; unfold allB; rw [all_drop_eq (un s) _ k hlu false (decide_eq_false h)]; rfl
        exact if_neg (by simp [e])
      clear ha
      obtain ⟨v, hv⟩ : ∃ v, v = satB 16 ((un s).take k) 0 := ⟨_, rfl⟩
      rw [← hv] at hle hst ⊢
      clear hv
      have hdc := dig_cases (s[k]'hlt)
      obtain ⟨q, hq⟩ : ∃ q, q = digV (s[k]'hlt) := ⟨_, rfl⟩
      rw [← hq] at hdc hnx hno
      have hst' : Hid (satB 16 ((un s).take (k + 1)) 0 = min (v * 16 + q) 1099511627776) := by rw [hq]; exact hst.out
      clear hst hq
      by_cases hqb : q < 16
      · have HN := Lib.hid (hnx.out hqb)
        clear hnx hno
        rcases hdc with ⟨h1, h2, h3⟩ | ⟨h1, h2, h3⟩ | ⟨h1, h2, h3⟩ | ⟨h1, h2, h3, h4⟩
        all_goals (try (exfalso; omega))
        all_goals
          go_wp2
          all_goals (try (exfalso; omega))
          go_round
          case rel =>
            refine ⟨k + 1, by go_num, by omega, ?_, by rw [hst'.out]; omega, HN⟩
            rw [hst'.out]
            congr 1
            omega
          case measure => simp [intOf]; omega
      · have HN := Lib.hid (hno.out hqb)
        clear hnx hno
        rcases hdc with ⟨h1, h2, h3⟩ | ⟨h1, h2, h3⟩ | ⟨h1, h2, h3⟩ | ⟨h1, h2, h3, h4⟩
        all_goals (try (exfalso; omega))
        all_goals
          go_wp2
          all_goals (try (exfalso; omega))
          all_goals
            go_ret2
            exact ⟨by rw [HN.out]; rfl, rfl⟩
    · obtain rfl : k = s.size := by omega
      have htk : (un s).take s.size = un s := List.take_of_length_le (by rw [length_un]; exact Nat.le_refl _)
      have hfin : Hid (numB 16 (un s) = (satB 16 (un s) 0, true)) := by
        have e : allB 16 (un s) = true := by rw [ha.out, List.drop_eq_nil_of_le (by rw [length_un]; exact Nat.le_refl _)]; rfl
        exact if_pos e
      clear ha
      rw [htk] at hle ⊢
      go_wp2
      all_goals (try (exfalso; omega))
      go_ret2
      exact ⟨by rw [hfin.out]; rfl, rfl⟩
end Go.Proofs.YtjbciamhhfcdoaaGreatDoor
namespace Go.Proofs.YtjbciamhhfcdoaaGreatDoor
open Go.RowKit Hs
set_option linter.unusedSimpArgs false
set_option linter.unusedVariables false

theorem un_tail (s : ByteArray) (k : Nat) : un (s.extract k s.size) = (un s).drop k := by
  rw [un_extract, List.take_of_length_le (by rw [List.length_drop, length_un]; omega)]
set_option maxHeartbeats 800000 in
theorem i4_number (s : ByteArray) (w : World) (hs : s.size ≤ 100000000) : Calls Tryz.prog 124 #[.string s] w fun e w' => e = .returned (.tuple #[.int .i64 (numP (un s)).1, .bool (numP (un s)).2]) ∧ w = w' := by
  have c16 := fun w => i4_digits16 (s.extract 2 s.size) w (by rw [ByteArray.size_extract]; omega)
  have c8 := fun w => i4_digits8 (s.extract 1 s.size) w (by rw [ByteArray.size_extract]; omega)
  have c10 := fun w => i4_digits10 s w hs
  have ch := fun w => i4_hex s w hs
  simp only [un_tail] at c16 c8
  have hlen : s.size = (un s).length := (length_un s).symm
  cases he : (un s).isEmpty
  · have h1 : s.toList.isEmpty = false := by rw [toList_un]; exact he
    have hne : un s ≠ [] := fun e => by rw [e] at he; cases he
    have hpos : 0 < s.size := by rw [hlen]; exact List.length_pos_iff.2 hne
    cases hx : hexP (un s)
    · rw [hx] at ch
      by_cases h8 : 1 < s.size ∧ (un s)[0]? = some 48
      · have ep : numP (un s) = numB 8 ((un s).drop 1) := by
          unfold numP; rw [if_neg hne, hx, if_neg (by decide), if_pos (by rw [← hlen]; exact h8)]
        rw [ep]
        have h0 : (s[0]'hpos).toNat = 48 := by
          have := h8.2
          rw [List.getElem?_eq_getElem (by rw [← hlen]; exact hpos)] at this
          have h := Option.some.inj this
          show ((un s)[0]'(by rw [← hlen]; exact hpos)).toNat = 48
          rw [h]; rfl
        have hgt := h8.1
        have C8 := Lib.hid c8; have CH := Lib.hid ch
        clear c16 c8 c10 ch he hne hx h8 ep hlen
        go_enter Tryz.func124, Tryz.ntmps124
        go_wp2_with fail
        refine (CH.out _).mono ?_; rintro e w1 ⟨rfl, rfl⟩
        go_wp2_with fail
        all_goals (try (exfalso; omega))
        refine (C8.out _).mono ?_; rintro e w1 ⟨rfl, rfl⟩
        go_wp2_with fail
        go_ret2
        exact ⟨by rw [List.drop_one]; rfl, rfl⟩
      · have ep : numP (un s) = numB 10 (un s) := by
          unfold numP; rw [if_neg hne, hx, if_neg (by decide), if_neg (by rw [← hlen]; exact h8)]
        rw [ep]
        have h0 : 1 < s.size → (s[0]'hpos).toNat ≠ 48 := by
          intro hgt h
          refine h8 ⟨hgt, ?_⟩
          rw [List.getElem?_eq_getElem (by rw [← hlen]; exact hpos)]
          congr 1
          exact UInt8.toNat_inj.1 h
        have C10 := Lib.hid c10; have CH := Lib.hid ch
        clear c16 c8 c10 ch he hne hx h8 ep hlen
        by_cases hgt : 1 < s.size
        · have h0' := h0 hgt
          clear h0
          go_enter Tryz.func124, Tryz.ntmps124
          go_wp2_with fail
          refine (CH.out _).mono ?_; rintro e w1 ⟨rfl, rfl⟩
          go_wp2_with fail
          all_goals (try (exfalso; omega))
          refine (C10.out _).mono ?_; rintro e w1 ⟨rfl, rfl⟩
          go_wp2_with fail
          go_ret2
          exact ⟨rfl, rfl⟩
        · clear h0
          go_enter Tryz.func124, Tryz.ntmps124
          go_wp2_with fail
          refine (CH.out _).mono ?_; rintro e w1 ⟨rfl, rfl⟩
          go_wp2_with fail
          refine (C10.out _).mono ?_; rintro e w1 ⟨rfl, rfl⟩
          go_wp2_with fail
          go_ret2
          exact ⟨rfl, rfl⟩
    · rw [hx] at ch
      have ep : numP (un s) = numB 16 ((un s).drop 2) := by
        unfold numP; rw [if_neg hne, hx, if_pos rfl]
      rw [ep]
      have hgt : 2 ≤ s.size := by
        rw [hlen]
        match h : un s, hx with
        | a :: b :: r, _ => simp
      have C16 := Lib.hid c16; have CH := Lib.hid ch
      clear c16 c8 c10 ch he hne hx ep hlen
      go_enter Tryz.func124, Tryz.ntmps124
      go_wp2_with fail
      refine (CH.out _).mono ?_; rintro e w1 ⟨rfl, rfl⟩
      go_wp2_with fail
      refine (C16.out _).mono ?_; rintro e w1 ⟨rfl, rfl⟩
      go_wp2_with fail
      go_ret2
      exact ⟨rfl, rfl⟩
  · have h1 : s.toList.isEmpty = true := by rw [toList_un]; exact he
    have ep : numP (un s) = (0, false) := by unfold numP; rw [if_pos (by simpa using he)]
    rw [ep]
    clear c16 c8 c10 ch ep hlen he
    go_enter Tryz.func124, Tryz.ntmps124
    go_wp2
    go_ret2
    exact ⟨rfl, rfl⟩
end Go.Proofs.YtjbciamhhfcdoaaGreatDoor
namespace Go.Proofs.YtjbciamhhfcdoaaGreatDoor
open Go.RowKit Hs
set_option linter.unusedVariables false
def U8 (w : World) : Prop := Lib.Utf8Tabs 1 2 w
theorem U8.below {w w' : World} (h : U8 w) (hb : Below w.heap.size w w') : U8 w' := by
  have key : ∀ g k v, w.cell? ⟨g, k, none⟩ = some v → w'.cell? ⟨g, k, none⟩ = some v := fun g k v e => ((bcell hb).1 g k (World.block_lt_of_cell? w _ e)).trans e
  exact ⟨fun c hc => key _ _ _ (h.1 c hc), fun i hi => ⟨key _ _ _ (h.2 i hi).1, key _ _ _ (h.2 i hi).2⟩⟩
end Go.Proofs.YtjbciamhhfcdoaaGreatDoor
namespace Hs
open Go Go.RowKit Go.ChangeShapes

/-- A list of byte strings as data: an array of strings. -/
def strData {H : Type} (ts : List Bs) : DataW H := .agg (ts.map fun l => .lit (.string l))

theorem cells_of_strs {H : Type} {enc : TypeId × Value → H} {P : Program} {w : World} {base : Nat} {sp : Nat → Bool} {held : Bool} {fuel : Nat} {t e : TypeId} {n : Nat} {cs : List Value} {ts : List Bs} {p : List MemPlace}
    (ht : P.underlying t = some (.array n e)) (he : P.underlying e = some .string) (hce : P.cellsOf e = 1) (hct : P.cellsOf t = n)
    (h : DataW.trod enc P w base sp held fuel t cs = some (strData ts, p)) : cs = scells ts := by
  cases fuel with
  | zero => simp [DataW.trod] at h
  | succ fuel =>
    simp only [DataW.trod, ht, hce, hct, Nat.mul_one] at h
    split at h
    · rename_i hl
      obtain ⟨xs, hm, hx⟩ := Option.map_eq_some_iff.1 h
      have hxs : xs.map (·.1) = ts.map fun l => (DataW.lit (.string l) : DataW H) := by
        have := congrArg Prod.fst hx
        simpa [strData] using this
      have hxl : xs.length = n := by simpa using Lib.mapM_length hm
      have hzl : ts.length = n := by
        have := congrArg List.length hxs
        simp at this
        omega
      apply List.ext_getElem?
      intro i
      by_cases hi : i < n
      · obtain ⟨b, hb, hf⟩ := Lib.mapM_at hm i i (by simp [hi])
        obtain ⟨z, hc, rfl, _⟩ := DataW.trod_string he hf
        have h1 : cs[i]? = some (.string z) := by
          have := congrArg (·[0]?) hc
          simpa [List.getElem?_take, List.getElem?_drop] using this
        have h2 : (xs.map (·.1))[i]? = some (DataW.lit (.string z.data.toList) : DataW H) := by simp [hb]
        rw [hxs] at h2
        simp only [List.getElem?_map, Option.map_eq_some_iff, DataW.lit.injEq, Lit.string.injEq] at h2
        obtain ⟨z', hz', e⟩ := h2
        have e' : z' = un z := e
        subst e'
        simp [h1, scells, hz']
      · rw [List.getElem?_eq_none (by omega), List.getElem?_eq_none (by simp; omega)]
    · cases h
end Hs
namespace Go.Proofs.YtjbciamhhfcdoaaGreatDoor
open Go.RowKit Hs
set_option linter.unusedVariables false

/-- The library's table of powers of ten stands, in memory that exists. -/
def Tab (w : World) : Prop := Lib.TabIs Tryz.prog w "internal/strconv.uint64pow10" .u64 Lib.pow10Tab ∧ 3 < w.heap.size
theorem gTab : Tryz.prog.globalNamed "internal/strconv.uint64pow10" = some 3 := by kernel_rfl
theorem Tab.below {w w' : World} (h : Tab w) (hb : Below w.heap.size w w') : Tab w' := by
  refine ⟨?_, by have := hb.size; have := h.2; omega⟩
  have h1 := h.1
  unfold Lib.TabIs at *
  rw [← h1]
  unfold World.var?
  rw [gTab]
  simp only [Option.bind_some]
  rw [hb.block _ h.2]
theorem tTab3 : (Tryz.prog.globals[3]?).map (·.type) = some 256 := by kernel_rfl
theorem cellsTab3 : Tryz.prog.cellsOf 256 = 20 := by kernel_rfl
theorem cellsU64 : Tryz.prog.cellsOf 167 = 1 := by kernel_rfl
end Go.Proofs.YtjbciamhhfcdoaaGreatDoor
namespace Go.Proofs.YtjbciamhhfcdoaaGreatDoor
open Go.RowKit Hs
set_option linter.unusedSimpArgs false
set_option linter.unusedVariables false

/-- What the walks ask of memory: the library's table and its variable. -/
def Base (w : World) : Prop := Tab w ∧ (∃ m, w.cell? ⟨0, 0, none⟩ = some (.int .i64 m)) ∧ U8 w
theorem Base.below {w w' : World} (h : Base w) (hb : Below w.heap.size w w') : Base w' := by
  obtain ⟨h1, ⟨m, h2⟩, h3⟩ := h
  exact ⟨h1.below hb, ⟨m, ((bcell hb).1 0 0 (World.block_lt_of_cell? w _ h2)).trans h2⟩, h3.below hb⟩
theorem lib_split (s : ByteArray) (w : World) (hB : Base w) (hs : s.size ≤ 100000000) : Calls Tryz.prog 179 #[.string s, .string ⟨#[46]⟩] w fun e w' => ∃ v, e = .returned v ∧ Strs w' v (splitD 46 (un s)) ∧ Below w.heap.size w w' := by
  obtain ⟨_, ⟨m, hm⟩, _⟩ := hB
  refine (Tryz.strings_Split s ⟨#[46]⟩ m w (by omega) hm (by decide)).mono ?_
  rintro e w' ⟨rfl, rfl⟩
  have hlen := Lib.splitB_all (⟨#[46]⟩ : ByteArray) (by decide) 0 (Lib.countB s ⟨#[46]⟩) s rfl
  have hle := Lib.count_le s.data.toList [46]
  have hmap : (Lib.splitB (⟨#[46]⟩ : ByteArray) 0 (Lib.countB s ⟨#[46]⟩) s).map un = splitD 46 (un s) := (Lib.splitB_data _ 0 _ s).trans (split_one 46 (un s))
  have hl1 := length_un s
  have hst := strs_lit w (Lib.splitB (⟨#[46]⟩ : ByteArray) 0 (Lib.countB s ⟨#[46]⟩) s) 9 (by rw [hlen]; show Lib.count s.data.toList [46] + 1 ≤ maxLen; unfold maxLen; change (s.data.toList).length = s.size at hl1; omega)
  rw [hmap, hlen] at hst
  exact ⟨_, rfl, hst, (Below.refl _ w).alloc (Nat.le_refl _) _⟩

theorem cut_strs {w : World} {A : List Bs} {x : Bs} {a : Option Addr} {n c : Nat} (h : Strs w (.slice a (n + 1) c) (A ++ [x])) (hn : A.length = n) : Strs w (.slice a n c) A := by
  subst hn
  obtain ⟨hl, a', c', hv, hn, hm, hc⟩ := h
  injection hv with e1 e2 e3
  subst e1; subst e3
  rw [List.length_append] at hn
  refine ⟨by simp, _, _, rfl, by omega, hm, ?_⟩
  rcases Nat.eq_zero_or_pos A.length with h0 | hpos
  · exact .inl h0
  · obtain ⟨b, off, rfl, hb, hcell⟩ := hc.resolve_left (by simp)
    exact .inr ⟨b, off, rfl, hb, fun j u hj => hcell j u (by rw [scells_append, List.getElem?_append_left (by have := (List.getElem?_eq_some_iff.1 hj).1; exact this)]; exact hj)⟩

set_option maxHeartbeats 800000 in
theorem i4_parts (s : ByteArray) (w : World) (hB : Base w) (hs : s.size ≤ 100000000) : Calls Tryz.prog 122 #[.string s] w fun e w' => ∃ v, e = .returned v ∧ Strs w' v (partsD (un s)) ∧ Below w.heap.size w w' := by
  have HS := Lib.hid (lib_split s w hB hs)
  go_enter Tryz.func122, Tryz.ntmps122
  go_wp2_with fail
  refine HS.out.mono ?_
  rintro e w1 ⟨v, rfl, hst, hb⟩
  clear HS
  have hpos := splitD_pos (un s)
  have hpd : Hid (partsD (un s) = if 1 < (splitD 46 (un s)).length ∧ (splitD 46 (un s)).getLast? = some [] then (splitD 46 (un s)).dropLast else splitD 46 (un s)) := Lib.hid rfl
  obtain ⟨P, hP⟩ : ∃ P, P = partsD (un s) := ⟨_, rfl⟩
  rw [← hP] at hpd
  have HP := Lib.hid hP
  clear hP
  generalize splitD 46 (un s) = L at hst hpos hpd
  rcases List.eq_nil_or_concat L with rfl | ⟨A, x, hL⟩
  · simp at hpos
  rw [List.concat_eq_append] at hL
  subst hL
  have hpd2 : Hid (P = if 1 < (A ++ [x]).length ∧ x = [] then A else A ++ [x]) := Lib.hid (by rw [hpd.out]; simp)
  clear hpd hpos
  obtain ⟨a, c, rfl, hn, hm, hc⟩ := hst.open
  unfold maxLen at hm
  obtain ⟨b, off, rfl, hb1, hcell⟩ := hc (by simp)
  obtain ⟨n, hA⟩ : ∃ n, A.length = n := ⟨_, rfl⟩
  have hlen : (A ++ [x]).length = n + 1 := by simp [hA]
  have c0 := hcell n (by rw [hlen]; omega)
  rw [List.getElem_append_right (by omega)] at c0
  simp only [hA, Nat.sub_self, List.getElem_singleton] at c0
  have hca : n + 1 ≤ c := by rw [← hlen]; exact hn
  rw [hlen] at hst ⊢
  rw [hlen] at hpd2
  have HST := Lib.hid hst
  clear hc hcell hn hst hlen
  by_cases h0 : 0 < n
  · have h0' : (0 : Int) < (n : Int) := by omega
    cases hx : x.isEmpty
    · have hfin : Hid (P = A ++ [x]) := Lib.hid (by rw [hpd2.out, if_neg (by rintro ⟨_, rfl⟩; cases hx)])
      have hx2 : (mk x).toList.isEmpty = false := by rw [toList_un, un_mk]; exact hx
      clear hpd2 hx
      go_wp2_with fail
      all_goals (try (exfalso; omega))
      go_ret
      exact ⟨_, rfl, by rw [← HP.out, hfin.out]; exact HST.out, hb⟩
    · have hfin : Hid (P = A) := Lib.hid (by rw [hpd2.out, if_pos ⟨by omega, by simpa using hx⟩])
      have hx2 : (mk x).toList.isEmpty = true := by rw [toList_un, un_mk]; exact hx
      have HC := Lib.hid (cut_strs HST.out hA)
      clear hpd2 hx
      go_wp2_with fail
      all_goals (try (exfalso; omega))
      go_ret
      exact ⟨_, rfl, by rw [← HP.out, hfin.out]; exact HC.out, hb⟩
  · obtain rfl : n = 0 := by omega
    have hfin : Hid (P = A ++ [x]) := Lib.hid (by rw [hpd2.out, if_neg (by omega)])
    clear hpd2
    go_wp2_with fail
    all_goals (try (exfalso; omega))
    go_ret
    exact ⟨_, rfl, by rw [← HP.out, hfin.out]; exact HST.out, hb⟩
end Go.Proofs.YtjbciamhhfcdoaaGreatDoor
