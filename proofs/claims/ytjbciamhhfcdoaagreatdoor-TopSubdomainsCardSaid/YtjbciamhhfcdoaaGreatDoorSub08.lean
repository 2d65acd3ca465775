/- The walks of proper and Valid of the reference of labels. Conditions: the text's length is bounded.
   The walks of Valid of labels: the reference's. Conditions: the text's length is bounded.
   A block of cells that is known whole, as a list; worlds that differ in one block. No program in sight. Conditions: none. -/
import Derived.Test.YtjbciamhhfcdoaaGreatDoorSub07
import Derived.Test.YtjbciamhhfcdoaaGreatDoorSub05
import Derived.Test.YtjbciamhhfcdoaaGreatDoorSub01
namespace Hs
open Go Go.RowKit
theorem any_take_succ (l : List Nat) (f : Nat → Bool) (k : Nat) (h : k < l.length) : (l.take (k + 1)).any f = ((l.take k).any f || f l[k]) := by
  rw [List.take_succ_eq_append_getElem h, List.any_append]
  simp
theorem any_take_true (l : List Nat) (f : Nat → Bool) (k : Nat) (h : k < l.length) (hf : f l[k] = true) : l.any f = true :=
  List.any_eq_true.2 ⟨l[k], List.getElem_mem h, hf⟩
theorem properV_none {l : Bs} (h : decV l = none) : properV l = false := by unfold properV; rw [h]
theorem properV_some {l : Bs} {p : List Nat} (h : decV l = some p) : properV l = (!(p.any (fun n => decide (65 ≤ n ∧ n ≤ 90))) && p.any (fun n => decide (128 ≤ n)) && decide (encV p = some l)) := by unfold properV; rw [h]
end Hs
namespace Go.Proofs.YtjbciamhhfcdoaaGreatDoor
open Go.RowKit Hs
set_option linter.unusedSimpArgs false
set_option linter.unusedVariables false

set_option maxRecDepth 20000 in
set_option maxHeartbeats 4000000 in
theorem r13_proper (s : ByteArray) (w : World) (hs : s.size ≤ 100000000) : Calls Tryz.prog 65 #[.string s] w fun e w' => e = .returned (.bool (properV (un s))) ∧ Below w.heap.size w w' := by
  have hdec := r12_decode s w hs
  have HDEC := Lib.hid hdec
  clear hdec
  go_enter Tryz.func65, Tryz.ntmps65
  go_wp2_with fail
  refine HDEC.out.mono ?_; rintro e w2 ⟨⟨v, c, rfl, hres⟩, hb2⟩
  have HB2 := Lib.hid hb2
  clear hb2 HDEC
  rcases hres with ⟨rfl, pts, hdv, hown⟩ | ⟨hc, rfl, hnone⟩
  · have hok := decV_ok hdv
    have hP := properV_some hdv
    have hbig : ∀ p ∈ pts, p ≤ 1152921504606846976 := fun p hp => by have := all_take_ok pts hok.1 p hp; omega
    have hN := Nums.owned hown
    have henc := r12_encode v pts w2 hN (by omega) hbig
    have HP := Lib.hid hP
    obtain ⟨a, cp, rfl, hn1, hn2, hcell⟩ := hN.open
    have hlen : pts.length ≤ 256 := hok.2
    have HCELL := Lib.hid hcell
    obtain ⟨m, hm⟩ : ∃ m, m = pts.length := ⟨_, rfl⟩
    rw [← hm] at hlen hn1 henc ⊢
    have HM := Lib.hid hm
    have HENC := Lib.hid henc
    clear hdv hP hbig hok hown hN henc hcell hm
    go_wp2
    all_goals (try (exfalso; omega))
    go_loop [5, 6] (fun ov iv => ∃ (k : Nat) (b : Bool), iv = .int .i64 k ∧ ov = .bool b ∧ k ≤ m ∧ Hid (b = (pts.take k).any (fun n => decide (128 ≤ n))) ∧ Hid ((pts.take k).any (fun n => decide (65 ≤ n ∧ n ≤ 90)) = false)) (fun _ iv => m - (intOf iv).toNat)
    case atStart => exact ⟨0, false, rfl, rfl, by omega, Lib.hid rfl, Lib.hid rfl⟩
    case round =>
      obtain ⟨k, b, rfl, rfl, hk, hb, hu⟩ := hrel
      by_cases hlt : k < m
      · have hkl : k < pts.length := by rw [← HM.out]; exact hlt
        obtain ⟨B, off, rfl, hB, hcell⟩ := HCELL.out (by omega)
        have c0 := hcell k hkl
        have hb2 := any_take_succ pts (fun n => decide (128 ≤ n)) k hkl
        have hu2 := any_take_succ pts (fun n => decide (65 ≤ n ∧ n ≤ 90)) k hkl
        have ht2 := any_take_true pts (fun n => decide (65 ≤ n ∧ n ≤ 90)) k hkl
        rw [← hb.out] at hb2
        rw [hu.out, Bool.false_or] at hu2
        obtain ⟨x, hx⟩ : ∃ x, x = pts[k] := ⟨_, rfl⟩
        rw [← hx] at c0 hb2 hu2 ht2
        have HB := Lib.hid hb2
        have HU := Lib.hid hu2
        have HT := Lib.hid ht2
        clear hcell hx hb2 hu2 ht2 hb hu hkl
        by_cases hup : 65 ≤ x ∧ x ≤ 90
        · have hfin := Lib.hid (HP.out.trans (by rw [HT.out (decide_eq_true hup)]))
          have g1 : decide ((65 : Int) ≤ (x : Int)) = true := decide_eq_true (by omega)
          have g2 : decide ((x : Int) ≤ 90) = true := decide_eq_true (by omega)
          have g3 : decide ((128 : Int) ≤ (x : Int)) = false := decide_eq_false (by omega)
          clear HP HU HT HENC
          cases b
          all_goals
            go_wp2
            all_goals (try (exfalso; omega))
            go_ret
            rw [hfin.out]
            exact ⟨rfl, HB2.out⟩
        · have hu3 : Hid ((pts.take (k + 1)).any (fun n => decide (65 ≤ n ∧ n ≤ 90)) = false) := Lib.hid (HU.out.trans (decide_eq_false hup))
          clear HU HT
          have hsplit : x < 65 ∨ (90 < x ∧ x < 128) ∨ 128 ≤ x := by omega
          rcases hsplit with h1 | ⟨h1, h2⟩ | h1
          · have g1 : decide ((65 : Int) ≤ (x : Int)) = false := decide_eq_false (by omega)
            have g3 : decide ((128 : Int) ≤ (x : Int)) = false := decide_eq_false (by omega)
            have hB3 := HB.out
            rw [show decide (128 ≤ x) = false from decide_eq_false (by omega), Bool.or_false] at hB3
            have HB3 := Lib.hid hB3
            clear hB3 HB
            cases b
            all_goals
              go_wp2
              all_goals (try (exfalso; omega))
              go_round
              case rel => exact ⟨k + 1, _, by go_num, rfl, by omega, Lib.hid HB3.out.symm, hu3⟩
              case measure => simp [intOf]; omega
          · have g1 : decide ((65 : Int) ≤ (x : Int)) = true := decide_eq_true (by omega)
            have g2 : decide ((x : Int) ≤ 90) = false := decide_eq_false (by omega)
            have g3 : decide ((128 : Int) ≤ (x : Int)) = false := decide_eq_false (by omega)
            have hB3 := HB.out
            rw [show decide (128 ≤ x) = false from decide_eq_false (by omega), Bool.or_false] at hB3
            have HB3 := Lib.hid hB3
            clear hB3 HB
            cases b
            all_goals
              go_wp2
              all_goals (try (exfalso; omega))
              go_round
              case rel => exact ⟨k + 1, _, by go_num, rfl, by omega, Lib.hid HB3.out.symm, hu3⟩
              case measure => simp [intOf]; omega
          · have g1 : decide ((65 : Int) ≤ (x : Int)) = true := decide_eq_true (by omega)
            have g2 : decide ((x : Int) ≤ 90) = false := decide_eq_false (by omega)
            have g3 : decide ((128 : Int) ≤ (x : Int)) = true := decide_eq_true (by omega)
            have hB3 := HB.out
            rw [show decide (128 ≤ x) = true from decide_eq_true (by omega), Bool.or_true] at hB3
            have HB3 := Lib.hid hB3
            clear hB3 HB
            cases b
            all_goals
              go_wp2
              all_goals (try (exfalso; omega))
              go_round
              case rel => exact ⟨k + 1, true, by go_num, rfl, by omega, Lib.hid HB3.out.symm, hu3⟩
              case measure => simp [intOf]; omega
      · have hkm : pts.take k = pts := List.take_of_length_le (by rw [← HM.out]; omega)
        have hb2 := hb.out
        have hu2 := hu.out
        rw [hkm] at hb2 hu2
        have hP2 := HP.out
        rw [hu2, ← hb2, Bool.not_false, Bool.true_and] at hP2
        have HP2 := Lib.hid hP2
        clear HP hb hu hb2 hu2 hP2 hkm
        go_wp2_with fail
        all_goals (try (exfalso; omega))
        refine HENC.out.mono ?_; rintro e w3 ⟨⟨s3, c3, rfl, hres⟩, hb3⟩
        have HB3 := Lib.hid (HB2.out.trans (hb3.mono HB2.out.size))
        clear hb3 HENC
        rcases hres with ⟨rfl, henc⟩ | ⟨hc3, rfl, henc⟩
        · have hP3 := HP2.out
          rw [henc] at hP3
          have HP3 := Lib.hid hP3
          clear HP2 hP3 henc
          by_cases he : un s3 = un s
          · have hq : (s3.toList == s.toList) = true := by rw [toList_un, toList_un, he]; simp
            have hF := HP3.out
            rw [he, decide_eq_true rfl, Bool.and_true] at hF
            have HF := Lib.hid hF
            clear HP3 hF he
            cases b
            all_goals
              go_wp2
              all_goals (try (exfalso; omega))
              go_ret
              rw [HF.out]
              exact ⟨rfl, HB3.out⟩
          · have hq : (s3.toList == s.toList) = false := by rw [toList_un, toList_un]; simpa using he
            have hF := HP3.out
            rw [decide_eq_false (by intro h; exact he (Option.some.inj h)), Bool.and_false] at hF
            have HF := Lib.hid hF
            clear HP3 hF he
            cases b
            all_goals
              go_wp2
              all_goals (try (exfalso; omega))
              go_ret
              rw [HF.out]
              exact ⟨rfl, HB3.out⟩
        · have hP3 := HP2.out
          rw [henc] at hP3
          have g4 : (c3 == 0) = false := by simpa using hc3
          have HP3 := Lib.hid hP3
          clear HP2 hP3 henc hc3
          go_wp2
          all_goals (try (exfalso; omega))
          go_ret
          rw [HP3.out]
          exact ⟨by simp, HB3.out⟩
  · have hcb : (c != 0) = true := by simpa using hc
    have hP := Lib.hid (properV_none hnone)
    clear hc hnone
    go_wp2
    all_goals (try (exfalso; omega))
    go_ret
    rw [hP.out]
    exact ⟨rfl, HB2.out⟩
end Go.Proofs.YtjbciamhhfcdoaaGreatDoor
namespace Hs
open Go Go.RowKit
theorem labelV_false {l : Bs} (h : ¬ (1 ≤ l.length ∧ l.length ≤ 63 ∧ l.head? ≠ some 45 ∧ l.getLast? ≠ some 45)) : labelV l = false := by unfold labelV; rw [decide_eq_false h]; rfl
theorem labelV_good {l : Bs} (h : 1 ≤ l.length ∧ l.length ≤ 63 ∧ l.head? ≠ some 45 ∧ l.getLast? ≠ some 45) : labelV l = (l.all labB && (!(decide (l.take 4 = [120, 110, 45, 45])) || properV (l.drop 4))) := by unfold labelV; rw [decide_eq_true h, Bool.true_and]
theorem all_take_drop (l : Bs) (f : UInt8 → Bool) (k : Nat) (h : k < l.length) : (l.drop k).all f = (f l[k] && (l.drop (k + 1)).all f) := by
  rw [List.drop_eq_getElem_cons h, List.all_cons]
theorem head_un (s : ByteArray) (h : 0 < s.size) : (un s).head? = some s[0] := by
  rw [List.head?_eq_getElem?, List.getElem?_eq_getElem (by simpa using h), getElem_un s 0 h]
theorem last_un (s : ByteArray) (h : 0 < s.size) : (un s).getLast? = some (s[s.size - 1]'(by omega)) := by
  rw [List.getLast?_eq_getElem?, length_un, List.getElem?_eq_getElem (by rw [length_un]; omega), getElem_un s (s.size - 1) (by omega)]
theorem ne45 {b : UInt8} (h : b.toNat ≠ 45) : b ≠ 45 := fun e => h (by rw [e]; rfl)
theorem eq45 {b : UInt8} (h : b.toNat = 45) : b = 45 := UInt8.toNat_inj.1 h
end Hs
namespace Go.Proofs.YtjbciamhhfcdoaaGreatDoor
open Go.RowKit Hs
set_option linter.unusedSimpArgs false
set_option linter.unusedVariables false

set_option maxRecDepth 20000 in
set_option maxHeartbeats 4000000 in
theorem r13_valid (s : ByteArray) (w : World) (hs : s.size ≤ 100000000) : Calls Tryz.prog 29 #[.string s] w fun e w' => e = .returned (.bool (labelV (un s))) ∧ Below w.heap.size w w' := by
  have hlen : (un s).length = s.size := length_un s
  have hF := @labelV_false (un s)
  have hG := @labelV_good (un s)
  rcases Nat.eq_zero_or_pos s.size with h0 | hpos
  · have hfin := Lib.hid (hF (by rw [hlen]; omega))
    have hsE : s = ⟨#[]⟩ := by
      apply un_inj
      exact List.eq_nil_of_length_eq_zero (by omega)
    subst hsE
    clear hF hG hlen h0 hs
    go_enter Tryz.func29, Tryz.ntmps29
    go_wp2
    all_goals (try (exfalso; omega))
    go_ret
    rw [hfin.out]
    exact ⟨rfl, Below.refl _ _⟩
  · have hh := head_un s hpos
    have hl := last_un s hpos
    rw [hh, hl, hlen] at hF hG
    obtain ⟨n, hn⟩ : ∃ n, n = s.size := ⟨_, rfl⟩
    have hem : s.toList.isEmpty = false := by
      rw [List.isEmpty_eq_false_iff, toList_un]
      intro h
      rw [h] at hlen
      simp at hlen
      omega
    have hp1 : s.size - 1 < s.size := by omega
    have hF63 := Lib.hid (fun h : 63 < s.size => hF (by omega))
    have hF0 := Lib.hid (fun h : s[0].toNat = 45 => hF (by rw [eq45 h]; simp))
    have hFz := Lib.hid (fun h : (s[s.size - 1]'hp1).toNat = 45 => hF (by rw [eq45 h]; simp))
    have hGG := Lib.hid (fun (h1 : ¬ 63 < s.size) (h2 : s[0].toNat ≠ 45) (h3 : (s[s.size - 1]'hp1).toNat ≠ 45) => hG ⟨by omega, by omega, by simpa using ne45 h2, by simpa using ne45 h3⟩)
    clear hF hG hh hl
    go_enter Tryz.func29, Tryz.ntmps29
    by_cases h63 : 63 < s.size
    · have hfin := Lib.hid (hF63.out h63)
      clear hF63 hF0 hFz hGG
      go_wp2
      all_goals (try (exfalso; omega))
      go_ret
      rw [hfin.out]
      exact ⟨rfl, Below.refl _ _⟩
    · have g0 : decide ((63 : Int) < (s.size : Int)) = false := decide_eq_false (by omega)
      by_cases hA : s[0].toNat = 45
      · have hfin := Lib.hid (hF0.out hA)
        have c0 : (s[0].toNat : Int) = 45 := by omega
        clear hF63 hF0 hFz hGG hA
        go_wp2
        all_goals (try (exfalso; omega))
        go_ret
        rw [hfin.out]
        exact ⟨rfl, Below.refl _ _⟩
      · by_cases hZ : (s[s.size - 1]'hp1).toNat = 45
        · have hfin := Lib.hid (hFz.out hZ)
          have g1 : ((s[0].toNat : Int) == 45) = false := by simp; omega
          have c1 : ((s[s.size - 1]'hp1).toNat : Int) = 45 := by omega
          clear hF63 hF0 hFz hGG hA hZ
          go_wp2
          all_goals (try (exfalso; omega))
          go_ret
          rw [hfin.out]
          exact ⟨rfl, Below.refl _ _⟩
        · have hdef := hGG.out h63 hA hZ
          have g1 : ((s[0].toNat : Int) == 45) = false := by simp; omega
          have g2 : (((s[s.size - 1]'hp1).toNat : Int) == 45) = false := by simp; omega
          obtain ⟨l, hl⟩ : ∃ l, l = un s := ⟨_, rfl⟩
          rw [← hl] at hdef hlen ⊢
          have HL := Lib.hid hl
          have HDEF := Lib.hid hdef
          have HLEN := Lib.hid hlen
          clear hF63 hF0 hFz hGG hA hZ hdef hl hlen
          go_wp2
          all_goals (try (exfalso; omega))
          clear g1 g2 g0
          go_loop [3] (fun iv => ∃ k : Nat, iv = .int .i64 k ∧ k ≤ s.size ∧ Hid (l.all labB = (l.drop k).all labB)) (fun iv => s.size - (intOf iv).toNat)
          case atStart => exact ⟨0, rfl, by omega, Lib.hid (by rw [List.drop_zero])⟩
          case round =>
            obtain ⟨k, rfl, hk, hall⟩ := hrel
            by_cases hlt : k < s.size
            · have hkl : k < l.length := by rw [HLEN.out]; exact hlt
              have hx : l[k] = s[k] := by
                have := HL.out
                subst this
                exact getElem_un s k hlt
              have hstep := all_take_drop l labB k hkl
              rw [hx] at hstep
              have hb256 := (s[k]).toNat_lt
              have hlab : labB s[k] = decide ((97 ≤ (s[k]).toNat ∧ (s[k]).toNat ≤ 122) ∨ (48 ≤ (s[k]).toNat ∧ (s[k]).toNat ≤ 57) ∨ (s[k]).toNat = 45 ∨ (s[k]).toNat = 95) := rfl
              obtain ⟨x, hx2⟩ : ∃ x, x = (s[k]).toNat := ⟨_, rfl⟩
              have cs : (s[k].toNat : Int) = (x : Int) := by rw [hx2]
              rw [← hx2] at hb256 hlab
              rw [hlab] at hstep
              have HST := Lib.hid hstep
              clear hstep hlab hx hx2 hkl
              by_cases hok : (97 ≤ x ∧ x ≤ 122) ∨ (48 ≤ x ∧ x ≤ 57) ∨ x = 45 ∨ x = 95
              · have hall2 : Hid (l.all labB = (l.drop (k + 1)).all labB) := Lib.hid (by rw [hall.out, HST.out, decide_eq_true hok, Bool.true_and])
                clear hall HST
                rcases hok with hok | hok | rfl | rfl
                all_goals
                  go_wp2
                  all_goals (try (exfalso; omega))
                  go_round
                  case rel => exact ⟨k + 1, by go_num, by omega, hall2⟩
                  case measure => simp [intOf]; omega
              · have hfin : Hid (labelV l = false) := Lib.hid (by rw [HDEF.out, hall.out, HST.out, decide_eq_false hok]; rfl)
                have g45 : ((x : Int) == 45) = false := by simp; omega
                have g95 : ((x : Int) == 95) = false := by simp; omega
                clear hall HST HDEF
                go_wp2
                all_goals (try (exfalso; omega))
                all_goals
                  go_ret
                  rw [hfin.out]
                  exact ⟨rfl, Below.refl _ _⟩
            · have hall2 : l.all labB = true := by rw [hall.out, List.drop_of_length_le (by rw [HLEN.out]; omega)]; rfl
              have hdef2 := HDEF.out
              rw [hall2, Bool.true_and] at hdef2
              have HDEF2 := Lib.hid hdef2
              clear hdef2 hall2 hall HDEF
              by_cases h4 : s.size < 4
              · have hne : ¬ l.take 4 = [120, 110, 45, 45] := by
                  intro h
                  have := congrArg List.length h
                  rw [List.length_take, HLEN.out] at this
                  simp at this
                  omega
                have hfin := HDEF2.out
                rw [decide_eq_false hne, Bool.not_false, Bool.true_or] at hfin
                have HFIN := Lib.hid hfin
                clear HDEF2 hfin hne
                have g4 : decide ((s.size : Int) < 4) = true := decide_eq_true (by omega)
                go_wp2
                all_goals (try (exfalso; omega))
                go_ret
                rw [HFIN.out]
                exact ⟨rfl, Below.refl _ _⟩
              · have g4 : decide ((s.size : Int) < 4) = false := decide_eq_false (by omega)
                have h4I : (4 : Int) ≤ (s.size : Int) := by omega
                have hx4 : un (s.extract 0 4) = l.take 4 := by rw [un_extract, HL.out]; simp
                have hxr : un (s.extract 4 s.size) = l.drop 4 := by
                  rw [un_extract, HL.out]
                  apply List.take_of_length_le
                  rw [List.length_drop, length_un]
                  exact Nat.le_refl _
                have hpr := r13_proper (s.extract 4 s.size) w (by have := congrArg List.length hxr; rw [length_un, List.length_drop, HLEN.out] at this; omega)
                rw [hxr] at hpr
                have HPR := Lib.hid hpr
                obtain ⟨x4, hx⟩ : ∃ x4, x4 = s.extract 0 4 := ⟨_, rfl⟩
                rw [← hx] at hx4
                have hx' : s.extract 0 4 = x4 := hx.symm
                clear hpr hx
                by_cases hp : l.take 4 = [120, 110, 45, 45]
                · have hq : (x4.toList == [120, 110, 45, 45]) = true := by rw [toList_un, hx4, hp]; rfl
                  have hq2 : (x4.toList != [120, 110, 45, 45]) = false := by rw [bne, hq]; rfl
                  have hfin := HDEF2.out
                  rw [decide_eq_true hp, Bool.not_true, Bool.false_or] at hfin
                  have HFIN := Lib.hid hfin
                  clear HDEF2 hfin hp hx4 hxr
                  go_wp2_with fail
                  all_goals (try (exfalso; omega))
                  refine HPR.out.mono ?_; rintro e w9 ⟨rfl, hb9⟩
                  go_wp2
                  all_goals (try (exfalso; omega))
                  go_ret
                  rw [HFIN.out]
                  exact ⟨rfl, hb9⟩
                · have hq : (x4.toList == [120, 110, 45, 45]) = false := by
                    rw [toList_un, hx4]
                    simpa using hp
                  have hq2 : (x4.toList != [120, 110, 45, 45]) = true := by rw [bne, hq]; rfl
                  have hfin := HDEF2.out
                  rw [decide_eq_false hp, Bool.not_false, Bool.true_or] at hfin
                  have HFIN := Lib.hid hfin
                  clear HDEF2 hfin hp hx4 hxr
                  go_wp2
                  all_goals (try (exfalso; omega))
                  go_ret
                  rw [HFIN.out]
                  exact ⟨rfl, Below.refl _ _⟩
end Go.Proofs.YtjbciamhhfcdoaaGreatDoor
namespace Hs
open Go Go.RowKit
set_option linter.unusedVariables false
set_option linter.unusedSimpArgs false
def BlkL (w : World) (g : Nat) (T : TypeId) (l : List Value) : Prop := w.heap[g]? = some (.cells l.toArray T (0, 0))
variable {w w' : World} {g : Nat} {T : TypeId} {l : List Value}
theorem BlkL.lt (h : BlkL w g T l) : g < w.heap.size := (Array.getElem?_eq_some_iff.1 h).1
theorem BlkL.c (h : BlkL w g T l) (k : Nat) (v : Value) (hk : l[k]? = some v) : w.cell? ⟨g, k, none⟩ = some v := by
  unfold BlkL at h
  simp [World.cell?, h, hk]
theorem BlkL.f (h : BlkL w g T l) (k : Nat) : w.frozen? ⟨g, k, none⟩ = false := by
  unfold BlkL at h
  simp [World.frozen?, h]
theorem BlkL.below (h : BlkL w g T l) {b : Nat} (hg : g < b) (hb : Below b w w') : BlkL w' g T l := (hb.block g hg).trans h
theorem BlkL.alloc (h : BlkL w g T l) (o : Obj) : BlkL (w.alloc o) g T l := (Below.heap_alloc w o g h.lt).trans h
theorem BlkL.new (w : World) (T : TypeId) (l : List Value) : BlkL (w.alloc (.cells l.toArray T)) w.heap.size T l := heap_alloc_new w _
theorem BlkL.other (h : BlkL w g T l) {p : Nat} (hp : g ≠ p) (j : Nat) (v : Value) : BlkL (w.setCell ⟨p, j, none⟩ v) g T l := (Below.heap_setCell w ⟨p, j, none⟩ v g hp).trans h
theorem BlkL.grown {row : Option Nat} (h : BlkL w g T l) (hg : w.grownBy w' row) (hn : some g ≠ row) : BlkL w' g T l := (hg.block g h.lt hn).trans h
theorem BlkL.drewN (h : BlkL w g T l) (n : Nat) : BlkL (w.drewN n) g T l := h
theorem BlkL.drew (h : BlkL w g T l) : BlkL w.drew g T l := h
theorem BlkL.set (h : BlkL w g T l) (k : Nat) (hk : k < l.length) (v : Value) : BlkL (w.setCell ⟨g, k, none⟩ v) g T (l.set k v) := by
  have hlt := h.lt
  have h' : w.heap[g] = .cells l.toArray T (0, 0) := (Array.getElem?_eq_some_iff.1 h).2
  show (w.heap.modify g _)[g]? = _
  rw [Array.getElem?_eq_getElem (by simpa using hlt), Array.getElem_modify_self, h']
  simp
theorem gb_trans {a w w' : World} {row : Option Nat} (h : a.grownBy w row) (k : w.grownBy w' row) : a.grownBy w' row :=
  ⟨k.os.trans h.os, k.tape.trans h.tape, k.output.trans h.output, Nat.le_trans h.size k.size, fun j hj hne => (k.block j (Nat.lt_of_lt_of_le hj h.size) hne).trans (h.block j hj hne)⟩
theorem gb_set (w : World) (g j : Nat) (v : Value) : w.grownBy (w.setCell ⟨g, j, none⟩ v) (some g) :=
  ⟨rfl, rfl, rfl, by simp, fun k _ hk => Below.heap_setCell w ⟨g, j, none⟩ v k (fun e => hk (by simp [e]))⟩
theorem gb_refl (w : World) (row : Option Nat) : w.grownBy w row := ⟨rfl, rfl, rfl, Nat.le_refl _, fun _ _ _ => rfl⟩
theorem gb_below {a w w' : World} {row : Option Nat} (h : a.grownBy w row) (hb : Below w.heap.size w w') : a.grownBy w' row :=
  gb_trans h ⟨hb.os, hb.tape, hb.output, hb.size, fun k hk _ => hb.block k hk⟩
theorem gb_alloc {a w : World} {row : Option Nat} (h : a.grownBy w row) (o : Obj) : a.grownBy (w.alloc o) row :=
  ⟨h.os, h.tape, h.output, by have := h.size; simp; omega, fun k hk hn => (Below.heap_alloc w o k (by have := h.size; omega)).trans (h.block k hk hn)⟩
theorem gb_new {a w : World} {row : Option Nat} (h : a.grownBy w row) {b : Nat} (hb : a.heap.size ≤ b) (j : Nat) (v : Value) : a.grownBy (w.setCell ⟨b, j, none⟩ v) row :=
  ⟨h.os, h.tape, h.output, by have := h.size; simpa using this, fun k hk hn => (Below.heap_setCell w ⟨b, j, none⟩ v k (fun e => by have : k = b := e; omega)).trans (h.block k hk hn)⟩
theorem gb_drewN {a w : World} {row : Option Nat} (h : a.grownBy w row) (n : Nat) : a.grownBy (w.drewN n) row := ⟨h.os, h.tape, h.output, h.size, h.block⟩
theorem gb_drew {a w : World} {row : Option Nat} (h : a.grownBy w row) : a.grownBy w.drew row := ⟨h.os, h.tape, h.output, h.size, h.block⟩
/-- A world that differs from an old one in blocks from a base on, and in one block. -/
theorem gb_row {a w w' : World} {g base : Nat} {r : Option Nat} (h : a.grownBy w (some g)) (hg : w.grownBy w' r) (hb : a.heap.size ≤ base) (hr : ∀ k, r = some k → k = g ∨ base ≤ k) : a.grownBy w' (some g) :=
  ⟨hg.os.trans h.os, hg.tape.trans h.tape, hg.output.trans h.output, Nat.le_trans h.size hg.size, fun j hj hne => (hg.block j (Nat.lt_of_lt_of_le hj h.size) (fun e => by
    rcases hr j e.symm with rfl | h2
    · exact hne rfl
    · omega)).trans (h.block j hj hne)⟩
theorem below_gb {w w' : World} {g base : Nat} (h : w.grownBy w' (some g)) (hb : base ≤ g) (hs : base ≤ w.heap.size) : Below base w w' :=
  ⟨h.os, h.tape, h.output, h.size, fun k hk => h.block k (by omega) (fun e => by injection e; omega)⟩
theorem own_far {w : World} {base g size n : Nat} {e : TypeId} {v : Value} {xs : List Value} (h : w.ownsRow base e size v n xs) (hg : g < base) : v.ownBlock = none ∨ v.ownBlock ≠ some g :=
  .inr (fun e => by have := (h.lt g e).1; omega)
end Hs
