/- The walks of proper of the program's labels. Conditions: the text's length is bounded.
   The walk of Valid of the program's labels. Conditions: the text's length is bounded.
   The walks of Words and Digits (program and reference), and of the helpers Short and Texts. Conditions: the strings' lengths are bounded.
   The walks of the layer ipv4 (program and reference): digits, numbers. Conditions: strings are of bounded length. -/
import Derived.Test.YtjbciamhhfcdoaaGreatDoorSub08
import Derived.Test.YtjbciamhhfcdoaaGreatDoorSub13
import Derived.Test.YtjbciamhhfcdoaaGreatDoorSub14
import Derived.Test.YtjbciamhhfcdoaaGreatDoorSub12
import Derived.Test.YtjbciamhhfcdoaaGreatDoorSub03
import Derived.Test.YtjbciamhhfcdoaaGreatDoorSub05
namespace Go.Proofs.YtjbciamhhfcdoaaGreatDoor
open Go.RowKit Hs
set_option linter.unusedSimpArgs false
set_option linter.unusedVariables false

set_option maxRecDepth 20000 in
set_option maxHeartbeats 4000000 in
theorem py_proper (s : ByteArray) (w : World) (hs : s.size ≤ 100000000) : Calls Tryz.prog 127 #[.string s] w fun e w' => e = .returned (.bool (properV (un s))) ∧ Below w.heap.size w w' := by
  have hdec := py_decode s w hs
  have HDEC := Lib.hid hdec
  clear hdec
  go_enter Tryz.func127, Tryz.ntmps127
  go_wp2_with fail
  refine HDEC.out.mono ?_; rintro e w2 ⟨⟨v, c, rfl, hres⟩, hb2⟩
  have HB2 := Lib.hid hb2
  clear hb2 HDEC
  rcases hres with ⟨rfl, pts, hdv, hown⟩ | ⟨hc, rfl, hnone⟩
  · have hok := decV_ok hdv
    have hP := properV_some hdv
    have hbig : ∀ p ∈ pts, p ≤ 1152921504606846976 := fun p hp => by have := all_take_ok pts hok.1 p hp; omega
    have hN := Nums.owned hown
    have henc := py_encode v pts w2 hN (by omega) hbig
    have HP := Lib.hid hP
    obtain ⟨a, cp, rfl, hn1, hn2, hcell⟩ := hN.open
    have hlen : pts.length ≤ 256 := hok.2
    have HCELL := Lib.hid hcell
    obtain ⟨m, hm⟩ : ∃ m, m = pts.length := ⟨_, rfl⟩
    rw [← hm] at hlen hn1 henc ⊢
    have HM := Lib.hid hm
    have HENC := Lib.hid henc
    clear hdv hP hbig hok hown hN henc hcell hm
    go_wp2
    all_goals (try (exfalso; omega))
    go_loop [5, 18] (fun ov iv => ∃ (k : Nat) (b : Bool), iv = .int .i64 k ∧ ov = .bool (!b) ∧ k ≤ m ∧ Hid (b = (pts.take k).any (fun n => decide (128 ≤ n))) ∧ Hid ((pts.take k).any (fun n => decide (65 ≤ n ∧ n ≤ 90)) = false)) (fun _ iv => m - (intOf iv).toNat)
    case atStart => exact ⟨0, false, rfl, rfl, by omega, Lib.hid rfl, Lib.hid rfl⟩
    case round =>
      obtain ⟨k, b, rfl, rfl, hk, hb, hu⟩ := hrel
      by_cases hlt : k < m
      · have hkl : k < pts.length := by rw [← HM.out]; exact hlt
        obtain ⟨B, off, rfl, hB, hcell⟩ := HCELL.out (by omega)
        have c0 := hcell k hkl
        have hb2 := any_take_succ pts (fun n => decide (128 ≤ n)) k hkl
        have hu2 := any_take_succ pts (fun n => decide (65 ≤ n ∧ n ≤ 90)) k hkl
        have ht2 := any_take_true pts (fun n => decide (65 ≤ n ∧ n ≤ 90)) k hkl
        rw [← hb.out] at hb2
        rw [hu.out, Bool.false_or] at hu2
        obtain ⟨x, hx⟩ : ∃ x, x = pts[k] := ⟨_, rfl⟩
        rw [← hx] at c0 hb2 hu2 ht2
        have HB := Lib.hid hb2
        have HU := Lib.hid hu2
        have HT := Lib.hid ht2
        clear hcell hx hb2 hu2 ht2 hb hu hkl
        by_cases hup : 65 ≤ x ∧ x ≤ 90
        · have hfin := Lib.hid (HP.out.trans (by rw [HT.out (decide_eq_true hup)]))
          have g1 : decide ((65 : Int) ≤ (x : Int)) = true := decide_eq_true (by omega)
          have g2 : decide ((x : Int) ≤ 90) = true := decide_eq_true (by omega)
          have g3 : decide ((x : Int) < 128) = true := decide_eq_true (by omega)
          clear HP HU HT HENC
          cases b
          all_goals
            go_wp2
            all_goals (try (exfalso; omega))
            go_ret
            rw [hfin.out]
            exact ⟨rfl, HB2.out⟩
        · have hu3 : Hid ((pts.take (k + 1)).any (fun n => decide (65 ≤ n ∧ n ≤ 90)) = false) := Lib.hid (HU.out.trans (decide_eq_false hup))
          clear HU HT
          have hsplit : x < 65 ∨ (90 < x ∧ x < 128) ∨ 128 ≤ x := by omega
          rcases hsplit with h1 | ⟨h1, h2⟩ | h1
          · have g1 : decide ((65 : Int) ≤ (x : Int)) = false := decide_eq_false (by omega)
            have g3 : decide ((x : Int) < 128) = true := decide_eq_true (by omega)
            have hB3 := HB.out
            rw [show decide (128 ≤ x) = false from decide_eq_false (by omega), Bool.or_false] at hB3
            have HB3 := Lib.hid hB3
            clear hB3 HB
            cases b
            · go_wp2
              all_goals (try (exfalso; omega))
              go_round
              case rel => exact ⟨k + 1, false, by go_num, rfl, by omega, Lib.hid HB3.out.symm, hu3⟩
              case measure => simp [intOf]; omega
            · go_wp2
              all_goals (try (exfalso; omega))
              go_round
              case rel => exact ⟨k + 1, true, by go_num, rfl, by omega, Lib.hid HB3.out.symm, hu3⟩
              case measure => simp [intOf]; omega
          · have g1 : decide ((65 : Int) ≤ (x : Int)) = true := decide_eq_true (by omega)
            have g2 : decide ((x : Int) ≤ 90) = false := decide_eq_false (by omega)
            have g3 : decide ((x : Int) < 128) = true := decide_eq_true (by omega)
            have hB3 := HB.out
            rw [show decide (128 ≤ x) = false from decide_eq_false (by omega), Bool.or_false] at hB3
            have HB3 := Lib.hid hB3
            clear hB3 HB
            cases b
            · go_wp2
              all_goals (try (exfalso; omega))
              go_round
              case rel => exact ⟨k + 1, false, by go_num, rfl, by omega, Lib.hid HB3.out.symm, hu3⟩
              case measure => simp [intOf]; omega
            · go_wp2
              all_goals (try (exfalso; omega))
              go_round
              case rel => exact ⟨k + 1, true, by go_num, rfl, by omega, Lib.hid HB3.out.symm, hu3⟩
              case measure => simp [intOf]; omega
          · have g1 : decide ((65 : Int) ≤ (x : Int)) = true := decide_eq_true (by omega)
            have g2 : decide ((x : Int) ≤ 90) = false := decide_eq_false (by omega)
            have g3 : decide ((x : Int) < 128) = false := decide_eq_false (by omega)
            have hB3 := HB.out
            rw [show decide (128 ≤ x) = true from decide_eq_true (by omega), Bool.or_true] at hB3
            have HB3 := Lib.hid hB3
            clear hB3 HB
            cases b
            all_goals
              go_wp2
              all_goals (try (exfalso; omega))
              go_round
              case rel => exact ⟨k + 1, true, by go_num, rfl, by omega, Lib.hid HB3.out.symm, hu3⟩
              case measure => simp [intOf]; omega
      · have hkm : pts.take k = pts := List.take_of_length_le (by rw [← HM.out]; omega)
        have hb2 := hb.out
        have hu2 := hu.out
        rw [hkm] at hb2 hu2
        have hP2 := HP.out
        rw [hu2, ← hb2, Bool.not_false, Bool.true_and] at hP2
        have HP2 := Lib.hid hP2
        clear HP hb hu hb2 hu2 hP2 hkm
        go_wp2_with fail
        all_goals (try (exfalso; omega))
        refine HENC.out.mono ?_; rintro e w3 ⟨⟨s3, c3, rfl, hres⟩, hb3⟩
        have HB3 := Lib.hid (HB2.out.trans (hb3.mono HB2.out.size))
        clear hb3 HENC
        rcases hres with ⟨rfl, henc⟩ | ⟨hc3, rfl, henc⟩
        · have hP3 := HP2.out
          rw [henc] at hP3
          have HP3 := Lib.hid hP3
          clear HP2 hP3 henc
          by_cases he : un s3 = un s
          · have hq : (s3.toList == s.toList) = true := by rw [toList_un, toList_un, he]; simp
            have hF := HP3.out
            rw [he, decide_eq_true rfl, Bool.and_true] at hF
            have HF := Lib.hid hF
            clear HP3 hF he
            cases b
            all_goals
              go_wp2
              all_goals (try (exfalso; omega))
              go_ret
              rw [HF.out]
              exact ⟨rfl, HB3.out⟩
          · have hq : (s3.toList == s.toList) = false := by rw [toList_un, toList_un]; simpa using he
            have hF := HP3.out
            rw [decide_eq_false (by intro h; exact he (Option.some.inj h)), Bool.and_false] at hF
            have HF := Lib.hid hF
            clear HP3 hF he
            cases b
            all_goals
              go_wp2
              all_goals (try (exfalso; omega))
              go_ret
              rw [HF.out]
              exact ⟨rfl, HB3.out⟩
        · have hP3 := HP2.out
          rw [henc] at hP3
          have g4 : (c3 == 0) = false := by simpa using hc3
          have HP3 := Lib.hid hP3
          clear HP2 hP3 henc hc3
          cases b
          all_goals
            go_wp2
            all_goals (try (exfalso; omega))
            go_ret
            rw [HP3.out]
            exact ⟨by simp, HB3.out⟩
  · have hcb : (c != 0) = true := by simpa using hc
    have hP := Lib.hid (properV_none hnone)
    clear hc hnone
    go_wp2
    all_goals (try (exfalso; omega))
    go_ret
    rw [hP.out]
    exact ⟨rfl, HB2.out⟩
end Go.Proofs.YtjbciamhhfcdoaaGreatDoor
namespace Hs
open Go Go.RowKit
theorem hasPrefix_eq (l p : Bs) : Lib.hasPrefix l p = decide (l.take p.length = p) := by
  unfold Lib.hasPrefix
  rw [Bool.eq_iff_iff, decide_eq_true_eq, List.isPrefixOf_iff_prefix, List.prefix_iff_eq_take]
  exact eq_comm
theorem trimPrefix_eq (l p : Bs) : Lib.trimPrefix l p = if l.take p.length = p then l.drop p.length else l := by
  unfold Lib.trimPrefix
  rw [hasPrefix_eq]
  by_cases h : l.take p.length = p <;> simp [h]
end Hs
namespace Go.Proofs.YtjbciamhhfcdoaaGreatDoor
open Go.RowKit Hs
set_option linter.unusedSimpArgs false
set_option linter.unusedVariables false
theorem lib_cutPrefix (s p : ByteArray) (w : World) : Calls Tryz.prog 106 #[.string s, .string p] w fun e w' => e = .returned (.tuple #[.string (mk (if (un s).take p.size = un p then (un s).drop p.size else un s)), .bool (decide ((un s).take p.size = un p))]) ∧ w = w' := by
  refine (Tryz.strings_CutPrefix s p w).mono ?_
  rintro e w' ⟨rfl, rfl⟩
  refine ⟨?_, rfl⟩
  have h1 := hasPrefix_eq (un s) (un p)
  have h2 := trimPrefix_eq (un s) (un p)
  rw [length_un] at h1 h2
  rw [← h1, ← h2]
  rfl
theorem lib_cutXn (s : ByteArray) (w : World) : Calls Tryz.prog 106 #[.string s, .string ⟨#[120, 110, 45, 45]⟩] w fun e w' => e = .returned (.tuple #[.string (mk (if (un s).take 4 = [120, 110, 45, 45] then (un s).drop 4 else un s)), .bool (decide ((un s).take 4 = [120, 110, 45, 45]))]) ∧ w = w' := lib_cutPrefix s ⟨#[120, 110, 45, 45]⟩ w

set_option maxRecDepth 20000 in
set_option maxHeartbeats 4000000 in
theorem py_valid (s : ByteArray) (w : World) (hs : s.size ≤ 100000000) : Calls Tryz.prog 82 #[.string s] w fun e w' => e = .returned (.bool (labelV (un s))) ∧ Below w.heap.size w w' := by
  have hlen : (un s).length = s.size := length_un s
  have hF := @labelV_false (un s)
  have hG := @labelV_good (un s)
  rcases Nat.eq_zero_or_pos s.size with h0 | hpos
  · have hfin := Lib.hid (hF (by rw [hlen]; omega))
    have hsE : s = ⟨#[]⟩ := by
      apply un_inj
      exact List.eq_nil_of_length_eq_zero (by omega)
    subst hsE
    clear hF hG hlen h0 hs
    go_enter Tryz.func82, Tryz.ntmps82
    go_wp2
    all_goals (try (exfalso; omega))
    go_ret
    rw [hfin.out]
    exact ⟨rfl, Below.refl _ _⟩
  · have hh := head_un s hpos
    have hl := last_un s hpos
    rw [hh, hl, hlen] at hF hG
    obtain ⟨n, hn⟩ : ∃ n, n = s.size := ⟨_, rfl⟩
    have hem : s.toList.isEmpty = false := by
      rw [List.isEmpty_eq_false_iff, toList_un]
      intro h
      rw [h] at hlen
      simp at hlen
      omega
    have hp1 : s.size - 1 < s.size := by omega
    have hF63 := Lib.hid (fun h : 63 < s.size => hF (by omega))
    have hF0 := Lib.hid (fun h : s[0].toNat = 45 => hF (by rw [eq45 h]; simp))
    have hFz := Lib.hid (fun h : (s[s.size - 1]'hp1).toNat = 45 => hF (by rw [eq45 h]; simp))
    have hGG := Lib.hid (fun (h1 : ¬ 63 < s.size) (h2 : s[0].toNat ≠ 45) (h3 : (s[s.size - 1]'hp1).toNat ≠ 45) => hG ⟨by omega, by omega, by simpa using ne45 h2, by simpa using ne45 h3⟩)
    clear hF hG hh hl
    go_enter Tryz.func82, Tryz.ntmps82
    by_cases h63 : 63 < s.size
    · have hfin := Lib.hid (hF63.out h63)
      clear hF63 hF0 hFz hGG
      go_wp2
      all_goals (try (exfalso; omega))
      go_ret
      rw [hfin.out]
      exact ⟨rfl, Below.refl _ _⟩
    · have g0 : decide ((63 : Int) < (s.size : Int)) = false := decide_eq_false (by omega)
      by_cases hA : s[0].toNat = 45
      · have hfin := Lib.hid (hF0.out hA)
        have c0 : (s[0].toNat : Int) = 45 := by omega
        clear hF63 hF0 hFz hGG hA
        go_wp2
        all_goals (try (exfalso; omega))
        go_ret
        rw [hfin.out]
        exact ⟨rfl, Below.refl _ _⟩
      · by_cases hZ : (s[s.size - 1]'hp1).toNat = 45
        · have hfin := Lib.hid (hFz.out hZ)
          have g1 : ((s[0].toNat : Int) == 45) = false := by simp; omega
          have c1 : ((s[s.size - 1]'hp1).toNat : Int) = 45 := by omega
          clear hF63 hF0 hFz hGG hA hZ
          go_wp2
          all_goals (try (exfalso; omega))
          go_ret
          rw [hfin.out]
          exact ⟨rfl, Below.refl _ _⟩
        · have hdef := hGG.out h63 hA hZ
          have g1 : ((s[0].toNat : Int) == 45) = false := by simp; omega
          have g2 : (((s[s.size - 1]'hp1).toNat : Int) == 45) = false := by simp; omega
          obtain ⟨l, hl⟩ : ∃ l, l = un s := ⟨_, rfl⟩
          rw [← hl] at hdef hlen ⊢
          have HL := Lib.hid hl
          have HDEF := Lib.hid hdef
          have HLEN := Lib.hid hlen
          clear hF63 hF0 hFz hGG hA hZ hdef hl hlen
          go_wp2
          all_goals (try (exfalso; omega))
          clear g1 g2 g0
          go_loop [30] (fun iv => ∃ k : Nat, iv = .int .i64 k ∧ k ≤ s.size ∧ Hid (l.all labB = (l.drop k).all labB)) (fun iv => s.size - (intOf iv).toNat)
          case atStart => exact ⟨0, rfl, by omega, Lib.hid (by rw [List.drop_zero])⟩
          case round =>
            obtain ⟨k, rfl, hk, hall⟩ := hrel
            by_cases hlt : k < s.size
            · have hkl : k < l.length := by rw [HLEN.out]; exact hlt
              have hx : l[k] = s[k] := by
                have := HL.out
                subst this
                exact getElem_un s k hlt
              have hstep := all_take_drop l labB k hkl
              rw [hx] at hstep
              have hb256 := (s[k]).toNat_lt
              have hlab : labB s[k] = decide ((97 ≤ (s[k]).toNat ∧ (s[k]).toNat ≤ 122) ∨ (48 ≤ (s[k]).toNat ∧ (s[k]).toNat ≤ 57) ∨ (s[k]).toNat = 45 ∨ (s[k]).toNat = 95) := rfl
              obtain ⟨x, hx2⟩ : ∃ x, x = (s[k]).toNat := ⟨_, rfl⟩
              have cs : (s[k].toNat : Int) = (x : Int) := by rw [hx2]
              rw [← hx2] at hb256 hlab
              rw [hlab] at hstep
              have HST := Lib.hid hstep
              clear hstep hlab hx hx2 hkl
              by_cases hok : (97 ≤ x ∧ x ≤ 122) ∨ (48 ≤ x ∧ x ≤ 57) ∨ x = 45 ∨ x = 95
              · have hall2 : Hid (l.all labB = (l.drop (k + 1)).all labB) := Lib.hid (by rw [hall.out, HST.out, decide_eq_true hok, Bool.true_and])
                clear hall HST
                rcases hok with hok | hok | rfl | rfl
                all_goals
                  go_wp2
                  all_goals (try (exfalso; omega))
                  go_round
                  case rel => exact ⟨k + 1, by go_num, by omega, hall2⟩
                  case measure => simp [intOf]; omega
              · have hfin : Hid (labelV l = false) := Lib.hid (by rw [HDEF.out, hall.out, HST.out, decide_eq_false hok]; rfl)
                have g45 : ((x : Int) != 45) = true := by simp; omega
                have g95 : ((x : Int) != 95) = true := by simp; omega
                clear hall HST HDEF
                go_wp2
                all_goals (try (exfalso; omega))
                all_goals
                  go_ret
                  rw [hfin.out]
                  exact ⟨rfl, Below.refl _ _⟩
            · have hall2 : l.all labB = true := by rw [hall.out, List.drop_of_length_le (by rw [HLEN.out]; omega)]; rfl
              have hdef2 := HDEF.out
              rw [hall2, Bool.true_and] at hdef2
              have HDEF2 := Lib.hid hdef2
              clear hdef2 hall2 hall HDEF
              have hcp := lib_cutXn s w
              rw [← HL.out] at hcp
              have HCP := Lib.hid hcp
              clear hcp
              by_cases hp : l.take 4 = [120, 110, 45, 45]
              · have hfin := HDEF2.out
                rw [decide_eq_true hp, Bool.not_true, Bool.false_or] at hfin
                have HFIN := Lib.hid hfin
                have hcp2 := HCP.out
                rw [if_pos hp, decide_eq_true hp] at hcp2
                have HCP2 := Lib.hid hcp2
                have hpr := py_proper (mk (l.drop 4)) w (by rw [size_mk, List.length_drop, HLEN.out]; omega)
                rw [un_mk] at hpr
                have HPR := Lib.hid hpr
                clear HDEF2 hfin hp hcp2 HCP hpr
                go_wp2_with fail
                all_goals (try (exfalso; omega))
                refine HCP2.out.mono ?_; rintro e w9 ⟨rfl, rfl⟩
                go_wp2_with fail
                all_goals (try (exfalso; omega))
                refine HPR.out.mono ?_; rintro e w8 ⟨rfl, hb8⟩
                go_wp2
                all_goals (try (exfalso; omega))
                go_ret
                rw [HFIN.out]
                exact ⟨rfl, hb8⟩
              · have hfin := HDEF2.out
                rw [decide_eq_false hp, Bool.not_false, Bool.true_or] at hfin
                have HFIN := Lib.hid hfin
                have hcp2 := HCP.out
                rw [if_neg hp, decide_eq_false hp] at hcp2
                have HCP2 := Lib.hid hcp2
                clear HDEF2 hfin hp hcp2 HCP
                go_wp2_with fail
                all_goals (try (exfalso; omega))
                refine HCP2.out.mono ?_; rintro e w9 ⟨rfl, rfl⟩
                go_wp2
                all_goals (try (exfalso; omega))
                go_ret
                rw [HFIN.out]
                exact ⟨rfl, Below.refl _ _⟩
end Go.Proofs.YtjbciamhhfcdoaaGreatDoor
namespace Go.Proofs.YtjbciamhhfcdoaaGreatDoor
open Go.RowKit Hs
set_option linter.unusedSimpArgs false
set_option linter.unusedVariables false

set_option maxHeartbeats 1500000 in
theorem ascii_words (s : ByteArray) (w : World) (hs : s.size ≤ 100000000) : Calls Tryz.prog 139 #[.string s] w fun e w' => ∃ v, e = .returned v ∧ w'.ownsRow w.heap.size 9 1 v (words (un s)).length (scells (words (un s))) ∧ (words (un s)).length ≤ s.size + 1 ∧ Below w.heap.size w w' := by
  obtain ⟨iS0, iS⟩ := info_parts infoStr
  go_enter Tryz.func139, Tryz.ntmps139
  go_wp2
  go_loopw [3, 4, 5] (fun v f i wr => ∃ (k fr : Nat) (D : List Bs), i = .int .i64 k ∧ f = .int .i64 fr ∧ fr ≤ k ∧ k ≤ s.size + 1 ∧ D.length ≤ k ∧ wr.ownsRow w.heap.size 9 1 v D.length (scells D) ∧ Below w.heap.size w wr ∧ Hid (WordsTo (un s) D fr k))
    (fun _ _ i _ => s.size + 1 - (intOf i).toNat)
  case atStart => exact ⟨0, 0, [], rfl, rfl, by omega, by omega, by simp, World.ownsRow_nil _ _ _ _, Below.refl _ _, WordsTo.start _⟩
  case round =>
    obtain ⟨k, fr, D, rfl, rfl, hfk, hk, hD, hown, hnx, hwt⟩ := hrel
    have hsize := hnx.size
    by_cases hlt : k < s.size
    · cases hb : isSpace (s[k]'hlt)
      · have hch := Lib.hid (hwt.out.char hfk (by rw [length_un]; omega) hb)
        clear hwt
        go_wp2_with (go_at_call 190; refine (ascii_isSpace _ _ rfl _).mono ?_; rintro e w' ⟨rfl, rfl⟩)
        go_roundw
        case rel => exact ⟨k + 1, fr, D, by go_num, rfl, by omega, by omega, by omega, hown, hnx, hch⟩
        case measure => simp [intOf]; omega
      · have hb' : ∀ hk' : k < (un s).length, isSpace (un s)[k] = true := fun _ => hb
        have hcut := Lib.hid (hwt.out.cut hfk (by rw [length_un]; omega) hb')
        clear hwt hb'
        by_cases hgt : fr < k
        · have ex := Lib.hid (extract_seg s fr k)
          go_wp2_with (first | (at_builtin; refine wpList_append_own _ rfl (.tmp 26) (.tmp 31) 39 rfl (w.heap.size) 9 iS0 (.string ByteArray.empty) 1 16 Tryz.underlying39 iS.1 iS.2.1 iS.2.2.1 iS.2.2.2 rfl (by decide) _ _ _ rfl (hown.alloc _) ⟨wr.heap.size, 0, none⟩ 1 1 [_] rfl rfl (cell_one_new _ _ _) (by intro u hu; simp at hu; subst hu; rfl) (by unfold maxLen; omega) (by omega) (by simp; omega) ?_; intro v1 w1 hown1 hgrow1 hnil1) | (go_at_call 190; refine (ascii_isSpace _ _ rfl _).mono ?_; rintro e w' ⟨rfl, rfl⟩))
          go_roundw
          case rel =>
            refine ⟨k + 1, k + 1, D ++ [seg (un s) fr k], by go_num, by go_num, by omega, by omega, by simp; omega, ?_, (hnx.alloc (by omega) _).grown hgrow1 (by simp; omega) (fun j hj => (hown.lt j hj).1), ?_⟩
            · have e := hown1
              rw [ex.out] at e
              rw [scells_append, List.length_append]
              exact e
            · have e := hcut.out
              rw [if_pos hgt] at e
              exact e
          case measure => simp [intOf]; omega
        · go_wp2_with (go_at_call 190; refine (ascii_isSpace _ _ rfl _).mono ?_; rintro e w' ⟨rfl, rfl⟩)
          go_roundw
          case rel =>
            refine ⟨k + 1, k + 1, D, by go_num, by go_num, by omega, by omega, by omega, hown, hnx, ?_⟩
            have e := hcut.out
            rw [if_neg hgt, List.append_nil] at e
            exact e
          case measure => simp [intOf]; omega
    · by_cases he : k = s.size
      · have he' : (k : Int) ≤ (s.size : Int) := by omega
        have hlt' : ¬ ((k : Int) < (s.size : Int)) := by omega
        have HE := Lib.hid he
        clear he
        have hcut := Lib.hid (hwt.out.cut hfk (by rw [length_un]; omega) (fun hk' => absurd hk' (by rw [length_un]; omega)))
        clear hwt
        by_cases hgt : fr < k
        · have ex := Lib.hid (extract_seg s fr k)
          go_wp2_with (first | (at_builtin; refine wpList_append_own _ rfl (.tmp 26) (.tmp 31) 39 rfl (w.heap.size) 9 iS0 (.string ByteArray.empty) 1 16 Tryz.underlying39 iS.1 iS.2.1 iS.2.2.1 iS.2.2.2 rfl (by decide) _ _ _ rfl (hown.alloc _) ⟨wr.heap.size, 0, none⟩ 1 1 [_] rfl rfl (cell_one_new _ _ _) (by intro u hu; simp at hu; subst hu; rfl) (by unfold maxLen; omega) (by omega) (by simp; omega) ?_; intro v1 w1 hown1 hgrow1 hnil1) | (go_at_call 190; refine (ascii_isSpace _ _ rfl _).mono ?_; rintro e w' ⟨rfl, rfl⟩))
          go_roundw
          case rel =>
            refine ⟨k + 1, k + 1, D ++ [seg (un s) fr k], by go_num, by go_num, by omega, by omega, by simp; omega, ?_, (hnx.alloc (by omega) _).grown hgrow1 (by simp; omega) (fun j hj => (hown.lt j hj).1), ?_⟩
            · have e := hown1
              rw [ex.out] at e
              rw [scells_append, List.length_append]
              exact e
            · have e := hcut.out
              rw [if_pos hgt] at e
              exact e
          case measure => simp [intOf]; omega
        · go_wp2_with (go_at_call 190; refine (ascii_isSpace _ _ rfl _).mono ?_; rintro e w' ⟨rfl, rfl⟩)
          go_roundw
          case rel =>
            refine ⟨k + 1, k + 1, D, by go_num, by go_num, by omega, by omega, by omega, hown, hnx, ?_⟩
            have e := hcut.out
            rw [if_neg hgt, List.append_nil] at e
            exact e
          case measure => simp [intOf]; omega
      · obtain rfl : k = s.size + 1 := by omega
        have hfin : Hid (D = words (un s)) := hwt.out.2 (by rw [length_un])
        clear hwt he
        go_wp2
        go_ret
        have e := hfin.out
        subst e
        exact ⟨_, rfl, hown, hD, hnx⟩



set_option maxHeartbeats 1500000 in
theorem ref01_digits (s : ByteArray) (w : World) (hs : s.size ≤ 100000000) : Calls Tryz.prog 63 #[.string s] w fun e w' => e = .returned (.bool (digits (un s))) ∧ w = w' := by
  go_enter Tryz.func63, Tryz.ntmps63
  go_wp2
  go_loop [3] (fun i => ∃ k : Nat, i = .int .i64 k ∧ k ≤ s.size ∧ Hid ((un s).all isDigit = ((un s).drop k).all isDigit)) (fun i => s.size - (intOf i).toNat)
  case atStart => exact ⟨0, rfl, by omega, rfl⟩
  case round =>
    obtain ⟨k, rfl, hk, ha⟩ := hrel
    by_cases hlt : k < s.size
    · cases hb : isDigit (s[k]'hlt)
      · have hno : Hid (false = digits (un s)) := by
          have e1 := ha.out
          unfold digits
          rw [e1, all_drop_eq (un s) isDigit k (by rw [length_un]; omega) false hb]; simp [Hid]
        have hb2 := hb; simp only [isDigit, decide_eq_false_iff_not] at hb2
        go_wp2
        all_goals
          first
          | (go_ret
             exact ⟨ret_bool hno.out, rfl⟩)
          | (exfalso; omega)
      · have hyes : Hid ((un s).all isDigit = ((un s).drop (k + 1)).all isDigit) := by
          have e1 := ha.out
          rw [e1, all_drop_eq (un s) isDigit k (by rw [length_un]; omega) true hb]; simp [Hid]
        have hb2 := hb; simp only [isDigit, decide_eq_true_eq] at hb2
        go_wp2
        all_goals
          first
          | (exfalso; omega)
          | (go_round
             case rel => exact ⟨k + 1, by go_num, by omega, hyes⟩
             case measure => simp [intOf]; omega)
    · obtain rfl : k = s.size := by omega
      have hfin : Hid ((un s).all isDigit = true) := by
        have e1 := ha.out
        rw [List.drop_eq_nil_of_le (by rw [length_un]; omega)] at e1
        exact e1
      clear ha
      go_wp2
      go_ret
      exact ⟨ret_bool (by unfold digits; rw [hfin.out, toList_un]; simp), rfl⟩

set_option maxHeartbeats 800000 in
theorem keep_short (n : Int) (v : Value) (l : List Bs) (w : World) (hv : Strs w v l) (hs : ∀ t ∈ l, t.length ≤ maxLen) : Calls Tryz.prog 6 #[.int .i64 n, v] w fun e w' => e = .returned (.bool (l.all fun t => decide ((t.length : Int) ≤ n))) ∧ w = w' := by
  obtain ⟨a, cap, rfl, hn, hm, hc⟩ := hv.open
  unfold maxLen at hm
  have HC := Lib.hid hc
  have HS := Lib.hid hs
  clear hc hs hv
  go_enter Tryz.func6, Tryz.ntmps6
  go_wp2
  go_loop [5] (fun i => ∃ k : Nat, i = .int .i64 k ∧ k ≤ l.length ∧ Hid ((l.all fun t => decide ((t.length : Int) ≤ n)) = ((l.drop k).all fun t => decide ((t.length : Int) ≤ n)))) (fun i => l.length - (intOf i).toNat)
  case atStart => exact ⟨0, rfl, by omega, rfl⟩
  case round =>
    obtain ⟨k, rfl, hk, ha⟩ := hrel
    by_cases hlt : k < l.length
    · obtain ⟨b, off, rfl, _, hcell⟩ := HC.out (by omega)
      have hk' := hcell k hlt
      clear hcell
      have hsz : (mk l[k]).size ≤ 9223372036854775807 := by have := HS.out l[k] (List.getElem_mem hlt); rw [size_mk]; simpa [maxLen] using this
      obtain ⟨t, ht⟩ : ∃ t, t = l[k] := ⟨_, rfl⟩
      rw [← ht] at hk' hsz
      have hd : Hid ((l.drop k).all (fun t => decide ((t.length : Int) ≤ n)) = (decide ((t.length : Int) ≤ n) && (l.drop (k + 1)).all fun t => decide ((t.length : Int) ≤ n))) := by
        rw [ht, List.drop_eq_getElem_cons hlt, List.all_cons]; rfl
      have hz : (mk t).size = t.length := size_mk t
      clear ht
      go_wp2
      · go_ret
        refine ⟨ret_bool ?_, rfl⟩
        rw [ha.out, hd.out, decide_eq_false (by omega)]; rfl
      · go_round
        case rel =>
          refine ⟨k + 1, by go_num, by omega, ?_⟩
          have e1 := ha.out
          rw [hd.out, decide_eq_true (by omega), Bool.true_and] at e1
          exact e1
        case measure => simp [intOf]; omega
    · obtain rfl : k = l.length := by omega
      have hfin : Hid ((l.all fun t => decide ((t.length : Int) ≤ n)) = true) := by
        have e1 := ha.out
        rw [List.drop_length] at e1
        exact e1
      go_wp2
      go_ret
      exact ⟨ret_bool hfin.out.symm, rfl⟩

end Go.Proofs.YtjbciamhhfcdoaaGreatDoor
namespace Go.Proofs.YtjbciamhhfcdoaaGreatDoor
open Go.RowKit Hs
set_option linter.unusedSimpArgs false
set_option linter.unusedVariables false

theorem i4_hex (s : ByteArray) (w : World) (hs : s.size ≤ 100000000) : Calls Tryz.prog 123 #[.string s] w fun e w' => e = .returned (.bool (hexP (un s))) ∧ w = w' := by
  have e : hexP (un s) = (Lib.hasPrefix s.data.toList [48, 120] || Lib.hasPrefix s.data.toList [48, 88]) := by
    show hexP (un s) = (Lib.hasPrefix (un s) [48, 120] || Lib.hasPrefix (un s) [48, 88])
    match un s with
    | [] => rfl
    | [a] => simp [hexP, Lib.hasPrefix, List.isPrefixOf]
    | a :: b :: r =>
      rw [Bool.eq_iff_iff]
      simp [hexP, Lib.hasPrefix]
      constructor
      · rintro ⟨rfl, rfl | rfl⟩ <;> simp
      · rintro (⟨rfl, rfl⟩ | ⟨rfl, rfl⟩) <;> simp
  rw [e]
  have c1 := fun w => Tryz.strings_HasPrefix s ({ data := #[48, 120] } : ByteArray) w
  have c2 := fun w => Tryz.strings_HasPrefix s ({ data := #[48, 88] } : ByteArray) w
  simp only [List.toList_toArray] at c1 c2
  generalize Lib.hasPrefix s.data.toList [48, 120] = p at c1 ⊢
  generalize Lib.hasPrefix s.data.toList [48, 88] = q at c2 ⊢
  have C1 := Lib.hid c1; have C2 := Lib.hid c2
  clear c1 c2 e
  cases p
  · go_enter Tryz.func123, Tryz.ntmps123
    go_wp2_with fail
    refine (C1.out _).mono ?_; rintro e w1 ⟨rfl, rfl⟩
    go_wp2_with fail
    refine (C2.out _).mono ?_; rintro e w1 ⟨rfl, rfl⟩
    go_wp2_with fail
    go_ret
    exact ⟨rfl, rfl⟩
  · go_enter Tryz.func123, Tryz.ntmps123
    go_wp2_with fail
    refine (C1.out _).mono ?_; rintro e w1 ⟨rfl, rfl⟩
    go_wp2_with fail
    go_ret
    exact ⟨rfl, rfl⟩
end Go.Proofs.YtjbciamhhfcdoaaGreatDoor
