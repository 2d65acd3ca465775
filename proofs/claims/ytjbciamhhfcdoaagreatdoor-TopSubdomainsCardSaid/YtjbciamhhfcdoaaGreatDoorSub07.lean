/- The walk of Decode of the reference of Punycode. Conditions: the text's length is bounded. -/
import Derived.Test.YtjbciamhhfcdoaaGreatDoorSub05
import Derived.Test.YtjbciamhhfcdoaaGreatDoorSub06
import Derived.Deep.DeepCutAuto
namespace Hs
open Go Go.RowKit
theorem any_take_drop (l : Bs) (f : UInt8 → Bool) (k : Nat) (h : k < l.length) (hf : f l[k] = false) : (l.drop k).any f = (l.drop (k + 1)).any f := by
  rw [drop_any l f k h, hf, Bool.false_or]
theorem mapn_snoc (l : Bs) (k : Nat) (h : k < l.length) : (l.take (k + 1)).map UInt8.toNat = (l.take k).map UInt8.toNat ++ [(l[k]).toNat] := by
  rw [List.take_succ_eq_append_getElem h, List.map_append]
  rfl
end Hs
namespace Go.Proofs.YtjbciamhhfcdoaaGreatDoor
open Go.RowKit Hs
set_option linter.unusedSimpArgs false
set_option linter.unusedVariables false

set_option maxRecDepth 20000 in
set_option maxHeartbeats 16000000 in
theorem r12_decode (s : ByteArray) (w : World) (hs : s.size ≤ 100000000) : Calls Tryz.prog 100 #[.string s] w fun e w' => (∃ v c, e = .returned (.tuple #[v, .int .i64 c]) ∧ ((c = 0 ∧ ∃ pts : List Nat, decV (un s) = some pts ∧ w'.ownsRow w.heap.size 3 1 v pts.length (ncells pts)) ∨ (c ≠ 0 ∧ v = .slice none 0 0 ∧ decV (un s) = none))) ∧ Below w.heap.size w w' := by
  obtain ⟨iN0, iN⟩ := info_parts infoInt
  have hlen : (un s).length = s.size := length_un s
  obtain ⟨l, hl⟩ : ∃ l, l = un s := ⟨_, rfl⟩
  have hdef : Hid (decV l = if 1024 < l.length then none else if l.any (fun b => decide (128 ≤ b.toNat)) = true then none else if 256 < (cutD l).1.length then none else decL (cutD l).2 128 0 72 true ((cutD l).1.map UInt8.toNat)) := Lib.hid rfl
  rw [← hl] at hlen ⊢
  have HL := Lib.hid hl
  have HLEN := Lib.hid hlen
  have HDB := Lib.hid (dashI_bounds l)
  clear hl
  obtain ⟨n, hn⟩ : ∃ n, n = s.size := ⟨_, rfl⟩
  rw [← hn] at hs hlen
  have HN := Lib.hid hn
  have hsn : (s.size : Int) = (n : Int) := by rw [hn]
  clear hn hlen
  by_cases hlong : 1024 < n
  · have g1 : decide ((1024 : Int) < (n : Int)) = true := decide_eq_true (by omega)
    have hend : Hid (decV l = none) := Lib.hid (by rw [hdef.out, if_pos (by rw [HLEN.out, ← HN.out]; exact hlong)])
    clear hdef
    go_enter Tryz.func100, Tryz.ntmps100
    go_wp2
    all_goals (try (exfalso; omega))
    go_ret2
    exact ⟨⟨_, _, rfl, .inr ⟨by decide, rfl, hend.out⟩⟩, Below.refl _ _⟩
  · have g1 : decide ((1024 : Int) < (n : Int)) = false := decide_eq_false (by omega)
    have hdef2 := Lib.hid (hdef.out.trans (if_neg (by rw [HLEN.out, ← HN.out]; exact hlong)))
    clear hdef
    go_enter Tryz.func100, Tryz.ntmps100
    go_wp2
    all_goals (try (exfalso; omega))
    go_loop [4, 5] (fun cv iv => ∃ k c : Nat, iv = .int .i64 k ∧ k ≤ n ∧ cv = .int .i64 c ∧ c ≤ k ∧ Hid (c = (dashI (l.take k)).toNat) ∧ Hid (l.any (fun b => decide (128 ≤ b.toNat)) = (l.drop k).any (fun b => decide (128 ≤ b.toNat)))) (fun _ iv => n - (intOf iv).toNat)
    case atStart => exact ⟨0, 0, rfl, by omega, rfl, by omega, Lib.hid (by simp [dashI]), Lib.hid (by rw [List.drop_zero])⟩
    case round =>
      obtain ⟨k, c, rfl, hk, rfl, hck, hda, han⟩ := hrel
      by_cases hlt : k < n
      · have hks : k < s.size := by rw [← HN.out]; exact hlt
        have hkl : k < l.length := by rw [HLEN.out]; exact hks
        have hx : l[k] = s[k] := by
          have := HL.out
          subst this
          exact getElem_un s k hks
        obtain ⟨b, hb⟩ : ∃ b, b = s[k] := ⟨_, rfl⟩
        rw [← hb] at hx
        have hb256 := b.toNat_lt
        have cs : (s[k].toNat : Int) = (b.toNat : Int) := by rw [hb]
        have hst := any_take_drop l (fun b => decide (128 ≤ b.toNat)) k hkl
        have hdr := drop_any l (fun b => decide (128 ≤ b.toNat)) k hkl
        rw [hx] at hst hdr
        have htk : Hid (l.take (k + 1) = l.take k ++ [b]) := Lib.hid (by rw [List.take_succ_eq_append_getElem hkl, hx])
        have HS := Lib.hid hst
        have HD := Lib.hid hdr
        have HB := Lib.hid hb
        have HLK : Hid ((l.take k).length = k) := Lib.hid (by rw [List.length_take]; omega)
        have hb45 : Hid (b.toNat = 45 → b = 45) := Lib.hid (fun h => UInt8.toNat_inj.1 h)
        clear hst hdr hx hb hkl
        obtain ⟨x, hx⟩ : ∃ x, x = b.toNat := ⟨_, rfl⟩
        rw [← hx] at cs hb256
        by_cases h128 : 128 ≤ x
        · have g2 : decide ((128 : Int) ≤ (x : Int)) = true := decide_eq_true (by omega)
          have hend : Hid (decV l = none) := Lib.hid (by rw [hdef2.out, han.out, HD.out, if_pos (by simp [← hx, h128])])
          clear hdef2 HS HD hda han hx htk
          go_wp2
          all_goals (try (exfalso; omega))
          go_ret2
          exact ⟨⟨_, _, rfl, .inr ⟨by decide, rfl, hend.out⟩⟩, Below.refl _ _⟩
        · have g2 : decide ((128 : Int) ≤ (x : Int)) = false := decide_eq_false (by omega)
          have han2 : Hid (l.any (fun b => decide (128 ≤ b.toNat)) = (l.drop (k + 1)).any (fun b => decide (128 ≤ b.toNat))) := Lib.hid (by rw [han.out]; exact HS.out (by rw [← hx]; simp; omega))
          by_cases h45 : x = 45
          · have g3 : ((x : Int) == 45) = true := by simp; omega
            have hd2 : Hid (k = (dashI (l.take (k + 1))).toNat) := Lib.hid (by rw [htk.out, hb45.out (by omega), cut_snoc_eq, HLK.out])
            clear hdef2 HS HD hda han htk hb45 hx
            go_wp2
            all_goals (try (exfalso; omega))
            go_round
            case rel => exact ⟨k + 1, k, by go_num, by omega, rfl, by omega, hd2, han2⟩
            case measure => simp [intOf]; omega
          · have g3 : ((x : Int) == 45) = false := by simp; omega
            have hd2 : Hid (c = (dashI (l.take (k + 1))).toNat) := Lib.hid (by
              rw [htk.out, cut_snoc_ne (l.take k) (b := b) (by rintro rfl; exact h45 (by rw [hx]; rfl))]
              exact hda.out)
            clear hdef2 HS HD hda han htk hb45 hx
            go_wp2
            all_goals (try (exfalso; omega))
            go_round
            case rel => exact ⟨k + 1, c, by go_num, by omega, rfl, by omega, hd2, han2⟩
            case measure => simp [intOf]; omega
      · have hln : l.length ≤ k := by rw [HLEN.out, ← HN.out]; omega
        have hdef3 := Lib.hid (hdef2.out.trans (if_neg (by rw [han.out, List.drop_of_length_le hln]; simp)))
        have hcd : Hid (c = (dashI l).toNat) := Lib.hid (by rw [hda.out, List.take_of_length_le hln])
        have hcn : c = 0 ∨ c < n := by
          have := HDB.out
          have := hcd.out
          have := HLEN.out
          have := HN.out
          omega
        have hct := cutD_eq l c hcd.out
        have hc1 : (cutD l).1.length = c := by rw [hct, List.length_take, HLEN.out, ← HN.out]; omega
        have hc2 : Hid ((cutD l).1.map UInt8.toNat = (l.take c).map UInt8.toNat) := Lib.hid (by rw [hct])
        have hc3 : Hid ((cutD l).2 = l.drop (if 0 < c then c + 1 else c)) := Lib.hid (by rw [hct])
        have HC1 := Lib.hid hc1
        clear hdef2 hda han hct hc1 hcd
        go_wp2
        all_goals (try (exfalso; omega))
        go_loopw [6, 7] (fun ov iv wr => ∃ k : Nat, iv = .int .i64 k ∧ k ≤ c ∧ wr.ownsRow w.heap.size 3 1 ov k (ncells ((l.take k).map UInt8.toNat)) ∧ Below w.heap.size w wr) (fun _ iv _ => c - (intOf iv).toNat)
        case atStart => exact ⟨0, rfl, by omega, World.ownsRow_nil _ _ _ _, Below.refl _ _⟩
        case round =>
          obtain ⟨k, rfl, hk, hown, hnx⟩ := hrel
          have hsz := hnx.size
          by_cases hlt : k < c
          · have hks : k < s.size := by rw [← HN.out]; omega
            have hkl : k < l.length := by rw [HLEN.out]; exact hks
            have hx : l[k] = s[k] := by
              have := HL.out
              subst this
              exact getElem_un s k hks
            have hms := mapn_snoc l k hkl
            rw [hx] at hms
            have HMS := Lib.hid hms
            have hb256 := (s[k]).toNat_lt
            obtain ⟨x, hx2⟩ : ∃ x, x = (s[k]).toNat := ⟨_, rfl⟩
            have cs : (s[k].toNat : Int) = (x : Int) := by rw [hx2]
            have HX := Lib.hid hx2
            rw [← hx2] at hb256
            clear hms hx hx2 hkl
            go_wp2_with (first | (at_builtin; refine wpList_append_own _ rfl (.tmp 41) (.tmp 46) 140 rfl (w.heap.size) 3 iN0 (.int .i64 0) 1 8 Tryz.underlying140 iN.1 iN.2.1 iN.2.2.1 iN.2.2.2 rfl (by decide) _ _ _ rfl (hown.alloc _) ⟨wr.heap.size, 0, none⟩ 1 1 [_] rfl rfl (cell_one_new _ _ _) (by intro u hu; simp at hu; subst hu; rfl) (by unfold maxLen; omega) (by omega) (by simp; omega) ?_; intro v1 w3 hown1 hgrow1 hnil1))
            all_goals (try (exfalso; omega))
            go_roundw
            case rel =>
              refine ⟨k + 1, by go_num, by omega, ?_, (hnx.alloc (by omega) _).grown hgrow1 (by simp; omega) (fun j hj => (hown.lt j hj).1)⟩
              rw [HMS.out, ncells_append, ← HX.out]
              exact hown1
            case measure => simp [intOf]; omega
          · obtain rfl : k = c := by omega
            by_cases hc256 : 256 < k
            · have hend : Hid (decV l = none) := Lib.hid (by rw [hdef3.out, if_pos (by rw [HC1.out]; exact hc256)])
              have g2 : decide ((256 : Int) < (k : Int)) = true := decide_eq_true (by omega)
              obtain ⟨a, c2, rfl⟩ := own_sliceN hown
              clear hdef3 hc2 hc3
              go_wp2
              all_goals (try (exfalso; omega))
              go_ret2
              exact ⟨⟨_, _, rfl, .inr ⟨by decide, rfl, hend.out⟩⟩, hnx⟩
            · have hdef4 := hdef3.out.trans (if_neg (by rw [HC1.out]; exact hc256))
              rw [hc2.out, hc3.out] at hdef4
              have g2 : decide ((256 : Int) < (k : Int)) = false := decide_eq_false (by omega)
              obtain ⟨A, hA⟩ : ∃ A, A = if 0 < k then k + 1 else k := ⟨_, rfl⟩
              rw [← hA] at hdef4
              have HDEF := Lib.hid hdef4
              obtain ⟨P, hP⟩ : ∃ P, P = (l.take k).map UInt8.toNat := ⟨_, rfl⟩
              rw [← hP] at hown HDEF
              have hPl : P.length = k := by have := hown.1; simpa using this
              have HA : (0 < k ∧ A = k + 1) ∨ (k = 0 ∧ A = k) := by
                rw [hA]
                split <;> omega
              obtain ⟨a, c2, rfl⟩ := own_sliceN hown
              have HOWN := Lib.hid (show wr.ownsRow w.heap.size 3 1 (.slice a k c2) P.length (ncells P) by rw [hPl]; exact hown)
              have HPL := Lib.hid hPl
              have HNX := Lib.hid hnx
              have hA1 : A ≤ n := by omega
              clear hdef3 hdef4 hc2 hc3 hA hP hown hnx hcn hPl
              go_upto_if 53 with fail
              all_goals (try (exfalso; omega))
              go_cut [8] (fun av wx => av = .int .i64 (A : Int) ∧ wx = wr)
              case first =>
                rcases HA with ⟨h0, hAk⟩ | ⟨h0, hAk⟩
                · have g3 : decide ((0 : Int) < (k : Int)) = true := decide_eq_true (by omega)
                  go_wp2
                  all_goals (try (exfalso; omega))
                  go_meet
                  case rel => exact ⟨by rw [hAk]; go_num, rfl⟩
                · have g3 : decide ((0 : Int) < (k : Int)) = false := decide_eq_false (by omega)
                  go_wp2
                  all_goals (try (exfalso; omega))
                  go_meet
                  case rel => exact ⟨by rw [hAk], rfl⟩
              case rest =>
              obtain ⟨rfl, rfl⟩ := hcut
              have hP256 : P.length ≤ 256 := by rw [HPL.out]; omega
              clear HA hc256 hlt hk g2 HC1 HDB
              go_wp2
              all_goals (try (exfalso; omega))
              go_loopw [6, 8, 9, 10, 11, 12] (fun ov av nv iv bv fv wr => ∃ (pts : List Nat) (at_ nn ii bi : Nat) (fi : Bool), av = .int .i64 at_ ∧ nv = .int .i64 nn ∧ iv = .int .i64 ii ∧ bv = .int .i64 bi ∧ fv = .bool fi ∧ at_ ≤ n ∧ nn ≤ 1114111 ∧ ii ≤ 257 ∧ bi ≤ 324 ∧ pts.length ≤ 256 ∧ wr.ownsRow w.heap.size 3 1 ov pts.length (ncells pts) ∧ Hid (decV l = decL (l.drop at_) nn ii bi fi pts) ∧ Below w.heap.size w wr) (fun _ av _ _ _ _ _ => n - (intOf av).toNat)
              case atStart => exact ⟨P, A, 128, 0, 72, true, rfl, rfl, rfl, rfl, rfl, hA1, by omega, by omega, by omega, hP256, HOWN.out, HDEF, HNX.out⟩
              case round =>
                clear HOWN HNX HPL HDEF hP256 P hA1 A
                obtain ⟨pts, at_, nn, ii, bi, fi, rfl, rfl, rfl, rfl, rfl, hat, hnn, hii, hbi, hpl, hown, hst, hnx⟩ := hrel
                by_cases hlt : at_ < n
                · obtain ⟨m, hm⟩ : ∃ m, m = pts.length := ⟨_, rfl⟩
                  rw [← hm] at hown hpl
                  have HM2 := Lib.hid hm
                  clear hm
                  have HOWN := Lib.hid hown
                  have HNX := Lib.hid hnx
                  obtain ⟨ao, co, rfl⟩ := own_sliceN hown
                  clear hown hnx
                  go_wp2
                  all_goals (try (exfalso; omega))
                  go_loop [8, 10, 14, 15] (fun av iv wv kv => ∃ a2 i2 w2 k2 : Nat, av = .int .i64 a2 ∧ iv = .int .i64 i2 ∧ wv = .int .i64 w2 ∧ kv = .int .i64 k2 ∧ at_ ≤ a2 ∧ a2 ≤ n ∧ at_ + k2 ≤ a2 ∧ ii ≤ i2 ∧ i2 ≤ 1099511627776 ∧ w2 ≤ 1099511627776 ∧ Hid (numD (l.drop at_) ii 1 0 bi = numD (l.drop a2) i2 w2 k2 bi)) (fun av _ _ _ => n - (intOf av).toNat)
                  case atStart => exact ⟨at_, ii, 1, 0, rfl, rfl, rfl, rfl, by omega, by omega, by omega, by omega, by omega, by omega, Lib.hid rfl⟩
                  case round =>
                    obtain ⟨a2, i2, w2, k2, rfl, rfl, rfl, rfl, ha1, ha2, hak, hi1, hi2, hw2, hnum⟩ := hrel
                    by_cases han : a2 < n
                    · have hks : a2 < s.size := by rw [← HN.out]; exact han
                      have hkl : a2 < l.length := by rw [HLEN.out]; exact hks
                      have hx : l[a2] = s[a2] := by
                        have := HL.out
                        subst this
                        exact getElem_un s a2 hks
                      have hdr : l.drop a2 = s[a2] :: l.drop (a2 + 1) := by rw [List.drop_eq_getElem_cons hkl, hx]
                      obtain ⟨b, hb⟩ : ∃ b, b = s[a2] := ⟨_, rfl⟩
                      rw [← hb] at hdr
                      have hnum2 : numD (l.drop at_) ii 1 0 bi = numD (b :: l.drop (a2 + 1)) i2 w2 k2 bi := by rw [hnum.out, hdr]
                      have HNUM := Lib.hid hnum2
                      have hval := fun W => r12_value b W
                      have cs : (s[a2].toNat : Int) = (b.toNat : Int) := by rw [hb]
                      have hpI : pvI b = if pv b = 99 then -1 else (pv b : Int) := rfl
                      have hplt := @pv_lt b
                      obtain ⟨pI, hp⟩ : ∃ pI, pI = pvI b := ⟨_, rfl⟩
                      rw [← hp] at hpI
                      simp only [← hp] at hval
                      have HVAL := Lib.hid hval
                      clear hb hx hdr hnum2 hnum hp hval hkl
                      by_cases h99 : pv b = 99
                      · rw [if_pos h99] at hpI
                        subst hpI
                        have hnone := HNUM.out.trans (numD_bad h99)
                        have hend : Hid (decV l = none) := Lib.hid (by rw [hst.out, decL_none (by rw [Ne, List.drop_eq_nil_iff, HLEN.out, ← HN.out]; omega) hnone])
                        clear HNUM hst hplt h99 hnone
                        go_wp2_with fail
                        all_goals (try (exfalso; omega))
                        refine (HVAL.out _).mono ?_; rintro e w9 ⟨rfl, rfl⟩
                        go_wp2
                        all_goals (try (exfalso; omega))
                        go_ret2
                        exact ⟨⟨_, _, rfl, .inr ⟨by decide, rfl, hend.out⟩⟩, HNX.out⟩
                      · rw [if_neg h99] at hpI
                        have hp36 := hplt h99
                        have h99b : pv b ≠ 99 := h99
                        obtain ⟨x, hx⟩ : ∃ x, x = pv b := ⟨_, rfl⟩
                        rw [← hx] at hpI hp36
                        subst hpI
                        obtain ⟨M, hM⟩ : ∃ M, M = x * w2 := ⟨_, rfl⟩
                        have hMb : M ≤ 38482906972160 := by
                          rw [hM]
                          exact Nat.le_trans (Nat.mul_le_mul (show x ≤ 35 by omega) hw2) (by decide)
                        have hmul : (x : Int) * (w2 : Int) = (M : Int) := by rw [hM]; rfl
                        have hMx : pv b * w2 = M := by rw [← hx, hM]
                        have HX := Lib.hid hx
                        have HM := Lib.hid hMx
                        have H99 := Lib.hid h99b
                        clear hx hM hMx h99b hplt h99
                        by_cases hfar : 1099511627776 < i2 + M
                        · have g5 : decide ((1099511627776 : Int) < (i2 : Int) + (M : Int)) = true := decide_eq_true (by omega)
                          have hnone := HNUM.out.trans (numD_far H99.out (by rw [HM.out]; exact hfar))
                          have hend : Hid (decV l = none) := Lib.hid (by rw [hst.out, decL_none (by rw [Ne, List.drop_eq_nil_iff, HLEN.out, ← HN.out]; omega) hnone])
                          clear HNUM hst hnone
                          go_wp2_with fail
                          all_goals (try (exfalso; omega))
                          refine (HVAL.out _).mono ?_; rintro e w9 ⟨rfl, rfl⟩
                          go_wp2
                          all_goals (try (exfalso; omega))
                          go_ret2
                          exact ⟨⟨_, _, rfl, .inr ⟨by decide, rfl, hend.out⟩⟩, HNX.out⟩
                        · have g5 : decide ((1099511627776 : Int) < (i2 : Int) + (M : Int)) = false := decide_eq_false (by omega)
                          have hfar2 : ¬ 1099511627776 < i2 + pv b * w2 := by rw [HM.out]; exact hfar
                          have htb := thr_bounds k2 bi
                          have hthr := fun W => r12_threshold k2 bi W (by omega) (by omega)
                          obtain ⟨t, ht⟩ : ∃ t, t = thr k2 bi := ⟨_, rfl⟩
                          rw [← ht] at htb
                          simp only [← ht] at hthr
                          have HTHR := Lib.hid hthr
                          clear hthr
                          by_cases hxt : x < t
                          · have g6 : decide ((x : Int) < (t : Int)) = true := decide_eq_true (by omega)
                            have hsome := HNUM.out.trans (numD_end H99.out hfar2 (by rw [← ht, ← HX.out]; exact hxt))
                            rw [HM.out] at hsome
                            have hdl := decL_some (n := nn) (first := fi) (pts := pts) hsome
                            rw [← hst.out] at hdl
                            have HDL := Lib.hid hdl
                            clear HNUM hst hsome hdl ht hfar2 H99 HX HM
                            have hDL := HDL.out
                            rw [← HM2.out] at hDL
                            obtain ⟨D, hD⟩ : ∃ D, D = i2 + M - ii := ⟨_, rfl⟩
                            rw [← hD] at hDL
                            have hDi : (i2 : Int) + (M : Int) - (ii : Int) = (D : Int) := by omega
                            have hDb : D ≤ 1099511627776 := by omega
                            have had := fun W => r12_adapt D (m + 1) fi W hDb (by omega) (by omega)
                            have hadb := adaptN_le D (m + 1) fi hDb
                            obtain ⟨bi2, hbi2⟩ : ∃ b2, b2 = adaptN D (m + 1) fi := ⟨_, rfl⟩
                            rw [← hbi2] at hadb hDL
                            simp only [← hbi2] at had
                            push_cast at had
                            have HAD := Lib.hid had
                            obtain ⟨I, hI⟩ : ∃ I, I = i2 + M := ⟨_, rfl⟩
                            rw [← hI] at hDL
                            obtain ⟨q, hq⟩ : ∃ q, q = I / (m + 1) := ⟨_, rfl⟩
                            obtain ⟨r, hr⟩ : ∃ r, r = I % (m + 1) := ⟨_, rfl⟩
                            rw [← hq, ← hr] at hDL
                            have hrm : r ≤ m := by have := Nat.mod_lt I (show 0 < m + 1 by omega); omega
                            have hqb : q ≤ 1099511627776 := by have := Nat.div_le_self I (m + 1); omega
                            have e1 : (i2 : Int) + (M : Int) = (I : Int) := by omega
                            have e2 : (m : Int) + 1 = ((m + 1 : Nat) : Int) := by omega
                            have hqi : ((i2 : Int) + (M : Int)) / ((m : Int) + 1) = (q : Int) := by rw [e1, e2, hq]; rfl
                            have hqt : ((i2 : Int) + (M : Int)).tdiv ((m : Int) + 1) = (q : Int) := by rw [Int.tdiv_eq_ediv_of_nonneg (by omega)]; exact hqi
                            have hri : ((i2 : Int) + (M : Int)) % ((m : Int) + 1) = (r : Int) := by rw [e1, e2, hr]; rfl
                            have hrt : ((i2 : Int) + (M : Int)).tmod ((m : Int) + 1) = (r : Int) := by rw [Int.tmod_eq_emod_of_nonneg (by omega)]; exact hri
                            have hmz : (m : Int) + 1 ≠ 0 := by omega
                            have hpt := fun W => r12_point (nn + q) W (by omega)
                            obtain ⟨ok, hok⟩ : ∃ ok, ok = ptOk (nn + q) := ⟨_, rfl⟩
                            have hokb : ok = true → nn + q ≤ 1114111 := fun h => by rw [hok] at h; exact (of_decide_eq_true h).1
                            rw [← hok] at hDL
                            simp only [← hok] at hpt
                            push_cast at hpt
                            have HPT := Lib.hid hpt
                            have HDL2 := Lib.hid hDL
                            clear HDL hDL hD had hbi2 hI hq hr e1 e2 hpt hok
                            go_wp2_with fail
                            all_goals (try (exfalso; omega))
                            refine (HVAL.out _).mono ?_; rintro e w9 ⟨rfl, rfl⟩
                            go_wp2_with fail
                            all_goals (try (exfalso; omega))
                            refine (HTHR.out _).mono ?_; rintro e w8 ⟨rfl, rfl⟩
                            go_wp2_with fail
                            all_goals (try (exfalso; omega))
                            refine (HAD.out _).mono ?_; rintro e w7 ⟨rfl, rfl⟩
                            go_wp2_with fail
                            all_goals (try (exfalso; omega))
                            refine (HPT.out _).mono ?_; rintro e w6 ⟨rfl, rfl⟩
                            cases ok
                            · have hend : Hid (decV l = none) := Lib.hid (by rw [HDL2.out, if_pos rfl])
                              clear HDL2
                              go_wp2
                              all_goals (try (exfalso; omega))
                              go_ret2
                              exact ⟨⟨_, _, rfl, .inr ⟨by decide, rfl, hend.out⟩⟩, HNX.out⟩
                            · have hDL3 := HDL2.out
                              rw [if_neg (by simp)] at hDL3
                              have HDL3 := Lib.hid hDL3
                              clear HDL2 hDL3
                              go_wp2_with fail
                              all_goals (try (exfalso; omega))
                              have hNb := hokb trivial
                              -- REGION
                              go_cut [6] (fun ov wx => wx.ownsRow w.heap.size 3 1 ov (m + 1) (ncells (putIn pts r (nn + q))) ∧ Below w.heap.size w wx)
                              case first =>
                                rcases HOWN.out.2 with ⟨hao, hm0⟩ | ⟨g, cap, cur, hao, hgb, hgc, hmc, hcm, hcs, hct⟩
                                · obtain ⟨rfl, rfl⟩ : ao = none ∧ co = 0 := by injection hao with h1 _ h2; exact ⟨h1, h2⟩
                                  have hml : pts.length = m := HM2.out.symm
                                  obtain rfl : m = 0 := hm0
                                  obtain rfl : r = 0 := by omega
                                  have hNil : ∀ W, Nums W (.slice none 0 0) (pts.take 0) := fun W => by rw [List.take_zero]; exact Nums.nil W
                                  have hNil3 : ∀ W, Nums W (.slice none 0 0) (pts.drop 0) := fun W => by rw [List.eq_nil_of_length_eq_zero hml]; exact Nums.nil W
                                  have S1 := Lib.hid (hNil wr)
                                  have S3 := Lib.hid (hNil3 wr)
                                  clear hao hNil hNil3 hqi hqt hri hrt hmz g1 g5 g6 hmul
                                  go_region_law (first | (refine step_append_nums (by rfl) _ _ (by rfl) wr.heap.size vB _ _ (by rfl) hB _ (by rfl) (pts.drop 0) (by (try go_simp); exact S3.out.below bB) (by simp [List.length_take, List.length_drop]; try omega) (by first | exact Nat.le_refl _ | exact bB.size | exact bA.size | (rw [World.size_alloc]; exact Nat.le_succ_of_le bA.size) | (simp; done) | (simp; omega)) ?_; intro vC wC hC gC; have bC : Below wr.heap.size wr wC := growB bB (Nat.le_refl _) hB gC) | (refine step_append_nums (by rfl) _ _ (by rfl) wr.heap.size vA _ _ (by rfl) (by first | exact hA | exact hA.alloc _) _ (by rfl) [nn + q] (by first | exact num_lit2 wA nn q _ | exact litB gA | exact litC gA) (by simp [List.length_take]; try omega) (by first | exact Nat.le_refl _ | exact bB.size | exact bA.size | (rw [World.size_alloc]; exact Nat.le_succ_of_le bA.size) | (simp; done) | (simp; omega)) ?_; intro vB wB hB gB; have bB : Below wr.heap.size wr wB := (by first | (with_reducible exact growB bA (Nat.le_refl _) hA gB) | (with_reducible exact growA bA (Nat.le_refl _) hA gB))) | (refine step_append_nums (by rfl) _ _ (by rfl) wr.heap.size (.slice (some ⟨_, 0, none⟩) 0 0) 0 [] (by rfl) (by first | exact own_emptyA _ _ | exact own_emptyB _ _ _ | exact own_emptyC _ _ _) _ (by rfl) (pts.take 0) (by first | exact S1.out.below ((Below.refl _ _).alloc (Nat.le_refl _) _).drew | exact S1.out.below (((Below.refl _ _).alloc (Nat.le_refl _) _).alloc (by simp) _).drew) (by simp [List.length_take]; try omega) (by first | exact Nat.le_refl _ | exact bB.size | exact bA.size | (rw [World.size_alloc]; exact Nat.le_succ_of_le bA.size) | (simp; done) | (simp; omega)) ?_; intro vA wA hA gA; have bA : Below wr.heap.size wr wA := (by first | (with_reducible exact grow1 gA (Nat.le_refl _)) | (with_reducible exact grow2 gA (Nat.le_refl _)) | (with_reducible exact grow2 gA (Nat.le_succ _)))))
                                  · have hF : wC.ownsRow w.heap.size 3 1 vC (0 + 1) (ncells (putIn pts 0 (nn + q))) := by
                                      have h9 := Go.Joins.ownsRow_le hC HNX.out.size
                                      have e9 : ([] ++ List.take 0 pts ++ [nn + q] ++ List.drop 0 pts : List Nat) = putIn pts 0 (nn + q) := by simp [putIn]
                                      have e8 : 0 + (List.take 0 pts).length + [nn + q].length + (List.drop 0 pts).length = 0 + 1 := by rw [List.length_take, List.length_drop, hml, Nat.min_eq_left (by omega)]; simp; try omega
                                      rw [e9, e8] at h9
                                      exact h9
                                    have hX : Below w.heap.size w wC := HNX.out.trans (bC.mono HNX.out.size)
                                    clear hA gA bA hB gB bB hC gC bC
                                    go_wp2
                                    all_goals (go_meet; exact ⟨hF, hX⟩)
                                  · have hF : wC.ownsRow w.heap.size 3 1 vC (0 + 1) (ncells (putIn pts 0 (nn + q))) := by
                                      have h9 := Go.Joins.ownsRow_le hC HNX.out.size
                                      have e9 : ([] ++ List.take 0 pts ++ [nn + q] ++ List.drop 0 pts : List Nat) = putIn pts 0 (nn + q) := by simp [putIn]
                                      have e8 : 0 + (List.take 0 pts).length + [nn + q].length + (List.drop 0 pts).length = 0 + 1 := by rw [List.length_take, List.length_drop, hml, Nat.min_eq_left (by omega)]; simp; try omega
                                      rw [e9, e8] at h9
                                      exact h9
                                    have hX : Below w.heap.size w wC := HNX.out.trans (bC.mono HNX.out.size)
                                    clear hA gA bA hB gB bB hC gC bC
                                    go_wp2
                                    all_goals (go_meet; exact ⟨hF, hX⟩)
                                  · have hF : wC.ownsRow w.heap.size 3 1 vC (0 + 1) (ncells (putIn pts 0 (nn + q))) := by
                                      have h9 := Go.Joins.ownsRow_le hC HNX.out.size
                                      have e9 : ([] ++ List.take 0 pts ++ [nn + q] ++ List.drop 0 pts : List Nat) = putIn pts 0 (nn + q) := by simp [putIn]
                                      have e8 : 0 + (List.take 0 pts).length + [nn + q].length + (List.drop 0 pts).length = 0 + 1 := by rw [List.length_take, List.length_drop, hml, Nat.min_eq_left (by omega)]; simp; try omega
                                      rw [e9, e8] at h9
                                      exact h9
                                    have hX : Below w.heap.size w wC := HNX.out.trans (bC.mono HNX.out.size)
                                    clear hA gA bA hB gB bB hC gC bC
                                    go_wp2
                                    all_goals (go_meet; exact ⟨hF, hX⟩)
                                · obtain ⟨rfl, rfl⟩ : ao = some ⟨g, 0, none⟩ ∧ co = cap := by injection hao with h1 _ h2; exact ⟨h1, h2⟩
                                  have hNums : Nums wr (.slice (some ⟨g, 0, none⟩) m co) pts := by rw [HM2.out]; exact Nums.owned (by rw [← HM2.out]; exact HOWN.out)
                                  have hml : pts.length = m := HM2.out.symm
                                  have hmI : (m : Int) ≤ (co : Int) := by omega
                                  have hrI : (r : Int) ≤ (m : Int) := by omega
                                  have hrI2 : (r : Int) ≤ (co : Int) := by omega
                                  have hr0 : (0 : Int) ≤ (r : Int) := by omega
                                  have hcI : (co : Int) ≤ 9223372036854775807 := by unfold maxLen at hcm; omega
                                  have S1 := Lib.hid (hNums.head r (by omega) hmc hcm)
                                  have S3 := Lib.hid (hNums.tail2 hml r (by omega) hmc hcm)
                                  clear hao hct hgc hcs hNums hqi hqt hri hrt hmz g1 g5 g6 hmul
                                  go_region_law (first | (refine step_append_nums (by rfl) _ _ (by rfl) wr.heap.size vB _ _ (by rfl) hB _ (by rfl) (pts.drop r) (by (try go_simp); exact S3.out.below bB) (by simp [List.length_take, List.length_drop]; try omega) (by first | exact Nat.le_refl _ | exact bB.size | exact bA.size | (rw [World.size_alloc]; exact Nat.le_succ_of_le bA.size) | (simp; done) | (simp; omega)) ?_; intro vC wC hC gC; have bC : Below wr.heap.size wr wC := growB bB (Nat.le_refl _) hB gC) | (refine step_append_nums (by rfl) _ _ (by rfl) wr.heap.size vA _ _ (by rfl) (by first | exact hA | exact hA.alloc _) _ (by rfl) [nn + q] (by first | exact num_lit2 wA nn q _ | exact litB gA | exact litC gA) (by simp [List.length_take]; try omega) (by first | exact Nat.le_refl _ | exact bB.size | exact bA.size | (rw [World.size_alloc]; exact Nat.le_succ_of_le bA.size) | (simp; done) | (simp; omega)) ?_; intro vB wB hB gB; have bB : Below wr.heap.size wr wB := (by first | (with_reducible exact growB bA (Nat.le_refl _) hA gB) | (with_reducible exact growA bA (Nat.le_refl _) hA gB))) | (refine step_append_nums (by rfl) _ _ (by rfl) wr.heap.size (.slice (some ⟨_, 0, none⟩) 0 0) 0 [] (by rfl) (by first | exact own_emptyA _ _ | exact own_emptyB _ _ _ | exact own_emptyC _ _ _) _ (by rfl) (pts.take r) (by first | exact S1.out.below ((Below.refl _ _).alloc (Nat.le_refl _) _).drew | exact S1.out.below (((Below.refl _ _).alloc (Nat.le_refl _) _).alloc (by simp) _).drew) (by simp [List.length_take]; try omega) (by first | exact Nat.le_refl _ | exact bB.size | exact bA.size | (rw [World.size_alloc]; exact Nat.le_succ_of_le bA.size) | (simp; done) | (simp; omega)) ?_; intro vA wA hA gA; have bA : Below wr.heap.size wr wA := (by first | (with_reducible exact grow1 gA (Nat.le_refl _)) | (with_reducible exact grow2 gA (Nat.le_refl _)) | (with_reducible exact grow2 gA (Nat.le_succ _)))))
                                  · have hF : wC.ownsRow w.heap.size 3 1 vC (m + 1) (ncells (putIn pts r (nn + q))) := by
                                      have h9 := Go.Joins.ownsRow_le hC HNX.out.size
                                      have e9 : ([] ++ List.take r pts ++ [nn + q] ++ List.drop r pts : List Nat) = putIn pts r (nn + q) := by simp [putIn]
                                      have e8 : 0 + (List.take r pts).length + [nn + q].length + (List.drop r pts).length = m + 1 := by rw [List.length_take, List.length_drop, hml, Nat.min_eq_left (by omega)]; simp; try omega
                                      rw [e9, e8] at h9
                                      exact h9
                                    have hX : Below w.heap.size w wC := HNX.out.trans (bC.mono HNX.out.size)
                                    clear hA gA bA hB gB bB hC gC bC
                                    go_wp2
                                    all_goals (go_meet; exact ⟨hF, hX⟩)
                                  · have hF : wC.ownsRow w.heap.size 3 1 vC (m + 1) (ncells (putIn pts r (nn + q))) := by
                                      have h9 := Go.Joins.ownsRow_le hC HNX.out.size
                                      have e9 : ([] ++ List.take r pts ++ [nn + q] ++ List.drop r pts : List Nat) = putIn pts r (nn + q) := by simp [putIn]
                                      have e8 : 0 + (List.take r pts).length + [nn + q].length + (List.drop r pts).length = m + 1 := by rw [List.length_take, List.length_drop, hml, Nat.min_eq_left (by omega)]; simp; try omega
                                      rw [e9, e8] at h9
                                      exact h9
                                    have hX : Below w.heap.size w wC := HNX.out.trans (bC.mono HNX.out.size)
                                    clear hA gA bA hB gB bB hC gC bC
                                    go_wp2
                                    all_goals (go_meet; exact ⟨hF, hX⟩)
                                  · have hF : wC.ownsRow w.heap.size 3 1 vC (m + 1) (ncells (putIn pts r (nn + q))) := by
                                      have h9 := Go.Joins.ownsRow_le hC HNX.out.size
                                      have e9 : ([] ++ List.take r pts ++ [nn + q] ++ List.drop r pts : List Nat) = putIn pts r (nn + q) := by simp [putIn]
                                      have e8 : 0 + (List.take r pts).length + [nn + q].length + (List.drop r pts).length = m + 1 := by rw [List.length_take, List.length_drop, hml, Nat.min_eq_left (by omega)]; simp; try omega
                                      rw [e9, e8] at h9
                                      exact h9
                                    have hX : Below w.heap.size w wC := HNX.out.trans (bC.mono HNX.out.size)
                                    clear hA gA bA hB gB bB hC gC bC
                                    go_wp2
                                    all_goals (go_meet; exact ⟨hF, hX⟩)
                              case rest =>
                              obtain ⟨hF, hX⟩ := hcut
                              have HF := Lib.hid hF
                              have HX := Lib.hid hX
                              obtain ⟨aC, cC, rfl⟩ := own_sliceN hF
                              clear hF hX HNX HOWN hqi hqt hri hrt hmz g1 g5 g6 hmul
                              by_cases h256 : 256 < m + 1
                              · have hend : Hid (decV l = none) := Lib.hid (by rw [HDL3.out, if_pos h256])
                                have g8 : decide ((256 : Int) < (m : Int) + 1) = true := decide_eq_true (by omega)
                                clear HDL3
                                go_wp2
                                all_goals (try (exfalso; omega))
                                go_ret2
                                exact ⟨⟨_, _, rfl, .inr ⟨by decide, rfl, hend.out⟩⟩, HX.out⟩
                              · have hDL4 := HDL3.out
                                rw [if_neg h256] at hDL4
                                have HDL4 := Lib.hid hDL4
                                have g8 : decide ((256 : Int) < (m : Int) + 1) = false := decide_eq_false (by omega)
                                clear HDL3 hDL4
                                go_wp2
                                all_goals (try (exfalso; omega))
                                go_roundw
                                case rel =>
                                  exact ⟨putIn pts r (nn + q), a2 + 1, nn + q, r + 1, bi2, false, by go_num, by go_num, by go_num, rfl, rfl, by omega, by omega, by omega, by omega, by rw [length_putIn, ← HM2.out]; omega, by rw [length_putIn, ← HM2.out]; exact HF.out, HDL4, HX.out⟩
                                case measure => simp [intOf]; omega
                              -- REGION END
                          · have g6 : decide ((x : Int) < (t : Int)) = false := decide_eq_false (by omega)
                            obtain ⟨Z, hZ⟩ : ∃ Z, Z = w2 * (36 - t) := ⟨_, rfl⟩
                            have hZb : Z ≤ 39582418599936 := by
                              rw [hZ]
                              exact Nat.le_trans (Nat.mul_le_mul hw2 (show 36 - t ≤ 36 by omega)) (by decide)
                            have hzm : (w2 : Int) * (36 - (t : Int)) = (Z : Int) := by rw [hZ, show (36 : Int) - (t : Int) = ((36 - t : Nat) : Int) by omega]; rfl
                            by_cases hzw : 1099511627776 < Z
                            · have g7 : decide ((1099511627776 : Int) < (Z : Int)) = true := decide_eq_true (by omega)
                              have hnone := HNUM.out.trans (numD_wide H99.out hfar2 (by rw [← ht, ← HX.out]; exact hxt) (by rw [← ht, ← hZ]; exact hzw))
                              have hend : Hid (decV l = none) := Lib.hid (by rw [hst.out, decL_none (by rw [Ne, List.drop_eq_nil_iff, HLEN.out, ← HN.out]; omega) hnone])
                              clear HNUM hst hnone ht hfar2 H99 HX HM hZ
                              go_wp2_with fail
                              all_goals (try (exfalso; omega))
                              refine (HVAL.out _).mono ?_; rintro e w9 ⟨rfl, rfl⟩
                              go_wp2_with fail
                              all_goals (try (exfalso; omega))
                              refine (HTHR.out _).mono ?_; rintro e w8 ⟨rfl, rfl⟩
                              go_wp2
                              all_goals (try (exfalso; omega))
                              go_ret2
                              exact ⟨⟨_, _, rfl, .inr ⟨by decide, rfl, hend.out⟩⟩, HNX.out⟩
                            · have g7 : decide ((1099511627776 : Int) < (Z : Int)) = false := decide_eq_false (by omega)
                              have hmore := HNUM.out.trans (numD_more H99.out hfar2 (by rw [← ht, ← HX.out]; exact hxt) (by rw [← ht, ← hZ]; exact hzw))
                              rw [HM.out, ← ht, ← hZ] at hmore
                              have HMORE := Lib.hid hmore
                              clear HNUM hmore ht hfar2 H99 HX HM hZ
                              go_wp2_with fail
                              all_goals (try (exfalso; omega))
                              refine (HVAL.out _).mono ?_; rintro e w9 ⟨rfl, rfl⟩
                              go_wp2_with fail
                              all_goals (try (exfalso; omega))
                              refine (HTHR.out _).mono ?_; rintro e w8 ⟨rfl, rfl⟩
                              go_wp2
                              all_goals (try (exfalso; omega))
                              go_round
                              case rel => exact ⟨a2 + 1, i2 + M, Z, k2 + 1, by go_num, by go_num, by go_num, by go_num, by omega, by omega, by omega, by omega, by omega, by omega, HMORE⟩
                              case measure => simp [intOf]; omega
                    · have hnone : numD (l.drop at_) ii 1 0 bi = none := by rw [hnum.out, List.drop_of_length_le (by rw [HLEN.out, ← HN.out]; omega), numD_nil]
                      have hend : Hid (decV l = none) := Lib.hid (by rw [hst.out, decL_none (by rw [Ne, List.drop_eq_nil_iff, HLEN.out, ← HN.out]; omega) hnone])
                      clear hst hnone hnum
                      go_wp2
                      all_goals (try (exfalso; omega))
                      go_ret2
                      exact ⟨⟨_, _, rfl, .inr ⟨by decide, rfl, hend.out⟩⟩, HNX.out⟩
                · have hend : Hid (decV l = some pts) := Lib.hid (by rw [hst.out, List.drop_of_length_le (by rw [HLEN.out, ← HN.out]; omega), decL_nil])
                  obtain ⟨ao, co, rfl⟩ := own_sliceN hown
                  clear hst
                  go_wp2
                  all_goals (try (exfalso; omega))
                  go_ret2
                  exact ⟨⟨_, _, rfl, .inl ⟨rfl, pts, hend.out, hown⟩⟩, hnx⟩
end Go.Proofs.YtjbciamhhfcdoaaGreatDoor
