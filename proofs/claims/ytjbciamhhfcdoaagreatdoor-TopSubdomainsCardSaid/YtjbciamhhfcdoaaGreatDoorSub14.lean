/- The walk of Encode of Punycode of the program (printed by tpl_puny5.py). Conditions: the code points are at most 256 numbers that are not negative. -/
import Derived.Test.YtjbciamhhfcdoaaGreatDoorSub09
namespace Go.Proofs.YtjbciamhhfcdoaaGreatDoor
open Go.RowKit Hs
set_option linter.unusedSimpArgs false
set_option linter.unusedVariables false

set_option maxRecDepth 20000 in
set_option maxHeartbeats 16000000 in
theorem py_encode (v : Value) (pts : List Nat) (w : World) (hst : Nums w v pts) (hl : pts.length ≤ 100000) (hbig : ∀ p ∈ pts, p ≤ 1152921504606846976) : Calls Tryz.prog 184 #[v] w fun e w' => (∃ s c, e = .returned (.tuple #[.string s, .int .i64 c]) ∧ ((c = 0 ∧ encV pts = some (un s)) ∨ (c ≠ 0 ∧ s = ⟨#[]⟩ ∧ encV pts = none))) ∧ Below w.heap.size w w' := by
  obtain ⟨iB0, iB⟩ := info_parts infoByte
  have hdef : Hid (encV pts = if 256 < pts.length then none else if pts.all ptOk = false then none else some (encR pts (basicB pts).length pts.length 128 (basicB pts ++ if (basicB pts).length = 0 then [] else [45]) 0 72 (basicB pts).length)) := Lib.hid rfl
  obtain ⟨a, c, rfl, hn, hm, hc⟩ := hst.open
  unfold maxLen at hm
  have HC := Lib.hid hc
  have HBIG := Lib.hid hbig
  clear hc hst hbig
  obtain ⟨n, hn0⟩ : ∃ n, pts.length = n := ⟨_, rfl⟩
  rw [hn0] at hn hl hdef ⊢
  have HN := Lib.hid hn0
  clear hn0
  by_cases hlong : 256 < n
  · have g1 : decide ((256 : Int) < (n : Int)) = true := decide_eq_true (by omega)
    have hend : Hid (encV pts = none) := Lib.hid (by rw [hdef.out, if_pos hlong])
    clear hdef
    go_enter Tryz.func184, Tryz.ntmps184
    go_wp2
    all_goals (try (exfalso; omega))
    go_ret2
    exact ⟨⟨_, _, rfl, .inr ⟨by decide, rfl, hend.out⟩⟩, Below.refl _ _⟩
  · have g1 : decide ((256 : Int) < (n : Int)) = false := decide_eq_false (by omega)
    have hdef2 := Lib.hid (hdef.out.trans (if_neg hlong))
    clear hdef
    go_enter Tryz.func184, Tryz.ntmps184
    go_wp2
    all_goals (try (exfalso; omega))
    go_loopw [4, 22] (fun ov iv wr => ∃ (k m : Nat), iv = .int .i64 k ∧ k ≤ n ∧ m ≤ k ∧ wr.ownsRow w.heap.size 5 1 ov m (bcells (basicB (pts.take k))) ∧ Hid (pts.all ptOk = (pts.drop k).all ptOk) ∧ Below w.heap.size w wr) (fun _ iv _ => n - (intOf iv).toNat)
    case atStart => exact ⟨0, 0, rfl, by omega, by omega, World.ownsRow_nil _ _ _ _, Lib.hid (by rw [List.drop_zero]), Below.refl _ _⟩
    case round =>
      obtain ⟨k, m, rfl, hk, hmk, hown, hall, hnx⟩ := hrel
      have hsz := hnx.size
      by_cases hlt : k < n
      · obtain ⟨b, off, rfl, hb1, hcell⟩ := HC.out (by rw [HN.out]; omega)
        have hkl : k < pts.length := by rw [HN.out]; exact hlt
        have c0w := hcell k hkl
        have c0 := ((bcell hnx).1 b (off + k) hb1).trans c0w
        have hp := HBIG.out pts[k] (List.getElem_mem hkl)
        have htk : Hid (pts.take (k + 1) = pts.take k ++ [pts[k]]) := Lib.hid (List.take_succ_eq_append_getElem hkl)
        have hda := drop_all pts ptOk k hkl
        obtain ⟨p, hpp⟩ : ∃ p, p = pts[k] := ⟨_, rfl⟩
        rw [← hpp] at c0 c0w hp htk hda
        have hpt := fun W => py_point p W hp
        obtain ⟨ok, hok⟩ : ∃ ok, ok = ptOk p := ⟨_, rfl⟩
        rw [← hok] at hda
        simp only [← hok] at hpt
        have HP := Lib.hid hpt
        have c1 : ∀ o, (wr.alloc o).cell? ⟨b, off + k, none⟩ = some (.int .i64 (p : Int)) := fun o => ((bcell ((Below.refl wr.heap.size wr).alloc (Nat.le_refl _) o)).1 b (off + k) (by omega)).trans c0
        clear hcell hpp hok hpt hkl c0w
        cases ok
        · have hend : Hid (encV pts = none) := Lib.hid (by rw [hdef2.out, hall.out, hda]; rfl)
          clear hall hda
          go_wp2_with fail
          refine (HP.out _).mono ?_; rintro e w2 ⟨rfl, rfl⟩
          go_wp2
          all_goals (try (exfalso; omega))
          go_ret2
          exact ⟨⟨_, _, rfl, .inr ⟨by decide, rfl, hend.out⟩⟩, hnx⟩
        · have hall2 : Hid (pts.all ptOk = (pts.drop (k + 1)).all ptOk) := Lib.hid (by rw [hall.out, hda, Bool.true_and])
          clear hall hda
          by_cases hp128 : p < 128
          · have g2 : decide ((p : Int) < 128) = true := decide_eq_true (by omega)
            have hbb := byte_nat p (by omega)
            go_wp2_with fail
            refine (HP.out _).mono ?_; rintro e w2 ⟨rfl, rfl⟩
            go_wp2_with (first | (at_builtin; refine wpList_append_own _ rfl (.tmp 31) (.tmp 34) 32 rfl (w.heap.size) 5 iB0 (.int .u8 0) 1 1 Tryz.underlying32 iB.1 iB.2.1 iB.2.2.1 iB.2.2.2 rfl (by decide) _ _ _ rfl (hown.alloc _) ⟨wr.heap.size, 0, none⟩ 1 1 [_] rfl rfl (cell_one_new _ _ _) (by intro u hu; simp at hu; subst hu; rfl) (by unfold maxLen; omega) (by omega) (by simp; omega) ?_; intro v1 w3 hown1 hgrow1 hnil1))
            all_goals (try (exfalso; omega))
            go_roundw
            case rel =>
              refine ⟨k + 1, m + 1, by go_num, by omega, by omega, ?_, hall2, (hnx.alloc (by omega) _).grown hgrow1 (by simp; omega) (fun j hj => (hown.lt j hj).1)⟩
              rw [htk.out, basicB_snoc_lt hp128, bcells_append]
              have e : bcells [UInt8.ofNat p] = [.int .u8 (p : Int)] := by show [Value.int .u8 _] = _; rw [hbb]
              rw [e]
              exact hown1
            case measure => simp [intOf]; omega
          · have g2 : decide ((p : Int) < 128) = false := decide_eq_false (by omega)
            go_wp2_with fail
            refine (HP.out _).mono ?_; rintro e w2 ⟨rfl, rfl⟩
            go_wp2
            all_goals (try (exfalso; omega))
            go_roundw
            case rel => exact ⟨k + 1, m, by go_num, by omega, by omega, by rw [htk.out, basicB_snoc_ge hp128]; exact hown, hall2, hnx⟩
            case measure => simp [intOf]; omega
      · skip
        have hk9 : pts.take k = pts := List.take_of_length_le (by rw [HN.out]; omega)
        have hall9 : pts.all ptOk = true := by rw [hall.out, List.drop_of_length_le (by rw [HN.out]; omega)]; rfl
        have HOK := Lib.hid (all_take_ok pts hall9)
        rw [hk9] at hown
        have hm9 : m = (basicB pts).length := by have := hown.1; simp at this; omega
        have hes0 := enc_start pts (by rw [HN.out]; omega)
        have hdef3 : encV pts = some (encR pts (basicB pts).length pts.length 128 (basicB pts ++ if (basicB pts).length = 0 then [] else [45]) 0 72 (basicB pts).length) := by rw [hdef2.out, hall9, HN.out]; rfl
        obtain ⟨R, hR⟩ : ∃ R, R = encR pts (basicB pts).length pts.length 128 (basicB pts ++ if (basicB pts).length = 0 then [] else [45]) 0 72 (basicB pts).length := ⟨_, rfl⟩
        rw [← hR] at hes0 hdef3
        rw [← hm9] at hes0
        have HR := Lib.hid hdef3
        obtain ⟨a2, c2, rfl⟩ := own_sliceN hown
        clear hall hall9 hk9 hdef2 hdef3 hR
        rcases Nat.eq_zero_or_pos m with h0 | h0
        · obtain ⟨OUT0, hO⟩ : ∃ OUT0, OUT0 = basicB pts ++ if m = 0 then ([] : Bs) else [45] := ⟨_, rfl⟩
          rw [← hO] at hes0
          have hOe : OUT0 = basicB pts := by rw [hO, if_pos h0, List.append_nil]
          have HES := Lib.hid hes0
          have HOWN0 := Lib.hid (show wr.ownsRow w.heap.size 5 1 (.slice a2 m c2) OUT0.length (bcells OUT0) by rw [hOe, ← hm9]; exact hown)
          have HNX0 := Lib.hid hnx
          have g2 : decide ((0 : Int) < (m : Int)) = false := decide_eq_false (by omega)
          have g2n : decide (0 < m) = false := decide_eq_false (by omega)
          have h00 : m ≤ 0 := by omega
          clear hO hOe hes0 hown hm9 h0 hnx
          go_wp2
          all_goals (try (exfalso; omega))
          go_loopw [4, 8, 9, 10, 11] (fun ov nv dv bv dnv wr => ∃ (out : Bs) (dn nn dl bi : Nat), dnv = .int .i64 dn ∧ nv = .int .i64 nn ∧ dv = .int .i64 dl ∧ bv = .int .i64 bi ∧ dn ≤ n ∧ nn ≤ 1114112 ∧ dl ≤ 257 ∧ bi ≤ 324 ∧ out.length ≤ 257 + 11 * dn ∧ wr.ownsRow w.heap.size 5 1 ov out.length (bcells out) ∧ Hid (EncSt pts m R nn out dl bi dn) ∧ Below w.heap.size w wr) (fun _ _ _ _ dnv _ => n - (intOf dnv).toNat)
          case atStart => exact ⟨OUT0, m, 128, 0, 72, rfl, rfl, rfl, rfl, by omega, by omega, by omega, by omega, HES.out.fits, HOWN0.out, HES, HNX0.out⟩
          case round =>
            obtain ⟨out, dn, nn, dl, bi, rfl, rfl, rfl, rfl, hdn, hnn, hdl, hbi, hol, hown, hes, hnx⟩ := hrel
            by_cases hlt : dn < n
            · have hmore := hes.out.more (by rw [HN.out]; exact hlt) HOK.out
              obtain ⟨M, hM⟩ : ∃ M, M = minGE nn 1114112 pts := ⟨_, rfl⟩
              rw [← hM] at hmore
              obtain ⟨hm1, hm2, hm3, hm4, hm5⟩ := hmore
              have HM3 := Lib.hid hm3
              have HST0 : Hid (min 1114112 (minGE nn 1114112 (pts.drop 0)) = M) := Lib.hid (by rw [List.drop_zero, ← hM]; omega)
              have HMM := Lib.hid hM
              clear hm5 hm3 hm4 hM
              go_wp2
              all_goals (try (exfalso; omega))
              go_loop [12, 53] (fun lv iv => ∃ k L : Nat, iv = .int .i64 k ∧ k ≤ n ∧ lv = .int .i64 L ∧ L ≤ 1114112 ∧ Hid (min L (minGE nn 1114112 (pts.drop k)) = M)) (fun _ iv => n - (intOf iv).toNat)
              case atStart => exact ⟨0, 1114112, rfl, by omega, rfl, by omega, HST0⟩
              case round =>
                obtain ⟨k, L, rfl, hk, rfl, hL, hst⟩ := hrel
                by_cases hkn : k < n
                · obtain ⟨b, off, rfl, hb1, hcell⟩ := HC.out (by rw [HN.out]; omega)
                  have hkl : k < pts.length := by rw [HN.out]; exact hkn
                  have c0 := ((bcell hnx).1 b (off + k) hb1).trans (hcell k hkl)
                  have hp := HOK.out pts[k] (List.getElem_mem hkl)
                  have hd : Hid (pts.drop k = pts[k] :: pts.drop (k + 1)) := Lib.hid (List.drop_eq_getElem_cons hkl)
                  obtain ⟨p, hpp⟩ : ∃ p, p = pts[k] := ⟨_, rfl⟩
                  rw [← hpp] at c0 hp hd
                  clear hcell hpp hkl
                  by_cases hge : nn ≤ p
                  · have g2 : decide ((nn : Int) ≤ (p : Int)) = true := decide_eq_true (by omega)
                    obtain ⟨L2, hL2⟩ : ∃ L2, L2 = min L p := ⟨_, rfl⟩
                    have hmin : min (L : Int) (p : Int) = (L2 : Int) := by omega
                    have hst2 : Hid (min L2 (minGE nn 1114112 (pts.drop (k + 1))) = M) := Lib.hid (by rw [← hst.out, hd.out, minGE_cons_ge hge, hL2, Nat.min_assoc])
                    have hL2b : L2 ≤ 1114112 := by omega
                    have HL2 := Lib.hid hL2
                    clear hst hL2
                    go_wp2
                    all_goals (try (exfalso; omega))
                    go_round
                    case rel => exact ⟨k + 1, L2, by go_num, by omega, (by have := HL2.out; congr 1; split <;> omega), hL2b, hst2⟩
                    case measure => simp [intOf]; omega
                  · have g2 : decide ((nn : Int) ≤ (p : Int)) = false := decide_eq_false (by omega)
                    have hst2 : Hid (min L (minGE nn 1114112 (pts.drop (k + 1))) = M) := Lib.hid (by rw [← hst.out, hd.out, minGE_cons_lt hge])
                    clear hst
                    go_wp2
                    all_goals (try (exfalso; omega))
                    go_round
                    case rel => exact ⟨k + 1, L, by go_num, by omega, rfl, hL, hst2⟩
                    case measure => simp [intOf]; omega
                · have hLM : L = M := by
                    have h1 := hst.out
                    rw [List.drop_of_length_le (by rw [HN.out]; omega), minGE] at h1
                    omega
                  have HLM := Lib.hid hLM
                  have hL1 : nn ≤ L := by omega
                  have hL2 : L ≤ 1114111 := by omega
                  obtain ⟨Q, hQ⟩ : ∃ Q, Q = (L - nn) * (dn + 1) := ⟨_, rfl⟩
                  have hQb : Q ≤ 300000000 := by
                    rw [hQ]
                    exact Nat.le_trans (Nat.mul_le_mul (show L - nn ≤ 1114111 by omega) (show dn + 1 ≤ 257 by omega)) (by decide)
                  have hmul : ((L : Int) - (nn : Int)) * ((dn : Int) + 1) = (Q : Int) := by
                    rw [hQ, show (L : Int) - (nn : Int) = ((L - nn : Nat) : Int) by omega, show (dn : Int) + 1 = ((dn + 1 : Nat) : Int) by omega]; rfl
                  obtain ⟨S, hS⟩ : ∃ S, S = encPass L m pts out (dl + Q) bi dn := ⟨_, rfl⟩
                  have hSd : S.2.2.2 ≤ n := by
                    rw [hS, encPass_done, hLM]
                    have h1 := hes.out.more (by rw [HN.out]; exact hlt) HOK.out
                    rw [← HMM.out] at h1
                    have h2 := below_succ M pts
                    have h3 := below_le (M + 1) pts
                    rw [HN.out] at h3
                    omega
                  have hSN : Hid (S = encPass (minGE nn 1114112 pts) m pts out (dl + (minGE nn 1114112 pts - nn) * (dn + 1)) bi dn) := Lib.hid (by rw [hS, ← HMM.out, hQ, hLM])
                  have HP0 : Hid (encPass L m (pts.drop 0) out (dl + Q) bi dn = S) := Lib.hid (by rw [List.drop_zero, hS])
                  have hSm : dn < S.2.2.2 := by
                    rw [hS, encPass_done]
                    have := equals_pos HM3.out
                    rw [hLM]
                    omega
                  have hdl2 : dl + Q ≤ 300000300 := by omega
                  have hSB := Lib.hid hSm
                  clear hst hQ hLM hS hSm
                  go_wp2
                  all_goals (try (exfalso; omega))
                  go_loopw [4, 9, 10, 11, 75] (fun ov dv bv dnv iv wr => ∃ (out : Bs) (dn dl bi k : Nat), dnv = .int .i64 dn ∧ dv = .int .i64 dl ∧ bv = .int .i64 bi ∧ iv = .int .i64 k ∧ k ≤ n ∧ dl ≤ 300000300 + k ∧ bi ≤ 324 ∧ out.length ≤ 257 + 11 * dn ∧ wr.ownsRow w.heap.size 5 1 ov out.length (bcells out) ∧ Hid (encPass L m (pts.drop k) out dl bi dn = S) ∧ Below w.heap.size w wr) (fun _ _ _ _ iv _ => n - (intOf iv).toNat)
                  case atStart => exact ⟨out, dn, dl + Q, bi, 0, rfl, by go_num, rfl, rfl, by omega, by omega, by omega, by omega, hown, HP0, hnx⟩
                  case round =>
                    obtain ⟨out, dn, dl, bi, k, rfl, rfl, rfl, rfl, hk, hdl, hbi, hol, hown, hst4, hnx⟩ := hrel
                    have hsz := hnx.size
                    have hdn : dn ≤ n := by
                      have h1 := encPass_done L m (pts.drop k) out dl bi dn
                      rw [hst4.out] at h1
                      omega
                    by_cases hkn : k < n
                    · obtain ⟨b, off, rfl, hb1, hcell⟩ := HC.out (by rw [HN.out]; omega)
                      have hkl : k < pts.length := by rw [HN.out]; exact hkn
                      have c0 := ((bcell hnx).1 b (off + k) hb1).trans (hcell k hkl)
                      have hp := HOK.out pts[k] (List.getElem_mem hkl)
                      have hdrop : Hid (pts.drop k = pts[k] :: pts.drop (k + 1)) := Lib.hid (List.drop_eq_getElem_cons hkl)
                      obtain ⟨p, hpp⟩ : ∃ p, p = pts[k] := ⟨_, rfl⟩
                      rw [← hpp] at c0 hp hdrop
                      clear hcell hpp hkl
                      rcases Nat.lt_trichotomy p L with hpl | hpl | hpl
                      · have g2 : decide ((p : Int) < (L : Int)) = true := decide_eq_true (by omega)
                        have g3 : ((p : Int) == (L : Int)) = false := by simp; omega
                        have hst5 : Hid (encPass L m (pts.drop (k + 1)) out (dl + 1) bi dn = S) := Lib.hid (by rw [← hst4.out, hdrop.out, encPass_lt hpl])
                        clear hst4
                        go_wp2
                        all_goals (try (exfalso; omega))
                        go_roundw
                        case rel => exact ⟨out, dn, dl + 1, bi, k + 1, rfl, by go_num, rfl, by go_num, by omega, by omega, by omega, by omega, hown, hst5, hnx⟩
                        case measure => simp [intOf]; omega
                      · have hpL := Lib.hid hpl
                        have hpl1 : p ≤ L := by omega
                        have hpl2 : L ≤ p := by omega
                        have g2 : decide ((p : Int) < (L : Int)) = false := decide_eq_false (by omega)
                        have g3 : ((p : Int) == (L : Int)) = true := by simp; omega
                        clear hpl
                        have hlen5 := encN_len 9 dl 0 bi (by omega)
                        have hnum := py_number _ out.length (bcells out) dl bi w.heap.size wr hown (by omega) (by omega) (by omega) (by omega)
                        obtain ⟨T5, hT5⟩ : ∃ T5, T5 = encN dl 0 bi := ⟨_, rfl⟩
                        rw [← hT5] at hlen5 hnum
                        obtain ⟨f, hff⟩ : ∃ f, f = decide (dn = m) := ⟨_, rfl⟩
                        have hfi : ((dn : Int) == (m : Int)) = f := by rw [hff, Bool.eq_iff_iff]; simp; omega
                        have had := fun W => py_adapt dl (dn + 1) f W (by omega) (by omega) (by omega)
                        rw [Int.natCast_add] at had
                        have hal := adaptN_le dl (dn + 1) f (by omega)
                        obtain ⟨b2, hb2⟩ : ∃ b2, b2 = adaptN dl (dn + 1) f := ⟨_, rfl⟩
                        simp only [← hb2] at had
                        rw [← hb2] at hal
                        have hnext : Hid (encPass L m (pts.drop (k + 1)) (out ++ T5) 0 b2 (dn + 1) = S) := Lib.hid (by rw [← hst4.out, hdrop.out, encPass_eq hpL.out, hT5, hb2, hff])
                        have HNUM := Lib.hid hnum
                        have HAD := Lib.hid had
                        clear hff hb2 had hnum hT5
                        go_wp2_with fail
                        all_goals (try (exfalso; omega))
                        refine HNUM.out.mono ?_; rintro e w2 ⟨⟨v2, rfl, hown2⟩, hb2w⟩
                        go_wp2_with fail
                        all_goals (try (exfalso; omega))
                        refine (HAD.out _).mono ?_; rintro e w3 ⟨rfl, rfl⟩
                        go_wp2
                        all_goals (try (exfalso; omega))
                        go_roundw
                        case rel =>
                          refine ⟨out ++ T5, dn + 1, 0, b2, k + 1, by go_num, rfl, rfl, by go_num, by omega, by omega, by omega, by rw [List.length_append]; omega, ?_, hnext, hnx.trans hb2w⟩
                          rw [bcells_append, List.length_append]
                          exact hown2
                        case measure => simp [intOf]; omega
                      · have g2 : decide ((p : Int) < (L : Int)) = false := decide_eq_false (by omega)
                        have g3 : ((p : Int) == (L : Int)) = false := by simp; omega
                        have hst5 : Hid (encPass L m (pts.drop (k + 1)) out dl bi dn = S) := Lib.hid (by rw [← hst4.out, hdrop.out, encPass_gt hpl])
                        clear hst4
                        go_wp2
                        all_goals (try (exfalso; omega))
                        go_roundw
                        case rel => exact ⟨out, dn, dl, bi, k + 1, rfl, rfl, rfl, by go_num, by omega, by omega, by omega, by omega, hown, hst5, hnx⟩
                        case measure => simp [intOf]; omega
                    · have hSe : (out, dl, bi, dn) = S := by rw [← hst4.out, List.drop_of_length_le (by rw [HN.out]; omega)]; rfl
                      have hnext := hes.out.next (by rw [HN.out]; exact hlt) (by rw [HN.out]; omega) HOK.out S hSN.out (by rw [← hSe]; exact hol) (by rw [← hSe]; exact hbi)
                      rw [← HMM.out, ← HLM.out, ← hSe] at hnext
                      have HNX := Lib.hid hnext
                      have hdl9 : dl + 1 ≤ 257 := hnext.small
                      have hSB2 := hSB.out
                      rw [← hSe] at hSB2
                      simp only at hSB2
                      clear hst4 hSe hnext
                      go_wp2
                      all_goals (try (exfalso; omega))
                      go_roundw
                      case rel => exact ⟨out, dn, L + 1, dl + 1, bi, rfl, by go_num, by go_num, rfl, by omega, by omega, hdl9, by omega, by omega, hown, HNX, hnx⟩
                      case measure => simp [intOf]; omega
            · have hend : Hid (R = out) := Lib.hid (hes.out.fin (by rw [HN.out]; omega))
              have hcv := string_of_row (P := Tryz.prog) (Row.owned hown) (src := 32) (dst := 9) Tryz.underlying32 Tryz.underlying5 Tryz.underlying9
              clear hes
              go_wp2
              all_goals (try (exfalso; omega))
              go_ret2
              exact ⟨⟨_, _, rfl, .inl ⟨rfl, by rw [HR.out, hend.out, un_mk]⟩⟩, hnx⟩
        · obtain ⟨OUT0, hO⟩ : ∃ OUT0, OUT0 = basicB pts ++ if m = 0 then ([] : Bs) else [45] := ⟨_, rfl⟩
          rw [← hO] at hes0
          have hOe : OUT0 = basicB pts ++ [45] := by rw [hO, if_neg (by omega)]
          have HES := Lib.hid hes0
          have HOE := Lib.hid hOe
          have HM9 := Lib.hid hm9
          have g2 : decide ((0 : Int) < (m : Int)) = true := decide_eq_true (by omega)
          have g2n : decide (0 < m) = true := decide_eq_true (by omega)
          clear hO hOe hes0 hm9
          go_wp2_with (first | (at_builtin; refine wpList_append_own _ rfl (.tmp 41) (.tmp 42) 32 rfl (w.heap.size) 5 iB0 (.int .u8 0) 1 1 Tryz.underlying32 iB.1 iB.2.1 iB.2.2.1 iB.2.2.2 rfl (by decide) _ _ _ rfl (hown.alloc _) ⟨wr.heap.size, 0, none⟩ 1 1 [_] rfl rfl (cell_one_new _ _ _) (by intro u hu; simp at hu; subst hu; rfl) (by unfold maxLen; omega) (by omega) (by simp; omega) ?_; intro v1 w3 hown1 hgrow1 hnil1))
          all_goals (try (exfalso; omega))
          have HNX0 := Lib.hid ((hnx.alloc (by omega) _).grown hgrow1 (by simp; omega) (fun j hj => (hown.lt j hj).1))
          have HOWN0 := Lib.hid (show w3.ownsRow w.heap.size 5 1 v1 OUT0.length (bcells OUT0) by rw [HOE.out, bcells_append, List.length_append, ← HM9.out]; exact hown1)
          clear hown hown1 hgrow1 hnil1 hnx
          go_loopw [4, 8, 9, 10, 11] (fun ov nv dv bv dnv wr => ∃ (out : Bs) (dn nn dl bi : Nat), dnv = .int .i64 dn ∧ nv = .int .i64 nn ∧ dv = .int .i64 dl ∧ bv = .int .i64 bi ∧ dn ≤ n ∧ nn ≤ 1114112 ∧ dl ≤ 257 ∧ bi ≤ 324 ∧ out.length ≤ 257 + 11 * dn ∧ wr.ownsRow w.heap.size 5 1 ov out.length (bcells out) ∧ Hid (EncSt pts m R nn out dl bi dn) ∧ Below w.heap.size w wr) (fun _ _ _ _ dnv _ => n - (intOf dnv).toNat)
          case atStart => exact ⟨OUT0, m, 128, 0, 72, rfl, rfl, rfl, rfl, by omega, by omega, by omega, by omega, HES.out.fits, HOWN0.out, HES, HNX0.out⟩
          case round =>
            obtain ⟨out, dn, nn, dl, bi, rfl, rfl, rfl, rfl, hdn, hnn, hdl, hbi, hol, hown, hes, hnx⟩ := hrel
            by_cases hlt : dn < n
            · have hmore := hes.out.more (by rw [HN.out]; exact hlt) HOK.out
              obtain ⟨M, hM⟩ : ∃ M, M = minGE nn 1114112 pts := ⟨_, rfl⟩
              rw [← hM] at hmore
              obtain ⟨hm1, hm2, hm3, hm4, hm5⟩ := hmore
              have HM3 := Lib.hid hm3
              have HST0 : Hid (min 1114112 (minGE nn 1114112 (pts.drop 0)) = M) := Lib.hid (by rw [List.drop_zero, ← hM]; omega)
              have HMM := Lib.hid hM
              clear hm5 hm3 hm4 hM
              go_wp2
              all_goals (try (exfalso; omega))
              go_loop [12, 53] (fun lv iv => ∃ k L : Nat, iv = .int .i64 k ∧ k ≤ n ∧ lv = .int .i64 L ∧ L ≤ 1114112 ∧ Hid (min L (minGE nn 1114112 (pts.drop k)) = M)) (fun _ iv => n - (intOf iv).toNat)
              case atStart => exact ⟨0, 1114112, rfl, by omega, rfl, by omega, HST0⟩
              case round =>
                obtain ⟨k, L, rfl, hk, rfl, hL, hst⟩ := hrel
                by_cases hkn : k < n
                · obtain ⟨b, off, rfl, hb1, hcell⟩ := HC.out (by rw [HN.out]; omega)
                  have hkl : k < pts.length := by rw [HN.out]; exact hkn
                  have c0 := ((bcell hnx).1 b (off + k) hb1).trans (hcell k hkl)
                  have hp := HOK.out pts[k] (List.getElem_mem hkl)
                  have hd : Hid (pts.drop k = pts[k] :: pts.drop (k + 1)) := Lib.hid (List.drop_eq_getElem_cons hkl)
                  obtain ⟨p, hpp⟩ : ∃ p, p = pts[k] := ⟨_, rfl⟩
                  rw [← hpp] at c0 hp hd
                  clear hcell hpp hkl
                  by_cases hge : nn ≤ p
                  · have g2 : decide ((nn : Int) ≤ (p : Int)) = true := decide_eq_true (by omega)
                    obtain ⟨L2, hL2⟩ : ∃ L2, L2 = min L p := ⟨_, rfl⟩
                    have hmin : min (L : Int) (p : Int) = (L2 : Int) := by omega
                    have hst2 : Hid (min L2 (minGE nn 1114112 (pts.drop (k + 1))) = M) := Lib.hid (by rw [← hst.out, hd.out, minGE_cons_ge hge, hL2, Nat.min_assoc])
                    have hL2b : L2 ≤ 1114112 := by omega
                    have HL2 := Lib.hid hL2
                    clear hst hL2
                    go_wp2
                    all_goals (try (exfalso; omega))
                    go_round
                    case rel => exact ⟨k + 1, L2, by go_num, by omega, (by have := HL2.out; congr 1; split <;> omega), hL2b, hst2⟩
                    case measure => simp [intOf]; omega
                  · have g2 : decide ((nn : Int) ≤ (p : Int)) = false := decide_eq_false (by omega)
                    have hst2 : Hid (min L (minGE nn 1114112 (pts.drop (k + 1))) = M) := Lib.hid (by rw [← hst.out, hd.out, minGE_cons_lt hge])
                    clear hst
                    go_wp2
                    all_goals (try (exfalso; omega))
                    go_round
                    case rel => exact ⟨k + 1, L, by go_num, by omega, rfl, hL, hst2⟩
                    case measure => simp [intOf]; omega
                · have hLM : L = M := by
                    have h1 := hst.out
                    rw [List.drop_of_length_le (by rw [HN.out]; omega), minGE] at h1
                    omega
                  have HLM := Lib.hid hLM
                  have hL1 : nn ≤ L := by omega
                  have hL2 : L ≤ 1114111 := by omega
                  obtain ⟨Q, hQ⟩ : ∃ Q, Q = (L - nn) * (dn + 1) := ⟨_, rfl⟩
                  have hQb : Q ≤ 300000000 := by
                    rw [hQ]
                    exact Nat.le_trans (Nat.mul_le_mul (show L - nn ≤ 1114111 by omega) (show dn + 1 ≤ 257 by omega)) (by decide)
                  have hmul : ((L : Int) - (nn : Int)) * ((dn : Int) + 1) = (Q : Int) := by
                    rw [hQ, show (L : Int) - (nn : Int) = ((L - nn : Nat) : Int) by omega, show (dn : Int) + 1 = ((dn + 1 : Nat) : Int) by omega]; rfl
                  obtain ⟨S, hS⟩ : ∃ S, S = encPass L m pts out (dl + Q) bi dn := ⟨_, rfl⟩
                  have hSd : S.2.2.2 ≤ n := by
                    rw [hS, encPass_done, hLM]
                    have h1 := hes.out.more (by rw [HN.out]; exact hlt) HOK.out
                    rw [← HMM.out] at h1
                    have h2 := below_succ M pts
                    have h3 := below_le (M + 1) pts
                    rw [HN.out] at h3
                    omega
                  have hSN : Hid (S = encPass (minGE nn 1114112 pts) m pts out (dl + (minGE nn 1114112 pts - nn) * (dn + 1)) bi dn) := Lib.hid (by rw [hS, ← HMM.out, hQ, hLM])
                  have HP0 : Hid (encPass L m (pts.drop 0) out (dl + Q) bi dn = S) := Lib.hid (by rw [List.drop_zero, hS])
                  have hSm : dn < S.2.2.2 := by
                    rw [hS, encPass_done]
                    have := equals_pos HM3.out
                    rw [hLM]
                    omega
                  have hdl2 : dl + Q ≤ 300000300 := by omega
                  have hSB := Lib.hid hSm
                  clear hst hQ hLM hS hSm
                  go_wp2
                  all_goals (try (exfalso; omega))
                  go_loopw [4, 9, 10, 11, 75] (fun ov dv bv dnv iv wr => ∃ (out : Bs) (dn dl bi k : Nat), dnv = .int .i64 dn ∧ dv = .int .i64 dl ∧ bv = .int .i64 bi ∧ iv = .int .i64 k ∧ k ≤ n ∧ dl ≤ 300000300 + k ∧ bi ≤ 324 ∧ out.length ≤ 257 + 11 * dn ∧ wr.ownsRow w.heap.size 5 1 ov out.length (bcells out) ∧ Hid (encPass L m (pts.drop k) out dl bi dn = S) ∧ Below w.heap.size w wr) (fun _ _ _ _ iv _ => n - (intOf iv).toNat)
                  case atStart => exact ⟨out, dn, dl + Q, bi, 0, rfl, by go_num, rfl, rfl, by omega, by omega, by omega, by omega, hown, HP0, hnx⟩
                  case round =>
                    obtain ⟨out, dn, dl, bi, k, rfl, rfl, rfl, rfl, hk, hdl, hbi, hol, hown, hst4, hnx⟩ := hrel
                    have hsz := hnx.size
                    have hdn : dn ≤ n := by
                      have h1 := encPass_done L m (pts.drop k) out dl bi dn
                      rw [hst4.out] at h1
                      omega
                    by_cases hkn : k < n
                    · obtain ⟨b, off, rfl, hb1, hcell⟩ := HC.out (by rw [HN.out]; omega)
                      have hkl : k < pts.length := by rw [HN.out]; exact hkn
                      have c0 := ((bcell hnx).1 b (off + k) hb1).trans (hcell k hkl)
                      have hp := HOK.out pts[k] (List.getElem_mem hkl)
                      have hdrop : Hid (pts.drop k = pts[k] :: pts.drop (k + 1)) := Lib.hid (List.drop_eq_getElem_cons hkl)
                      obtain ⟨p, hpp⟩ : ∃ p, p = pts[k] := ⟨_, rfl⟩
                      rw [← hpp] at c0 hp hdrop
                      clear hcell hpp hkl
                      rcases Nat.lt_trichotomy p L with hpl | hpl | hpl
                      · have g2 : decide ((p : Int) < (L : Int)) = true := decide_eq_true (by omega)
                        have g3 : ((p : Int) == (L : Int)) = false := by simp; omega
                        have hst5 : Hid (encPass L m (pts.drop (k + 1)) out (dl + 1) bi dn = S) := Lib.hid (by rw [← hst4.out, hdrop.out, encPass_lt hpl])
                        clear hst4
                        go_wp2
                        all_goals (try (exfalso; omega))
                        go_roundw
                        case rel => exact ⟨out, dn, dl + 1, bi, k + 1, rfl, by go_num, rfl, by go_num, by omega, by omega, by omega, by omega, hown, hst5, hnx⟩
                        case measure => simp [intOf]; omega
                      · have hpL := Lib.hid hpl
                        have hpl1 : p ≤ L := by omega
                        have hpl2 : L ≤ p := by omega
                        have g2 : decide ((p : Int) < (L : Int)) = false := decide_eq_false (by omega)
                        have g3 : ((p : Int) == (L : Int)) = true := by simp; omega
                        clear hpl
                        have hlen5 := encN_len 9 dl 0 bi (by omega)
                        have hnum := py_number _ out.length (bcells out) dl bi w.heap.size wr hown (by omega) (by omega) (by omega) (by omega)
                        obtain ⟨T5, hT5⟩ : ∃ T5, T5 = encN dl 0 bi := ⟨_, rfl⟩
                        rw [← hT5] at hlen5 hnum
                        obtain ⟨f, hff⟩ : ∃ f, f = decide (dn = m) := ⟨_, rfl⟩
                        have hfi : ((dn : Int) == (m : Int)) = f := by rw [hff, Bool.eq_iff_iff]; simp; omega
                        have had := fun W => py_adapt dl (dn + 1) f W (by omega) (by omega) (by omega)
                        rw [Int.natCast_add] at had
                        have hal := adaptN_le dl (dn + 1) f (by omega)
                        obtain ⟨b2, hb2⟩ : ∃ b2, b2 = adaptN dl (dn + 1) f := ⟨_, rfl⟩
                        simp only [← hb2] at had
                        rw [← hb2] at hal
                        have hnext : Hid (encPass L m (pts.drop (k + 1)) (out ++ T5) 0 b2 (dn + 1) = S) := Lib.hid (by rw [← hst4.out, hdrop.out, encPass_eq hpL.out, hT5, hb2, hff])
                        have HNUM := Lib.hid hnum
                        have HAD := Lib.hid had
                        clear hff hb2 had hnum hT5
                        go_wp2_with fail
                        all_goals (try (exfalso; omega))
                        refine HNUM.out.mono ?_; rintro e w2 ⟨⟨v2, rfl, hown2⟩, hb2w⟩
                        go_wp2_with fail
                        all_goals (try (exfalso; omega))
                        refine (HAD.out _).mono ?_; rintro e w3 ⟨rfl, rfl⟩
                        go_wp2
                        all_goals (try (exfalso; omega))
                        go_roundw
                        case rel =>
                          refine ⟨out ++ T5, dn + 1, 0, b2, k + 1, by go_num, rfl, rfl, by go_num, by omega, by omega, by omega, by rw [List.length_append]; omega, ?_, hnext, hnx.trans hb2w⟩
                          rw [bcells_append, List.length_append]
                          exact hown2
                        case measure => simp [intOf]; omega
                      · have g2 : decide ((p : Int) < (L : Int)) = false := decide_eq_false (by omega)
                        have g3 : ((p : Int) == (L : Int)) = false := by simp; omega
                        have hst5 : Hid (encPass L m (pts.drop (k + 1)) out dl bi dn = S) := Lib.hid (by rw [← hst4.out, hdrop.out, encPass_gt hpl])
                        clear hst4
                        go_wp2
                        all_goals (try (exfalso; omega))
                        go_roundw
                        case rel => exact ⟨out, dn, dl, bi, k + 1, rfl, rfl, rfl, by go_num, by omega, by omega, by omega, by omega, hown, hst5, hnx⟩
                        case measure => simp [intOf]; omega
                    · have hSe : (out, dl, bi, dn) = S := by rw [← hst4.out, List.drop_of_length_le (by rw [HN.out]; omega)]; rfl
                      have hnext := hes.out.next (by rw [HN.out]; exact hlt) (by rw [HN.out]; omega) HOK.out S hSN.out (by rw [← hSe]; exact hol) (by rw [← hSe]; exact hbi)
                      rw [← HMM.out, ← HLM.out, ← hSe] at hnext
                      have HNX := Lib.hid hnext
                      have hdl9 : dl + 1 ≤ 257 := hnext.small
                      have hSB2 := hSB.out
                      rw [← hSe] at hSB2
                      simp only at hSB2
                      clear hst4 hSe hnext
                      go_wp2
                      all_goals (try (exfalso; omega))
                      go_roundw
                      case rel => exact ⟨out, dn, L + 1, dl + 1, bi, rfl, by go_num, by go_num, rfl, by omega, by omega, hdl9, by omega, by omega, hown, HNX, hnx⟩
                      case measure => simp [intOf]; omega
            · have hend : Hid (R = out) := Lib.hid (hes.out.fin (by rw [HN.out]; omega))
              have hcv := string_of_row (P := Tryz.prog) (Row.owned hown) (src := 32) (dst := 9) Tryz.underlying32 Tryz.underlying5 Tryz.underlying9
              clear hes
              go_wp2
              all_goals (try (exfalso; omega))
              go_ret2
              exact ⟨⟨_, _, rfl, .inl ⟨rfl, by rw [HR.out, hend.out, un_mk]⟩⟩, hnx⟩
end Go.Proofs.YtjbciamhhfcdoaaGreatDoor
