/- The walk of Split of hstsstoreref01: the parts between the bytes. Conditions: the string is of bounded length.
   The walk of FromInt of the reference: decimal digits. Conditions: the number is not negative and has at most ten digits.
   The walk of parts of the reference of layer 10. Conditions: strings are of bounded length.
   The walk of Numeric of the reference of layer 10. Conditions: strings are of bounded length.
   The walks of ValidName and Covers of the reference's hosts. Conditions: lengths are bounded. -/
import Derived.Test.YtjbciamhhfcdoaaGreatDoorSub15
import Derived.Test.YtjbciamhhfcdoaaGreatDoorSub50
import Derived.Test.YtjbciamhhfcdoaaGreatDoorRows
import Derived.Test.YtjbciamhhfcdoaaGreatDoorSub01
import Derived.Test.YtjbciamhhfcdoaaGreatDoorSub17
import Derived.Deep.RegionWith
import Derived.Test.YtjbciamhhfcdoaaGreatDoorSub16
import Derived.Test.YtjbciamhhfcdoaaGreatDoorSub39
import Derived.Test.YtjbciamhhfcdoaaGreatDoorSub08
namespace Go.Proofs.YtjbciamhhfcdoaaGreatDoor
open Go.RowKit Hs
set_option linter.unusedSimpArgs false
set_option linter.unusedVariables false

set_option maxHeartbeats 1500000 in
theorem ref01_split (s : ByteArray) (c : UInt8) (w : World) (hs : s.size ≤ 100000000) : Calls Tryz.prog 28 #[.string s, .int .u8 (c.toNat : Int)] w fun e w' => ∃ v, e = .returned v ∧ w'.ownsRow w.heap.size 9 1 v (splitD c (un s)).length (scells (splitD c (un s))) ∧ Below w.heap.size w w' := by
  obtain ⟨iS0, iS⟩ := info_parts infoStr
  go_enter Tryz.func28, Tryz.ntmps28
  go_wp2
  go_loopw [5, 6, 7] (fun v f i wr => ∃ (k fr : Nat) (D : List Bs), i = .int .i64 k ∧ f = .int .i64 fr ∧ fr ≤ k ∧ k ≤ s.size + 1 ∧ D.length ≤ k ∧ wr.ownsRow w.heap.size 9 1 v D.length (scells D) ∧ Below w.heap.size w wr ∧ Hid (SplitTo c (un s) D fr k))
    (fun _ _ i _ => s.size + 1 - (intOf i).toNat)
  case atStart => exact ⟨0, 0, [], rfl, rfl, by omega, by omega, by simp, World.ownsRow_nil _ _ _ _, Below.refl _ _, SplitTo.start _ _⟩
  case round =>
    obtain ⟨k, fr, D, rfl, rfl, hfk, hk, hD, hown, hnx, hwt⟩ := hrel
    have hsize := hnx.size
    by_cases hlt : k < s.size
    · have hne : ((k : Int) == (s.size : Int)) = false := by simp; omega
      by_cases hb : (s[k]'hlt) = c
      · have hb' : (un s)[k]'(by rw [length_un]; omega) = c := hb
        have hb1 : (((s[k]'hlt).toNat : Int) == (c.toNat : Int)) = true := by rw [hb]; simp
        have hcut := Lib.hid (hwt.out.cut hfk (by rw [length_un]; omega) hb')
        clear hwt hb' hb
        have ex := Lib.hid (extract_seg s fr k)
        go_wp2_with (first | (at_builtin; refine wpList_append_own _ rfl (.tmp 25) (.tmp 30) 39 rfl (w.heap.size) 9 iS0 (.string ByteArray.empty) 1 16 Tryz.underlying39 iS.1 iS.2.1 iS.2.2.1 iS.2.2.2 rfl (by decide) _ _ _ rfl (hown.alloc _) ⟨wr.heap.size, 0, none⟩ 1 1 [_] rfl rfl (cell_one_new _ _ _) (by intro u hu; simp at hu; subst hu; rfl) (by unfold maxLen; omega) (by omega) (by simp; omega) ?_; intro v1 w1 hown1 hgrow1 hnil1))
        go_roundw
        case rel =>
          refine ⟨k + 1, k + 1, D ++ [seg (un s) fr k], by go_num, by go_num, by omega, by omega, by simp; omega, ?_, (hnx.alloc (by omega) _).grown hgrow1 (by simp; omega) (fun j hj => (hown.lt j hj).1), hcut⟩
          have e := hown1
          rw [ex.out] at e
          rw [scells_append, List.length_append]
          exact e
        case measure => simp [intOf]; omega
      · have hb' : (un s)[k]'(by rw [length_un]; omega) ≠ c := hb
        have hb1 : (((s[k]'hlt).toNat : Int) == (c.toNat : Int)) = false := by
          rw [beq_eq_false_iff_ne]
          exact fun e => hb (UInt8.toNat_inj.1 (by omega))
        have hch := Lib.hid (hwt.out.char hfk (by rw [length_un]; omega) hb')
        clear hwt hb' hb
        go_wp2
        go_roundw
        case rel => exact ⟨k + 1, fr, D, by go_num, rfl, by omega, by omega, by omega, hown, hnx, hch⟩
        case measure => simp [intOf]; omega
    · by_cases he : k = s.size
      · have hne : ((k : Int) == (s.size : Int)) = true := by simp; omega
        have hle : (k : Int) ≤ (s.size : Int) := by omega
        have hfin := Lib.hid (hwt.out.fin hfk (by rw [length_un]; exact he))
        have ex := Lib.hid (extract_seg s fr k)
        have HE := Lib.hid he
        clear hwt he
        go_wp2_with (first | (at_builtin; refine wpList_append_own _ rfl (.tmp 25) (.tmp 30) 39 rfl (w.heap.size) 9 iS0 (.string ByteArray.empty) 1 16 Tryz.underlying39 iS.1 iS.2.1 iS.2.2.1 iS.2.2.2 rfl (by decide) _ _ _ rfl (hown.alloc _) ⟨wr.heap.size, 0, none⟩ 1 1 [_] rfl rfl (cell_one_new _ _ _) (by intro u hu; simp at hu; subst hu; rfl) (by unfold maxLen; omega) (by omega) (by simp; omega) ?_; intro v1 w1 hown1 hgrow1 hnil1))
        go_roundw
        case rel =>
          refine ⟨k + 1, k + 1, D ++ [seg (un s) fr k], by go_num, by go_num, by omega, by omega, by simp; omega, ?_, (hnx.alloc (by omega) _).grown hgrow1 (by simp; omega) (fun j hj => (hown.lt j hj).1), hfin⟩
          have e := hown1
          rw [ex.out] at e
          rw [scells_append, List.length_append]
          exact e
        case measure => simp [intOf]; omega
      · obtain rfl : k = s.size + 1 := by omega
        have hfin : Hid (D = splitD c (un s)) := hwt.out.2 (by rw [length_un])
        clear hwt he
        go_wp2
        go_ret
        have e := hfin.out
        subst e
        exact ⟨_, rfl, hown, hnx⟩
end Go.Proofs.YtjbciamhhfcdoaaGreatDoor
namespace Go.Proofs.YtjbciamhhfcdoaaGreatDoor
open Go.RowKit Hs
set_option linter.unusedSimpArgs false
set_option linter.unusedVariables false

/-- 'string([]byte that holds one byte)'. -/
theorem one_byte (W : World) (b : Nat) (x : Int) (c : UInt8) (hx : x = (c.toNat : Int)) (h : W.cell? ⟨b, 0, none⟩ = some (.int .u8 x)) : (convert 32 9 (.slice (some ⟨b, 0, none⟩) 1 1)).run Tryz.prog W = .ok (.string (mk [c])) W := by
  subst hx
  refine string_of_row (n := 1) (l := [c]) ⟨by simp, _, 1, rfl, Nat.le_refl _, by simp [maxLen], .inr ⟨b, 0, rfl, World.block_lt_of_cell? W _ h, fun j u hj => ?_⟩⟩ Tryz.underlying32 Tryz.underlying5 Tryz.underlying9
  match j, hj with
  | 0, hj => simp [bcells] at hj; subst hj; simpa using h
  | j + 1, hj => simp [bcells] at hj
theorem byte_of (d : Nat) (h : d < 10) : (48 + (d : Int)) = ((UInt8.ofNat (48 + d)).toNat : Int) := by simp <;> omega

set_option maxRecDepth 20000 in
set_option maxHeartbeats 400000 in
theorem fromInt_any (k : Nat) : ∀ (z : Int) (w : World), 0 ≤ z → z < k → z ≤ 9999999999 → Calls Tryz.prog 97 #[.int .i64 z] w fun e w' => e = .returned (.string (mk (Lib.decDigits z.toNat))) ∧ Below w.heap.size w w' := by
  induction k with
  | zero => intro z w h0 h; omega
  | succ k ih =>
    intro z w h0 hk hn
    obtain ⟨n, rfl⟩ := Int.eq_ofNat_of_zero_le h0
    rw [Int.toNat_natCast]
    by_cases h : n < 10
    · have hd : Lib.decDigits n = [UInt8.ofNat (48 + n)] := by rw [Lib.decDigits, dif_pos h] <;> rfl
      obtain ⟨c, hc⟩ : ∃ c, c = UInt8.ofNat (48 + n) := ⟨_, rfl⟩
      have hb := byte_of n h
      rw [← hc] at hd hb
      rw [hd]
      have hcv := one_byte (w.alloc (.cells #[.int .u8 (48 + (n : Int))] 5)) w.heap.size (48 + (n : Int)) c hb (by simp)
      clear hc hb hd ih
      go_enter Tryz.func97, Tryz.ntmps97
      go_wp2
      go_ret
      exact ⟨rfl, (Below.refl _ _).alloc (Nat.le_refl _) _⟩
    · have hd : Lib.decDigits n = Lib.decDigits (n / 10) ++ [UInt8.ofNat (48 + n % 10)] := by rw [Lib.decDigits, dif_neg h] <;> rfl
      obtain ⟨c, hc⟩ : ∃ c, c = UInt8.ofNat (48 + n % 10) := ⟨_, rfl⟩
      have hb := byte_of (n % 10) (by omega)
      rw [← hc] at hd hb
      have hz : IntKind.i64.wrap ((n : Int) / 10) = ((n / 10 : Nat) : Int) := by
        rw [IntKind.wrap_i64]; omega
      have hy : IntKind.u8.wrap (IntKind.i64.wrap (48 + (n : Int).tmod 10)) = ((c.toNat : Nat) : Int) := by
        rw [← hb, Int.tmod_eq_emod_of_nonneg (by omega), IntKind.wrap_i64, IntKind.wrap_u8]; omega
      have IH : Hid (∀ W : World, Calls Tryz.prog 97 #[.int .i64 (IntKind.i64.wrap ((n : Int) / 10))] W fun e w' => e = .returned (.string (mk (Lib.decDigits (n / 10)))) ∧ Below W.heap.size W w') := by
        refine Lib.hid fun W => ?_
        rw [hz]
        have := ih ((n / 10 : Nat) : Int) W (by omega) (by omega) (by omega)
        rwa [Int.toNat_natCast] at this
      have hcv := fun (W : World) (b : Nat) (h : W.cell? ⟨b, 0, none⟩ = some (.int .u8 (IntKind.u8.wrap (IntKind.i64.wrap (48 + (n : Int).tmod 10))))) => one_byte W b _ c hy h
      have hlen := decDigits_len (n / 10) (by omega)
      have hln2 : (mk (Lib.decDigits (n / 10))).size ≤ 10 := by rw [size_mk]; exact hlen
      clear hc hb hz ih
      rw [hd]
      clear hd
      go_enter Tryz.func97, Tryz.ntmps97
      go_wp2
      go_region_with (go_at_call 97; refine (IH.out _).mono ?_; rintro e w1 ⟨rfl, hb1⟩; obtain ⟨hc1, hf1⟩ := bcell hb1)
      all_goals (go_wp2; go_ret)
      all_goals rw [mk_append]
      · refine ⟨by first | rfl | (simp; done) | (go_simp; done), ?_⟩
        exact (((Below.refl _ w).drew).trans hb1).alloc (by have := hb1.size; simp at *; omega) _
      all_goals
        refine ⟨by first | rfl | (simp; done) | (go_simp; done), ?_⟩
        refine Below.trans (b := w.drew.alloc (.cells #[.int .u8 c.toNat] 5)) (((Below.refl _ w).drew).alloc (by simp) _) ?_
        exact (hb1.mono (by simp))
end Go.Proofs.YtjbciamhhfcdoaaGreatDoor
namespace Go.Proofs.YtjbciamhhfcdoaaGreatDoor
open Go.RowKit Hs
set_option linter.unusedSimpArgs false
set_option linter.unusedVariables false

theorem r01_dots (s : ByteArray) (w : World) (hs : s.size ≤ 100000000) : Calls Tryz.prog 28 #[.string s, .int .u8 46] w fun e w' => ∃ v, e = .returned v ∧ Strs w' v (splitD 46 (un s)) ∧ Below w.heap.size w w' := by
  refine (ref01_split s 46 w hs).mono ?_
  rintro e w' ⟨v, rfl, ho, hb⟩
  exact ⟨v, rfl, Row.owned ho, hb⟩
set_option maxHeartbeats 800000 in
theorem r10_parts (s : ByteArray) (w : World) (hs : s.size ≤ 100000000) : Calls Tryz.prog 62 #[.string s] w fun e w' => ∃ v, e = .returned v ∧ Strs w' v (partsD (un s)) ∧ Below w.heap.size w w' := by
  have HS := Lib.hid (r01_dots s w hs)
  go_enter Tryz.func62, Tryz.ntmps62
  go_wp2_with fail
  refine HS.out.mono ?_
  rintro e w1 ⟨v, rfl, hst, hb⟩
  clear HS
  have hpos := splitD_pos (un s)
  have hpd : Hid (partsD (un s) = if 1 < (splitD 46 (un s)).length ∧ (splitD 46 (un s)).getLast? = some [] then (splitD 46 (un s)).dropLast else splitD 46 (un s)) := Lib.hid rfl
  obtain ⟨P, hP⟩ : ∃ P, P = partsD (un s) := ⟨_, rfl⟩
  rw [← hP] at hpd
  have HP := Lib.hid hP
  clear hP
  generalize splitD 46 (un s) = L at hst hpos hpd
  rcases List.eq_nil_or_concat L with rfl | ⟨A, x, hL⟩
  · simp at hpos
  rw [List.concat_eq_append] at hL
  subst hL
  have hpd2 : Hid (P = if 1 < (A ++ [x]).length ∧ x = [] then A else A ++ [x]) := Lib.hid (by rw [hpd.out]; simp)
  clear hpd hpos
  obtain ⟨a, c, rfl, hn, hm, hc⟩ := hst.open
  unfold maxLen at hm
  obtain ⟨b, off, rfl, hb1, hcell⟩ := hc (by simp)
  obtain ⟨n, hA⟩ : ∃ n, A.length = n := ⟨_, rfl⟩
  have hlen : (A ++ [x]).length = n + 1 := by simp [hA]
  have c0 := hcell n (by rw [hlen]; omega)
  rw [List.getElem_append_right (by omega)] at c0
  simp only [hA, Nat.sub_self, List.getElem_singleton] at c0
  have hca : n + 1 ≤ c := by rw [← hlen]; exact hn
  rw [hlen] at hst ⊢
  rw [hlen] at hpd2
  have HST := Lib.hid hst
  clear hc hcell hn hst hlen
  by_cases h0 : 0 < n
  · have h0' : (0 : Int) < (n : Int) := by omega
    cases hx : x.isEmpty
    · have hfin : Hid (P = A ++ [x]) := Lib.hid (by rw [hpd2.out, if_neg (by rintro ⟨_, rfl⟩; cases hx)])
      have hx2 : (mk x).toList.isEmpty = false := by rw [toList_un, un_mk]; exact hx
      clear hpd2 hx
      go_wp2_with fail
      all_goals (try (exfalso; omega))
      go_ret
      exact ⟨_, rfl, by rw [← HP.out, hfin.out]; exact HST.out, hb⟩
    · have hfin : Hid (P = A) := Lib.hid (by rw [hpd2.out, if_pos ⟨by omega, by simpa using hx⟩])
      have hx2 : (mk x).toList.isEmpty = true := by rw [toList_un, un_mk]; exact hx
      have HC := Lib.hid (cut_strs HST.out hA)
      clear hpd2 hx
      go_wp2_with fail
      all_goals (try (exfalso; omega))
      go_ret
      exact ⟨_, rfl, by rw [← HP.out, hfin.out]; exact HC.out, hb⟩
  · obtain rfl : n = 0 := by omega
    have hfin : Hid (P = A ++ [x]) := Lib.hid (by rw [hpd2.out, if_neg (by omega)])
    clear hpd2
    go_wp2_with fail
    all_goals (try (exfalso; omega))
    go_ret
    exact ⟨_, rfl, by rw [← HP.out, hfin.out]; exact HST.out, hb⟩
end Go.Proofs.YtjbciamhhfcdoaaGreatDoor
namespace Go.Proofs.YtjbciamhhfcdoaaGreatDoor
open Go.RowKit Hs
set_option linter.unusedSimpArgs false
set_option linter.unusedVariables false

set_option maxHeartbeats 1600000 in
theorem r10_numeric (s : ByteArray) (w : World) (hs : s.size ≤ 100000000) : Calls Tryz.prog 27 #[.string s] w fun e w' => e = .returned (.bool (numericV (un s))) ∧ Below w.heap.size w w' := by
  have HS := Lib.hid (r10_parts s w hs)
  have hlen := partsD_len (un s)
  have hpos := partsD_pos (un s)
  have hpv : Hid (numericV (un s) = lastR (((partsD (un s)).getLast?).getD [])) := Lib.hid (by rw [lastR_eq]; rfl)
  obtain ⟨R, hR⟩ : ∃ R, R = numericV (un s) := ⟨_, rfl⟩
  rw [← hR] at hpv ⊢
  clear hR
  obtain ⟨L, hL⟩ : ∃ L, L = partsD (un s) := ⟨_, rfl⟩
  rw [← hL] at hpv HS hlen hpos
  clear hL
  rw [length_un] at hlen
  obtain ⟨n, hn0⟩ : ∃ n, L.length = n + 1 := ⟨L.length - 1, by omega⟩
  have hxl := hlen (L[n]'(by omega)) (List.getElem_mem _)
  have hlast : Hid (L.getLast? = some (L[n]'(by omega))) := Lib.hid (by rw [List.getLast?_eq_getElem?]; simp only [hn0, Nat.add_sub_cancel]; exact List.getElem?_eq_getElem _)
  have HN := Lib.hid hn0
  clear hlen hpos
  go_enter Tryz.func27, Tryz.ntmps27
  go_wp2_with fail
  refine HS.out.mono ?_
  rintro e w1 ⟨v, rfl, hst, hb⟩
  clear HS
  obtain ⟨a, c, rfl, hn, hm, hc⟩ := hst.open
  unfold maxLen at hm
  obtain ⟨b, off, rfl, hb1, hcell⟩ := hc (by rw [HN.out]; omega)
  have c0 := hcell n (by rw [HN.out]; omega)
  rw [HN.out] at hn ⊢
  obtain ⟨x, hx⟩ : ∃ x, x = L[n]'(by rw [HN.out]; omega) := ⟨_, rfl⟩
  rw [← hx] at c0 hxl hlast
  rw [hlast.out] at hpv
  simp only [Option.getD_some] at hpv
  clear hcell hc hst hx hn0 hlast HN
  obtain ⟨S, hS⟩ : ∃ S, S = mk x := ⟨_, rfl⟩
  have hSx : un S = x := by rw [hS, un_mk]
  rw [← hS] at c0
  have hSs : S.size ≤ 100000000 := by rw [← length_un, hSx]; omega
  have cd := fun W => ref01_digits S W hSs
  have cn := fun W => r10_number S W hSs
  rw [hSx] at cn
  simp only [hSx] at cd
  unfold lastR at hpv
  have hx1 : x[1]? = if h : 1 < S.size then some (S[1]'h) else none := by
    rw [← hSx]
    split
    · rename_i h
      rw [List.getElem?_eq_getElem (by rw [length_un]; exact h)]
      rfl
    · exact List.getElem?_eq_none (by rw [length_un]; omega)
  clear hS hSx
  cases hd : digits x
  · rw [hd] at cd hpv
    have CD := Lib.hid cd; have CN := Lib.hid cn
    obtain ⟨m, hm2⟩ : ∃ m, m = numP x := ⟨_, rfl⟩
    rw [← hm2] at CN hpv
    obtain ⟨y, ok⟩ := m
    simp only at CN
    cases ok
    · have hend : Hid (R = false) := Lib.hid (by rw [hpv.out]; rfl)
      clear cd cn hpv hm2 hd hx1
      go_wp2_with fail
      refine (CD.out _).mono ?_; rintro e w2 ⟨rfl, rfl⟩
      go_wp2_with fail
      refine (CN.out _).mono ?_; rintro e w2 ⟨rfl, hb2⟩
      go_wp2_with fail
      go_ret
      rw [hend.out]
      exact ⟨rfl, hb.trans (hb2.mono hb.size)⟩
    · by_cases h2 : 1 < S.size
      · rw [dif_pos h2] at hx1
        have g1 : decide ((2 : Int) ≤ (S.size : Int)) = true := decide_eq_true (by omega)
        have hin : (1 : Int) < (S.size : Int) := by omega
        by_cases h120 : S[1]'h2 = 120
        · have hend : Hid (R = true) := Lib.hid (by rw [hpv.out, hx1, h120]; rfl)
          have g2 : (((S[1]'h2).toNat : Int) == 120) = true := by rw [h120]; rfl
          clear cd cn hpv hm2 hd hx1 h120
          go_wp2_with fail
          refine (CD.out _).mono ?_; rintro e w2 ⟨rfl, rfl⟩
          go_wp2_with fail
          refine (CN.out _).mono ?_; rintro e w2 ⟨rfl, hb2⟩
          go_wp2_with fail
          go_ret
          rw [hend.out]
          exact ⟨rfl, hb.trans (hb2.mono hb.size)⟩
        · have g2 : (((S[1]'h2).toNat : Int) == 120) = false := by rw [beq_eq_false_iff_ne]; intro e; exact h120 (UInt8.toNat_inj.1 (by have : (120 : UInt8).toNat = 120 := rfl; omega))
          by_cases h88 : S[1]'h2 = 88
          · have hend : Hid (R = true) := Lib.hid (by rw [hpv.out, hx1, h88]; rfl)
            have g3 : (((S[1]'h2).toNat : Int) == 88) = true := by rw [h88]; rfl
            clear cd cn hpv hm2 hd hx1 h88 h120
            go_wp2_with fail
            refine (CD.out _).mono ?_; rintro e w2 ⟨rfl, rfl⟩
            go_wp2_with fail
            refine (CN.out _).mono ?_; rintro e w2 ⟨rfl, hb2⟩
            go_wp2_with fail
            go_ret
            rw [hend.out]
            exact ⟨rfl, hb.trans (hb2.mono hb.size)⟩
          · have hend : Hid (R = false) := Lib.hid (by rw [hpv.out, hx1]; simp [h120, h88])
            have g3 : (((S[1]'h2).toNat : Int) == 88) = false := by rw [beq_eq_false_iff_ne]; intro e; exact h88 (UInt8.toNat_inj.1 (by have : (88 : UInt8).toNat = 88 := rfl; omega))
            clear cd cn hpv hm2 hd hx1 h88 h120
            go_wp2_with fail
            refine (CD.out _).mono ?_; rintro e w2 ⟨rfl, rfl⟩
            go_wp2_with fail
            refine (CN.out _).mono ?_; rintro e w2 ⟨rfl, hb2⟩
            go_wp2_with fail
            go_ret
            rw [hend.out]
            exact ⟨rfl, hb.trans (hb2.mono hb.size)⟩
      · rw [dif_neg h2] at hx1
        have hend : Hid (R = false) := Lib.hid (by rw [hpv.out, hx1]; rfl)
        have g1 : decide ((2 : Int) ≤ (S.size : Int)) = false := decide_eq_false (by omega)
        clear cd cn hpv hm2 hd hx1
        go_wp2_with fail
        refine (CD.out _).mono ?_; rintro e w2 ⟨rfl, rfl⟩
        go_wp2_with fail
        refine (CN.out _).mono ?_; rintro e w2 ⟨rfl, hb2⟩
        go_wp2_with fail
        go_ret
        rw [hend.out]
        exact ⟨rfl, hb.trans (hb2.mono hb.size)⟩
  · rw [hd] at cd hpv
    have hend : Hid (R = true) := Lib.hid (by rw [hpv.out]; rfl)
    have CD := Lib.hid cd
    clear cd cn hpv hd hx1
    go_wp2_with fail
    refine (CD.out _).mono ?_; rintro e w2 ⟨rfl, rfl⟩
    go_wp2_with fail
    go_ret
    rw [hend.out]
    exact ⟨rfl, hb⟩
end Go.Proofs.YtjbciamhhfcdoaaGreatDoor
namespace Go.Proofs.YtjbciamhhfcdoaaGreatDoor
open Go.RowKit Go.Shelf Hs
set_option linter.unusedSimpArgs false
set_option linter.unusedVariables false
theorem numericV_nil : numericV [] = false := by decide
set_option maxRecDepth 20000 in
set_option maxHeartbeats 4000000 in
theorem r14_validName (s : ByteArray) (w : World) (hs : s.size ≤ 100000) : Calls Tryz.prog 7 #[.string s] w fun e w' => e = .returned (.bool (nameV (un s))) ∧ Below w.heap.size w w' := by
  have hdef : nameV (un s) = (decide ((un s).length ≤ 253) && !(numericV (un s)) && (splitD 46 (un s)).all labelV) := rfl
  have HNU := Lib.hid (r10_numeric s w (by omega))
  have HSP := Lib.hid (fun W => ref01_split s 46 W (by omega))
  have hdl := splitD_len 46 (un s)
  rw [length_un] at hdef hdl
  have h0 : un s = [] ↔ s.size = 0 := by rw [← length_un]; exact List.length_eq_zero_iff.symm
  have he : s.toList.isEmpty = decide (s.size = 0) := by
    rw [toList_un, ← length_un]
    cases un s <;> simp
  obtain ⟨nu, hnu⟩ : ∃ nu, nu = numericV (un s) := ⟨_, rfl⟩
  rw [← hnu] at HNU hdef
  by_cases hz : s.size = 0
  · rw [decide_eq_true hz] at he
    have hfin : Hid (nameV (un s) = false) := Lib.hid (by rw [h0.2 hz]; decide)
    clear HNU HSP hdl h0 hdef hnu hz
    go_enter Tryz.func7, Tryz.ntmps7
    go_wp2_with fail
    all_goals (try (exfalso; omega))
    go_ret
    exact ⟨by rw [hfin.out]; rfl, Below.refl _ _⟩
  rw [decide_eq_false hz] at he
  by_cases hl : s.size ≤ 253
  · rw [decide_eq_true hl] at hdef
    have g1 : decide ((253 : Int) < (s.size : Int)) = false := by simp; omega
    have HDEF := Lib.hid hdef
    have HDL := Lib.hid hdl
    clear hdef hnu h0 hdl
    cases nu
    · go_enter Tryz.func7, Tryz.ntmps7
      go_wp2_with fail
      all_goals (try (exfalso; omega))
      refine HNU.out.mono ?_; rintro e w1 ⟨rfl, hb1⟩
      have HB1 := Lib.hid hb1
      clear hb1 HNU
      go_wp2_with fail
      all_goals (try (exfalso; omega))
      refine (HSP.out w1).mono ?_; rintro e w2 ⟨v, rfl, hown, hb2⟩
      have hst : Strs w2 v (splitD 46 (un s)) := Row.owned hown
      have HB2 := Lib.hid (HB1.out.trans (hb2.mono HB1.out.size))
      clear hb2 HB1 HSP hown
      generalize splitD 46 (un s) = L at *
      obtain ⟨a, cap, rfl, hn, hm, hc⟩ := hst.open
      unfold maxLen at hm
      have HC := Lib.hid hc
      have HST := Lib.hid hst
      clear hc hst
      have hfin : Hid (nameV (un s) = L.all labelV) := Lib.hid (by rw [HDEF.out]; simp)
      clear HDEF
      go_wp2_with fail
      all_goals (try (exfalso; omega))
      go_loopw [4] (fun i wr => ∃ k : Nat, i = .int .i64 k ∧ k ≤ L.length ∧ Hid (Below w.heap.size w wr) ∧ Hid (Below w2.heap.size w2 wr) ∧ Hid (L.all labelV = (L.drop k).all labelV)) (fun i _ => L.length - (intOf i).toNat)
      case atStart => exact ⟨0, rfl, by omega, HB2, Lib.hid (Below.refl _ _), rfl⟩
      case round =>
        obtain ⟨k, rfl, hk, hbw, hb2, ha⟩ := hrel
        by_cases hlt : k < L.length
        · obtain ⟨b, off, rfl, hbl, hcell⟩ := HC.out (by omega)
          have hk' := ((bcell hb2.out).1 b (off + k) hbl).trans (hcell k hlt)
          have hsz : L[k].length ≤ s.size := HDL.out _ (List.getElem_mem hlt)
          have hv := fun W => r13_valid (mk L[k]) W (by rw [size_mk]; omega)
          simp only [un_mk] at hv
          have hd : Hid ((L.drop k).all labelV = (labelV L[k] && (L.drop (k + 1)).all labelV)) := by
            rw [List.drop_eq_getElem_cons hlt, List.all_cons]; rfl
          obtain ⟨t, ht⟩ : ∃ t, t = L[k] := ⟨_, rfl⟩
          rw [← ht] at hk' hd
          simp only [← ht] at hv
          obtain ⟨ok, hok⟩ : ∃ ok, ok = labelV t := ⟨_, rfl⟩
          rw [← hok] at hd
          simp only [← hok] at hv
          have HV := Lib.hid hv
          clear hcell hsz ht hv hok
          go_wp2_with fail
          all_goals (try (exfalso; omega))
          refine (HV.out _).mono ?_; rintro e w3 ⟨rfl, hb3⟩
          cases ok
          · go_wp2_with fail
            all_goals (try (exfalso; omega))
            go_ret
            refine ⟨?_, hbw.out.trans (hb3.mono hbw.out.size)⟩
            rw [hfin.out, ha.out, hd.out]; rfl
          · go_wp2_with fail
            all_goals (try (exfalso; omega))
            go_round
            case rel =>
              refine ⟨k + 1, by go_num, by omega, Lib.hid (hbw.out.trans (hb3.mono hbw.out.size)), Lib.hid (hb2.out.trans (hb3.mono hb2.out.size)), ?_⟩
              have e1 := ha.out
              rw [hd.out, Bool.true_and] at e1
              exact e1
            case measure => simp [intOf]; omega
        · obtain rfl : k = L.length := by omega
          have hfin2 : Hid (L.all labelV = true) := by
            have e1 := ha.out
            rw [List.drop_length] at e1
            exact e1
          go_wp2_with fail
          all_goals (try (exfalso; omega))
          go_ret
          exact ⟨by rw [hfin.out, hfin2.out]; rfl, hbw.out⟩
    · have hfin : Hid (nameV (un s) = false) := Lib.hid (by rw [HDEF.out]; simp)
      clear HSP HDL HDEF
      go_enter Tryz.func7, Tryz.ntmps7
      go_wp2_with fail
      all_goals (try (exfalso; omega))
      refine HNU.out.mono ?_; rintro e w1 ⟨rfl, hb1⟩
      go_wp2_with fail
      all_goals (try (exfalso; omega))
      go_ret
      exact ⟨by rw [hfin.out]; rfl, hb1⟩
  · have g1 : decide ((253 : Int) < (s.size : Int)) = true := by simp; omega
    rw [decide_eq_false hl] at hdef
    have hfin : Hid (nameV (un s) = false) := Lib.hid (by rw [hdef]; simp)
    clear HNU HSP hdl hdef hnu h0
    go_enter Tryz.func7, Tryz.ntmps7
    go_wp2_with fail
    all_goals (try (exfalso; omega))
    go_ret
    exact ⟨by rw [hfin.out]; rfl, Below.refl _ _⟩
set_option maxRecDepth 20000 in
set_option maxHeartbeats 4000000 in
theorem r14_covers (s n : ByteArray) (w : World) (hs : s.size ≤ 100000) (hn : n.size ≤ 100000) : Calls Tryz.prog 12 #[.string s, .string n] w fun e w' => e = .returned (.bool (coversV (un s) (un n))) ∧ Below w.heap.size w w' := by
  have hdef : coversV (un s) (un n) = (nameV (un s) && nameV (un n) && (decide (un s = un n) || decide (un s ∈ supers (un n)))) := rfl
  have HS := Lib.hid (r14_validName s w hs)
  have HN := Lib.hid (fun W => r14_validName n W hn)
  have hq : (s.toList == n.toList) = decide (un s = un n) := by
    rw [toList_un, toList_un]
    by_cases h : un s = un n <;> simp [h]
  have hsz : s.size < n.size → (n.extract (n.size - s.size - 1) n.size).toList = (un n).drop ((un n).length - (un s).length - 1) := fun h => by
    rw [toList_un, extract_seg, ← length_un n, seg_full, un_mk, length_un s]
  have hdot : ((⟨#[46]⟩ : ByteArray) ++ s).toList = 46 :: un s := by rw [toList_un, un_append]; rfl
  have hsup : decide (un s ∈ supers (un n)) = (decide (s.size < n.size) && ((un n).drop ((un n).length - (un s).length - 1) == 46 :: un s)) := by
    rw [Bool.eq_iff_iff]
    simp only [decide_eq_true_eq, Bool.and_eq_true, beq_iff_eq]
    have k1 := length_un s
    have k2 := length_un n
    rw [mem_supers]
    constructor
    · rintro ⟨p, hp⟩
      have hl := congrArg List.length hp
      simp at hl
      refine ⟨by omega, ?_⟩
      rw [← hp]
      have : (p ++ 46 :: un s).length - (un s).length - 1 = p.length := by simp; omega
      rw [this]
      exact List.drop_left
    · rintro ⟨h1, h2⟩
      rw [← h2]
      exact List.drop_suffix _ _
  obtain ⟨a, ha⟩ : ∃ a, a = nameV (un s) := ⟨_, rfl⟩
  obtain ⟨b, hb⟩ : ∃ b, b = nameV (un n) := ⟨_, rfl⟩
  obtain ⟨c, hc⟩ : ∃ c, c = decide (un s = un n) := ⟨_, rfl⟩
  obtain ⟨d, hd⟩ : ∃ d, d = decide (un s ∈ supers (un n)) := ⟨_, rfl⟩
  rw [← ha, ← hb, ← hc, ← hd] at hdef
  rw [← ha] at HS
  simp only [← hb] at HN
  rw [← hc] at hq
  rw [← hd] at hsup
  have HDEF := Lib.hid hdef
  have HSUP := Lib.hid hsup
  have HSZ := Lib.hid hsz
  have HDOT := Lib.hid hdot
  clear ha hb hc hd hdef hsup hsz hdot
  go_enter Tryz.func12, Tryz.ntmps12
  go_wp2_with fail
  refine HS.out.mono ?_; rintro e w1 ⟨rfl, hb1⟩
  have HB1 := Lib.hid hb1
  clear hb1 HS
  cases a
  · clear hq
    go_wp2_with fail
    all_goals (try (exfalso; omega))
    go_ret
    exact ⟨by rw [HDEF.out]; rfl, HB1.out⟩
  · go_wp2_with fail
    all_goals (try (exfalso; omega))
    refine (HN.out _).mono ?_; rintro e w2 ⟨rfl, hb2⟩
    have HB2 := Lib.hid (HB1.out.trans (hb2.mono HB1.out.size))
    clear hb2 HN
    cases b
    · clear hq
      go_wp2_with fail
      all_goals (try (exfalso; omega))
      go_ret
      exact ⟨by rw [HDEF.out]; rfl, HB2.out⟩
    · cases c
      · by_cases hlt : s.size < n.size
        · have g1 : decide ((s.size : Int) < (n.size : Int)) = true := by simp; omega
          have g2 : (n.extract (n.size - s.size - 1) n.size).toList = (un n).drop ((un n).length - (un s).length - 1) := HSZ.out hlt
          have hd2 : ((un n).drop ((un n).length - (un s).length - 1) == 46 :: un s) = d := by rw [HSUP.out, decide_eq_true hlt, Bool.true_and]
          have hdot := HDOT.out
          have g3 : ((n.extract (n.size - s.size - 1) n.size).toList == ((⟨#[46]⟩ : ByteArray) ++ s).toList) = d := by rw [g2, hdot]; exact hd2
          have g4 : ((s.size : Int) < (n.size : Int)) := by omega
          clear g2 hd2 hdot HSZ HDOT HSUP
          go_wp2_with fail
          all_goals (try (exfalso; omega))
          go_ret
          exact ⟨by rw [HDEF.out]; rfl, HB2.out⟩
        · have g1 : decide ((s.size : Int) < (n.size : Int)) = false := by simp; omega
          have hd : d = false := by rw [HSUP.out, decide_eq_false hlt]; rfl
          subst hd
          clear HSZ HDOT HSUP
          go_wp2_with fail
          all_goals (try (exfalso; omega))
          go_ret
          exact ⟨by rw [HDEF.out]; rfl, HB2.out⟩
      · clear HSZ HDOT HSUP
        go_wp2_with fail
        all_goals (try (exfalso; omega))
        go_ret
        exact ⟨by rw [HDEF.out]; rfl, HB2.out⟩
end Go.Proofs.YtjbciamhhfcdoaaGreatDoor
