/- The walk of parse of URLs. Conditions: texts are ASCII without percent signs and of bounded length; the library's tables stand. -/
import Derived.Test.YtjbciamhhfcdoaaGreatDoorSub32
namespace Hs
open Go
theorem cutC_cases (c : UInt8) (l : Bs) : (cutC c l = (l, [], false) ∧ Lib.indexByte l c < 0) ∨ (∃ k : Nat, Lib.indexByte l c = k ∧ k < l.length ∧ cutC c l = (l.take k, l.drop (k + 1), true)) := by
  unfold cutC
  by_cases h : Lib.indexByte l c < 0
  · left; rw [if_pos h]; exact ⟨rfl, h⟩
  · right
    have := indexByte_lt c l
    refine ⟨(Lib.indexByte l c).toNat, by omega, by omega, ?_⟩
    rw [if_neg h]
theorem parseU_bad {l : Bs} (h : l.any badU = true) : parseU l = none := if_pos h
theorem parseU_no {l : Bs} (h : l.any badU = false) (hi : Lib.indexByte l 58 < 0) : parseU l = none := by
  unfold parseU
  rw [if_neg (by rw [h]; simp), if_pos hi]
theorem parseU_cut {l : Bs} {k : Nat} (h : l.any badU = false) (hi : Lib.indexByte l 58 = k) : parseU l = if schemeV (l.take k) = true then special (lower (l.take k)) (l.drop (k + 1)) else none := by
  unfold parseU
  rw [if_neg (by rw [h]; simp), hi, if_neg (by omega)]
  simp
theorem authL_le (r : Bs) : authL r ≤ r.length := by
  unfold authL
  split
  · exact Nat.le_refl _
  · have := indexAny_lt [47, 63, 35] r
    omega
where indexAny_lt (cs : Bs) : ∀ l : Bs, Lib.indexAny l cs < l.length
  | [] => by simp [Lib.indexAny]
  | b :: r => by
    have ih := indexAny_lt cs r
    rw [Lib.indexAny]
    split
    · simp
    · split <;> simp <;> omega
theorem special_no {s rest : Bs} (h : portD s < 0) : special s rest = some ⟨s, [], host0, -1, rest⟩ := if_pos h
theorem special_bad {s rest : Bs} (h : ¬ portD s < 0) (h2 : rest.take 2 ≠ [47, 47]) : special s rest = none := by
  unfold special
  rw [if_neg h, if_neg h2]
theorem special_ok {s rest : Bs} (h : ¬ portD s < 0) (h2 : rest.take 2 = [47, 47]) : special s rest = placeV ⟨s, [], host0, -1, slash ((rest.drop 2).drop (authL (rest.drop 2)))⟩ ((rest.drop 2).take (authL (rest.drop 2))) := by
  unfold special
  rw [if_neg h, if_pos h2]
theorem any_drop (l : Bs) (k : Nat) (h : k < l.length) : (l.drop k).any badU = (badU l[k] || (l.drop (k + 1)).any badU) := by rw [List.drop_eq_getElem_cons h, List.any_cons]
end Hs
namespace Go.Proofs.YtjbciamhhfcdoaaGreatDoor
open Go.RowKit Hs
set_option linter.unusedSimpArgs false
set_option linter.unusedVariables false
theorem placeV_w {u v : UrlP} {a : Bs} (h : placeV u a = some v) : HostW v.host := by
  unfold placeV at h
  split at h
  · cases h
  · unfold placeT at h
    split at h
    · cases h
    · split at h
      · cases h
      · rename_i hv
        split at h
        · cases h
        · cases h
          exact hostV_w hv
set_option maxRecDepth 20000 in
set_option maxHeartbeats 8000000 in
theorem u_parse (s : ByteArray) (w : World) (hB : Base w) (hs : s.size ≤ 100000) (hT : okT (un s)) : Calls Tryz.prog 70 #[.string s] w (UrlRes (parseU (un s)) w.heap.size w) := by
  have hlen : (un s).length = s.size := length_un s
  obtain ⟨W0, hW0⟩ : ∃ W0, W0 = w.alloc (.cells (ucells url0).toArray 62) := ⟨_, rfl⟩
  have hbA : Below w.heap.size w W0 := by rw [hW0]; exact (Below.refl _ w).alloc (Nat.le_refl _) _
  have hr0 : BlkL W0 w.heap.size 62 (ucells url0) := by rw [hW0]; exact BlkL.new w _ _
  have HW0 : Hid (w.alloc (.cells #[.string ⟨#[]⟩, .string ⟨#[]⟩, .int .i64 0, .string ⟨#[]⟩, .int .u32 0, .int .u16 0, .int .u16 0, .int .u16 0, .int .u16 0, .int .u16 0, .int .u16 0, .int .u16 0, .int .u16 0, .int .i64 0, .string ⟨#[]⟩] 62) = W0) := Lib.hid hW0.symm
  have hsz : W0.heap.size = w.heap.size + 1 := by rw [hW0]; simp
  have HBB := Lib.hid hB
  have HBA := Lib.hid hbA
  have HR0 := Lib.hid hr0
  have HT := Lib.hid hT
  have HCUT := Lib.hid (lib_cutC s 58 W0 (hB.below hbA) (by omega))
  obtain ⟨l, hl⟩ : ∃ l, l = un s := ⟨_, rfl⟩
  rw [← hl] at hlen HCUT HT ⊢
  have HL := Lib.hid hl
  have HLEN := Lib.hid hlen
  obtain ⟨n, hn⟩ : ∃ n, n = s.size := ⟨_, rfl⟩
  have hsI : (s.size : Int) = (n : Int) := by rw [hn]
  have HN := Lib.hid hn
  rw [← hn] at hs
  clear hW0 hbA hr0 hB hl hlen hT hn
  go_enter Tryz.func70, Tryz.ntmps70
  go_upto_region 1 with fail
  rw [HW0.out]
  clear HW0
  go_wp2
  go_loop [13] (fun iv => ∃ k : Nat, iv = .int .i64 k ∧ k ≤ n ∧ Hid (l.any badU = (l.drop k).any badU)) (fun iv => n - (intOf iv).toNat)
  case atStart => exact ⟨0, rfl, by omega, Lib.hid (by rw [List.drop_zero])⟩
  case round =>
    obtain ⟨k, rfl, hk, hany⟩ := hrel
    by_cases hlt : k < n
    · have hks : k < s.size := by rw [← HN.out]; exact hlt
      have hkl : k < l.length := by rw [HLEN.out]; exact hks
      have hx : l[k] = s[k] := by
        have := HL.out
        subst this
        exact getElem_un s k hks
      have hst := any_drop l k hkl
      rw [hx] at hst
      have hdb : badU s[k] = decide ((s[k]).toNat ≤ 32 ∨ (s[k]).toNat = 127) := rfl
      rw [hdb] at hst
      have hb256 := (s[k]).toNat_lt
      obtain ⟨x, hx2⟩ : ∃ x, x = (s[k]).toNat := ⟨_, rfl⟩
      have cs : (s[k].toNat : Int) = (x : Int) := by rw [hx2]
      rw [← hx2] at hst hb256
      have HST := Lib.hid (hany.out.trans hst)
      clear hst hany hx hx2 hdb hkl
      by_cases hbad : x ≤ 32 ∨ x = 127
      · have hfin := Lib.hid (parseU_bad (HST.out.trans (by rw [decide_eq_true hbad]; rfl)))
        clear HST HCUT
        rcases hbad with h | rfl
        all_goals
          go_wp2_with (first
            | refine wpList_store_row rfl 62 (.tmp 2) (.tmp 26) rfl w.heap.size (ucells url0).toArray rfl rfl 62 _ HR0.out infoUrl rfl (all_one_of (uc_one url0)) ?_)
          all_goals (try (exfalso; omega))
          all_goals
            refine bodyPost_ret (results_ct rfl _ _ w.heap.size 62 _ _ rfl (HR0.out.setRow (ucells url0)) Tryz.underlying62 rfl infoUrl) rfl ?_
            exact ⟨⟨url0, 4, rfl, .inr ⟨by decide, rfl, hfin.out⟩⟩, below_setRow HBA.out (Nat.le_refl _) _⟩
      · have hnext : Hid (l.any badU = (l.drop (k + 1)).any badU) := Lib.hid (HST.out.trans (by rw [decide_eq_false hbad]; rfl))
        have g1 : ((x : Int) == 127) = false := by simp; omega
        clear HST HCUT
        go_wp2
        all_goals (try (exfalso; omega))
        go_round
        case rel => exact ⟨k + 1, by go_num, by omega, hnext⟩
        case measure => simp [intOf]; omega
    · have hgood : l.any badU = false := by rw [hany.out, List.drop_of_length_le (by rw [HLEN.out, ← HN.out]; omega)]; rfl
      clear hany
      rcases cutC_cases 58 l with ⟨hc, hi⟩ | ⟨j, hi, hj, hc⟩
      · have hfin := Lib.hid (parseU_no hgood hi)
        have hcut := HCUT.out
        rw [hc] at hcut
        have HC := Lib.hid hcut
        clear hcut hc hi hgood HCUT
        go_wp2_with fail
        all_goals (try (exfalso; omega))
        refine HC.out.mono ?_; rintro e w1 ⟨rfl, hb1⟩
        have HR1 := Lib.hid (HR0.out.below (by omega) hb1)
        have HA1 := Lib.hid (HBA.out.trans (hb1.mono (by omega)))
        clear hb1 HC
        go_wp2_with (first
          | refine wpList_store_row rfl 62 (.tmp 2) (.tmp 41) rfl w.heap.size (ucells url0).toArray rfl rfl 62 _ HR1.out infoUrl rfl (all_one_of (uc_one url0)) ?_)
        all_goals (try (exfalso; omega))
        refine bodyPost_ret (results_ct rfl _ _ w.heap.size 62 _ _ rfl (HR1.out.setRow (ucells url0)) Tryz.underlying62 rfl infoUrl) rfl ?_
        exact ⟨⟨url0, 15, rfl, .inr ⟨by decide, rfl, hfin.out⟩⟩, below_setRow HA1.out (Nat.le_refl _) _⟩
      · have hdef := parseU_cut hgood hi
        have hcut := HCUT.out
        rw [hc] at hcut
        have hn1 : (l.take j).length ≤ n := by rw [List.length_take, HLEN.out, ← HN.out]; omega
        have hn2 : (l.drop (j + 1)).length ≤ n := by rw [List.length_drop, HLEN.out, ← HN.out]; omega
        have hT2 : okT (l.drop (j + 1)) := okT_drop HT.out _
        obtain ⟨nm, hnm⟩ : ∃ nm, nm = l.take j := ⟨_, rfl⟩
        obtain ⟨rs, hrs⟩ : ∃ rs, rs = l.drop (j + 1) := ⟨_, rfl⟩
        rw [← hnm, ← hrs] at hdef hcut
        rw [← hnm] at hn1
        rw [← hrs] at hn2 hT2
        have hsch := fun W => u_scheme (mk nm) W (by rw [size_mk]; omega)
        simp only [un_mk] at hsch
        obtain ⟨sc, hsc⟩ : ∃ sc, sc = schemeV nm := ⟨_, rfl⟩
        rw [← hsc] at hdef
        simp only [← hsc] at hsch
        have HSC := Lib.hid hsch
        have HC := Lib.hid hcut
        have HDEF := Lib.hid hdef
        have HT2 := Lib.hid hT2
        clear hcut hc hi hgood HCUT hdef hnm hrs hsch hsc hT2 HT HL HLEN hj
        go_wp2_with fail
        all_goals (try (exfalso; omega))
        refine HC.out.mono ?_; rintro e w1 ⟨rfl, hb1⟩
        have hs1 := hb1.size
        have HR1 := Lib.hid (HR0.out.below (by omega) hb1)
        have HA1 := Lib.hid (HBA.out.trans (hb1.mono (by omega)))
        clear hb1 HC HR0 HBA
        go_wp2_with fail
        all_goals (try (exfalso; omega))
        refine (HSC.out _).mono ?_; rintro e w2 ⟨rfl, rfl⟩
        cases sc
        · have hfin := Lib.hid (HDEF.out.trans (if_neg (by simp)))
          clear HDEF HSC
          go_wp2_with (first
            | refine wpList_store_row rfl 62 (.tmp 2) (.tmp 41) rfl w.heap.size (ucells url0).toArray rfl rfl 62 _ HR1.out infoUrl rfl (all_one_of (uc_one url0)) ?_)
          all_goals (try (exfalso; omega))
          refine bodyPost_ret (results_ct rfl _ _ w.heap.size 62 _ _ rfl (HR1.out.setRow (ucells url0)) Tryz.underlying62 rfl infoUrl) rfl ?_
          exact ⟨⟨url0, 15, rfl, .inr ⟨by decide, rfl, hfin.out⟩⟩, below_setRow HA1.out (Nat.le_refl _) _⟩
        · have hd2 := HDEF.out.trans (if_pos rfl)
          have hlow := ascii_lower (mk nm) w1 (by rw [size_mk]; omega)
          rw [un_mk] at hlow
          obtain ⟨sch, hsch⟩ : ∃ sch, sch = lower nm := ⟨_, rfl⟩
          rw [← hsch] at hlow hd2
          have HLOW := Lib.hid hlow
          have HD2 := Lib.hid hd2
          clear hlow hd2 hsch HDEF HSC
          go_wp2_with fail
          all_goals (try (exfalso; omega))
          refine HLOW.out.mono ?_; rintro e w3 ⟨rfl, hb3⟩
          have hs3 := hb3.size
          have HN3 := Lib.hid (heap_alloc_new w3 (.cells (ucells url0).toArray 62))
          have hne : w.heap.size ≠ w3.heap.size := by omega
          have hR4 := ((HR1.out.below (by omega) hb3).alloc (.cells (ucells url0).toArray 62)).setRow_other hne (ucells ⟨sch, [], host0, -1, rs⟩).toArray
          have hY4 := (BlkL.new w3 62 (ucells url0)).setRow (ucells ⟨sch, [], host0, -1, rs⟩)
          have hA4 := below_setRow ((HA1.out.trans (hb3.mono (by omega))).alloc (by omega) (.cells (ucells url0).toArray 62)) (show w.heap.size ≤ w3.heap.size by omega) (ucells ⟨sch, [], host0, -1, rs⟩).toArray
          obtain ⟨W4, hW4⟩ : ∃ W4, W4 = (w3.alloc (.cells (ucells url0).toArray 62)).setRow w3.heap.size (ucells ⟨sch, [], host0, -1, rs⟩).toArray := ⟨_, rfl⟩
          rw [← hW4] at hR4 hY4 hA4
          have hs4 : W4.heap.size = w3.heap.size + 1 := by rw [hW4]; simp [World.setRow]
          have HW4 : Hid ((w3.alloc (.cells #[.string ⟨#[]⟩, .string ⟨#[]⟩, .int .i64 0, .string ⟨#[]⟩, .int .u32 0, .int .u16 0, .int .u16 0, .int .u16 0, .int .u16 0, .int .u16 0, .int .u16 0, .int .u16 0, .int .u16 0, .int .i64 0, .string ⟨#[]⟩] 62)).setRow w3.heap.size (ucells ⟨sch, [], host0, -1, rs⟩).toArray = W4) := Lib.hid hW4.symm
          have HR4 := Lib.hid hR4
          have HY4 := Lib.hid hY4
          have HA4 := Lib.hid hA4
          have B4 := Lib.hid (HBB.out.below hA4)
          have hyw : w.heap.size < w3.heap.size := by omega
          clear hb3 HLOW HR1 HA1 hR4 hY4 hA4 hW4
          go_upto_region 11 with (first
            | refine wpList_store_row rfl 62 (.tmp 8) (.tmp 45) rfl w3.heap.size (ucells ⟨sch, [], host0, -1, rs⟩).toArray rfl rfl 62 _ HN3.out infoUrl rfl (all_one_of (uc_one _)) ?_)
          all_goals (try (exfalso; omega))
          rw [HW4.out]
          clear HW4 HN3
          have c4 := HY4.out.c 0 _ rfl
          have hsp := fun W => u_special (mk sch) W
          simp only [un_mk] at hsp
          have hpc := portD_cases sch
          by_cases hp : portD sch < 0
          · have hfin := Lib.hid (HD2.out.trans (special_no hp))
            have hdec : decide (0 < portD sch) = false := decide_eq_false (by omega)
            simp only [hdec] at hsp
            have HSP := Lib.hid hsp
            have HIU := Lib.hid (infoUrlOf (u := ⟨sch, [], host0, -1, rs⟩) rfl)
            clear hsp hdec hpc hp
            go_wp2_with fail
            all_goals (try (exfalso; omega))
            refine (HSP.out _).mono ?_; rintro e w5 ⟨rfl, rfl⟩
            go_wp2_with (first
              | refine wpList_load_row rfl 62 (.tmp 8) rfl w3.heap.size rfl 62 _ _ _ HY4.out Tryz.underlying62 rfl HIU.out ?_
              | refine wpList_store_row rfl 62 (.tmp 2) (.tmp 50) rfl w.heap.size (ucells ⟨sch, [], host0, -1, rs⟩).toArray rfl rfl 62 _ HR4.out HIU.out rfl (all_one_of (uc_one _)) ?_)
            all_goals (try (exfalso; omega))
            refine bodyPost_ret (results_ct rfl _ _ w.heap.size 62 _ _ rfl (HR4.out.setRow (ucells ⟨sch, [], host0, -1, rs⟩)) Tryz.underlying62 rfl HIU.out) rfl ?_
            exact ⟨⟨_, 0, rfl, .inl ⟨rfl, hfin.out⟩⟩, below_setRow HA4.out (Nat.le_refl _) _⟩
          · have hdec : decide (0 < portD sch) = true := decide_eq_true (by omega)
            simp only [hdec] at hsp
            have HSP := Lib.hid hsp
            have hcp := lib_cutPrefix (mk rs) ⟨#[47, 47]⟩ W4
            have hsz2 : (⟨#[47, 47]⟩ : ByteArray).size = 2 := rfl
            have hun2 : un (⟨#[47, 47]⟩ : ByteArray) = [47, 47] := rfl
            rw [un_mk, hsz2, hun2] at hcp
            clear hsp hdec hpc hsz2 hun2
            by_cases h2 : rs.take 2 = [47, 47]
            · have hd5 := HD2.out.trans (special_ok hp h2)
              rw [if_pos h2, decide_eq_true h2] at hcp
              have hr2l : (rs.drop 2).length ≤ n := by rw [List.length_drop]; omega
              have hr2t : okT (rs.drop 2) := okT_drop HT2.out 2
              obtain ⟨r2, hr2⟩ : ∃ r2, r2 = rs.drop 2 := ⟨_, rfl⟩
              rw [← hr2] at hd5 hcp hr2l hr2t
              have hia := lib_indexAny3 (mk r2) W4 (by rw [size_mk]; omega) (by rw [un_mk]; exact fun b hb => (hr2t b hb).1)
              rw [un_mk] at hia
              have hal := authL_le r2
              have hil := authL_le.indexAny_lt [47, 63, 35] r2
              have hadef : authL r2 = if Lib.indexAny r2 [47, 63, 35] < 0 then r2.length else (Lib.indexAny r2 [47, 63, 35]).toNat := rfl
              obtain ⟨ix, hix⟩ : ∃ ix, ix = Lib.indexAny r2 [47, 63, 35] := ⟨_, rfl⟩
              rw [← hix] at hia hadef hil
              obtain ⟨A, hA⟩ : ∃ A, A = authL r2 := ⟨_, rfl⟩
              rw [← hA] at hd5 hal hadef
              have HD5 := Lib.hid hd5
              have HCP := Lib.hid hcp
              have HIA := Lib.hid hia
              have HAD := Lib.hid hadef
              have HT3 := Lib.hid hr2t
              clear hd5 hcp hia hadef hix hA hr2 hr2t h2 hp HD2 HT2
              go_wp2_with fail
              all_goals (try (exfalso; omega))
              refine (HSP.out _).mono ?_; rintro e w5 ⟨rfl, rfl⟩
              go_wp2_with fail
              all_goals (try (exfalso; omega))
              refine HCP.out.mono ?_; rintro e w5 ⟨rfl, rfl⟩
              go_wp2_with fail
              all_goals (try (exfalso; omega))
              refine HIA.out.mono ?_; rintro e w5 ⟨rfl, hb5⟩
              have hs5 := hb5.size
              have HR5 := Lib.hid (HR4.out.below (by omega) hb5)
              have HY5 := Lib.hid (HY4.out.below (by omega) hb5)
              have HA5 := Lib.hid (HA4.out.trans (hb5.mono (by omega)))
              clear hb5 HSP HCP HIA HR4 HY4 HA4 c4
              go_upto_if 63 with fail
              all_goals (try (exfalso; omega))
              go_cut [9] (fun s9 wx => s9 = .string (mk (r2.take A)) ∧ wx = w5)
              case first =>
                by_cases h0 : ix < 0
                · have g1 : decide ((0 : Int) ≤ ix) = false := decide_eq_false (by omega)
                  have hA2 := HAD.out
                  rw [if_pos h0] at hA2
                  have ht : r2.take A = r2 := by rw [hA2, List.take_length]
                  have HTK := Lib.hid ht
                  clear hA2 ht
                  go_wp2
                  all_goals (try (exfalso; omega))
                  go_meet
                  exact ⟨by rw [HTK.out], rfl⟩
                · have g1 : decide ((0 : Int) ≤ ix) = true := decide_eq_true (by omega)
                  have hA2 := HAD.out
                  rw [if_neg h0] at hA2
                  obtain ⟨k, rfl⟩ : ∃ k : Nat, ix = k := ⟨ix.toNat, by omega⟩
                  have hAk : A = k := by rw [hA2]; simp
                  have hI2 : (k : Int) ≤ (r2.length : Int) := by omega
                  have hx1 := ext_to (mk r2) k
                  rw [un_mk] at hx1
                  clear hA2 HAD
                  have HAK := Lib.hid hAk
                  clear hAk
                  go_wp2
                  all_goals (try (exfalso; omega))
                  go_meet
                  exact ⟨by rw [HAK.out], rfl⟩
              case rest =>
              obtain ⟨rfl, rfl⟩ := hcut
              have hau : (r2.take A).length = A := by rw [List.length_take]; omega
              have hTa : okT (r2.take A) := okT_take HT3.out A
              have hx2 := ext_from (mk r2) A
              rw [un_mk, size_mk] at hx2
              have hrl : (r2.drop A).length ≤ n := by rw [List.length_drop]; omega
              obtain ⟨au, hau2⟩ : ∃ au, au = r2.take A := ⟨_, rfl⟩
              obtain ⟨rr, hrr⟩ : ∃ rr, rr = r2.drop A := ⟨_, rfl⟩
              have HD6 : Hid (parseU l = placeV ⟨sch, [], host0, -1, slash rr⟩ au) := Lib.hid (by rw [HD5.out, hau2, hrr])
              rw [← hau2] at hau hTa ⊢
              rw [← hrr] at hx2 hrl
              have HTA := Lib.hid hTa
              clear hau2 hrr HD5 HAD HT3 hTa
              have hauI : (au.length : Int) ≤ (r2.length : Int) := by omega
              have f5 := HY5.out.f 14
              have d5 := HY5.out.c 14 _ rfl
              have hY6 : BlkL (wc.setCell ⟨w3.heap.size, 14, none⟩ (.string (mk rr))) w3.heap.size 62 (ucells ⟨sch, [], host0, -1, rr⟩) := HY5.out.set 14 (by rw [uc_len (u := ⟨sch, [], host0, -1, rs⟩) rfl]; omega) (.string (mk rr))
              have hR6 := HR5.out.other (p := w3.heap.size) (by omega) 14 (.string (mk rr))
              have hA6 := HA5.out.trans (below_setC wc w3.heap.size 14 (.string (mk rr)) (by omega))
              have c6 := hY6.c 14 _ rfl
              have f6 := hY6.f 14
              have hpf := fun W => lib_hasPrefix (mk rr) 47 W
              simp only [un_mk] at hpf
              have HIU : Hid ((Tryz.prog.info? 62).map (·.size) = some 15) := Lib.hid infoUrl
              by_cases hh : rr.head? = some 47
              · have HD7 : Hid (parseU l = placeV ⟨sch, [], host0, -1, rr⟩ au) := Lib.hid (by rw [HD6.out]; unfold slash; rw [if_pos hh])
                simp only [decide_eq_true hh] at hpf
                have HPF := Lib.hid hpf
                have hpl := u_place ⟨sch, [], host0, -1, rr⟩ (mk au) (wc.setCell ⟨w3.heap.size, 14, none⟩ (.string (mk rr))) (HBB.out.below hA6) host0_w rfl (by rw [size_mk]; omega) (by rw [un_mk]; exact HTA.out)
                rw [un_mk] at hpl
                have HPL := Lib.hid hpl
                have HY7 := Lib.hid hY6
                have HR7 := Lib.hid hR6
                have HA7 := Lib.hid hA6
                clear hpf hh hpl hY6 hR6 hA6 HD6 HY5 HR5 HA5
                go_wp2_with fail
                all_goals (try (exfalso; omega))
                refine (HPF.out _).mono ?_; rintro e w6 ⟨rfl, rfl⟩
                go_wp2_with (first
                  | refine wpList_load_row rfl 62 (.tmp 8) rfl w3.heap.size rfl 62 _ _ _ HY7.out Tryz.underlying62 rfl infoUrl ?_)
                all_goals (try (exfalso; omega))
                refine HPL.out.mono ?_; rintro e w7 ⟨⟨v, c, rfl, hres⟩, hb7⟩
                have hw : HostW v.host := by
                  rcases hres with ⟨_, h2⟩ | ⟨_, h2, _⟩
                  · exact placeV_w h2
                  · rw [h2]; exact host0_w
                have HI := Lib.hid (infoUrlOf hw.1)
                have HSZ := Lib.hid (show (ucells url0).toArray.size = (ucells v).toArray.size by rw [List.size_toArray, List.size_toArray, uc_len hw.1]; rfl)
                have HR8 := Lib.hid (HR7.out.below (by simp; omega) hb7)
                have HA8 := Lib.hid (HA7.out.trans (hb7.mono (by simp; omega)))
                have HRES := Lib.hid hres
                clear hb7 hres hw HPL HR7 HA7 HY7
                go_wp2_with (first
                  | refine wpList_store_row rfl 62 (.tmp 2) (.tmp 83) rfl w.heap.size (ucells v).toArray rfl rfl 62 _ HR8.out HI.out HSZ.out (all_one_of (uc_one v)) ?_)
                all_goals (try (exfalso; omega))
                refine bodyPost_ret (results_ct rfl _ _ w.heap.size 62 _ _ rfl (HR8.out.setRow (ucells v)) Tryz.underlying62 rfl HI.out) rfl ?_
                refine ⟨⟨v, c, rfl, ?_⟩, below_setRow HA8.out (Nat.le_refl _) _⟩
                rw [HD7.out]
                exact HRES.out
              · have HD7 : Hid (parseU l = placeV ⟨sch, [], host0, -1, 47 :: rr⟩ au) := Lib.hid (by rw [HD6.out]; unfold slash; rw [if_neg hh])
                simp only [decide_eq_false hh] at hpf
                have HPF := Lib.hid hpf
                have hadd : (⟨#[47]⟩ : ByteArray) ++ mk rr = mk (47 :: rr) := by
                  have := mk_append [47] rr
                  exact this.symm
                have hY7 : BlkL ((wc.setCell ⟨w3.heap.size, 14, none⟩ (.string (mk rr))).setCell ⟨w3.heap.size, 14, none⟩ (.string (mk (47 :: rr)))) w3.heap.size 62 (ucells ⟨sch, [], host0, -1, 47 :: rr⟩) := hY6.set 14 (by rw [uc_len (u := ⟨sch, [], host0, -1, rr⟩) rfl]; omega) (.string (mk (47 :: rr)))
                have hR7 := hR6.other (p := w3.heap.size) (by omega) 14 (.string (mk (47 :: rr)))
                have hA7 := hA6.trans (below_setC (wc.setCell ⟨w3.heap.size, 14, none⟩ (.string (mk rr))) w3.heap.size 14 (.string (mk (47 :: rr))) (by omega))
                have hpl := u_place ⟨sch, [], host0, -1, 47 :: rr⟩ (mk au) _ (HBB.out.below hA7) host0_w rfl (by rw [size_mk]; omega) (by rw [un_mk]; exact HTA.out)
                rw [un_mk] at hpl
                have HPL := Lib.hid hpl
                have HY7 := Lib.hid hY7
                have HR7 := Lib.hid hR7
                have HA7 := Lib.hid hA7
                have hrs1 : (mk rr).size ≤ 100000 := by rw [size_mk]; omega
                clear hpf hh hpl hY6 hR6 hA6 HD6 HY5 HR5 HA5 hY7 hR7 hA7
                go_wp2_with fail
                all_goals (try (exfalso; omega))
                refine (HPF.out _).mono ?_; rintro e w6 ⟨rfl, rfl⟩
                go_wp2_with (first
                  | refine wpList_load_row rfl 62 (.tmp 8) rfl w3.heap.size rfl 62 _ _ _ HY7.out Tryz.underlying62 rfl infoUrl ?_)
                all_goals (try (exfalso; omega))
                refine HPL.out.mono ?_; rintro e w7 ⟨⟨v, c, rfl, hres⟩, hb7⟩
                have hw : HostW v.host := by
                  rcases hres with ⟨_, h2⟩ | ⟨_, h2, _⟩
                  · exact placeV_w h2
                  · rw [h2]; exact host0_w
                have HI := Lib.hid (infoUrlOf hw.1)
                have HSZ := Lib.hid (show (ucells url0).toArray.size = (ucells v).toArray.size by rw [List.size_toArray, List.size_toArray, uc_len hw.1]; rfl)
                have HR8 := Lib.hid (HR7.out.below (by simp; omega) hb7)
                have HA8 := Lib.hid (HA7.out.trans (hb7.mono (by simp; omega)))
                have HRES := Lib.hid hres
                clear hb7 hres hw HPL HR7 HA7 HY7
                go_wp2_with (first
                  | refine wpList_store_row rfl 62 (.tmp 2) (.tmp 83) rfl w.heap.size (ucells v).toArray rfl rfl 62 _ HR8.out HI.out HSZ.out (all_one_of (uc_one v)) ?_)
                all_goals (try (exfalso; omega))
                refine bodyPost_ret (results_ct rfl _ _ w.heap.size 62 _ _ rfl (HR8.out.setRow (ucells v)) Tryz.underlying62 rfl HI.out) rfl ?_
                refine ⟨⟨v, c, rfl, ?_⟩, below_setRow HA8.out (Nat.le_refl _) _⟩
                rw [HD7.out]
                exact HRES.out
            · have hfin := Lib.hid (HD2.out.trans (special_bad hp h2))
              rw [if_neg h2, decide_eq_false h2] at hcp
              have HCP := Lib.hid hcp
              clear hcp h2 hp HD2
              go_wp2_with fail
              all_goals (try (exfalso; omega))
              refine (HSP.out _).mono ?_; rintro e w5 ⟨rfl, rfl⟩
              go_wp2_with fail
              all_goals (try (exfalso; omega))
              refine HCP.out.mono ?_; rintro e w5 ⟨rfl, rfl⟩
              go_wp2_with (first
                | refine wpList_store_row rfl 62 (.tmp 2) (.tmp 58) rfl w.heap.size (ucells url0).toArray rfl rfl 62 _ HR4.out infoUrl rfl (all_one_of (uc_one url0)) ?_)
              all_goals (try (exfalso; omega))
              refine bodyPost_ret (results_ct rfl _ _ w.heap.size 62 _ _ rfl (HR4.out.setRow (ucells url0)) Tryz.underlying62 rfl infoUrl) rfl ?_
              exact ⟨⟨url0, 4, rfl, .inr ⟨by decide, rfl, hfin.out⟩⟩, below_setRow HA4.out (Nat.le_refl _) _⟩
end Go.Proofs.YtjbciamhhfcdoaaGreatDoor
