/- The walk of Parse of the program's hosts: texts without a bracket. Conditions: the text is ASCII without percent signs and of bounded length; the library's tables stand. -/
import Derived.Test.YtjbciamhhfcdoaaGreatDoorSub30
namespace Go.Proofs.YtjbciamhhfcdoaaGreatDoor
open Go.RowKit Hs
set_option linter.unusedSimpArgs false
set_option linter.unusedVariables false
set_option maxRecDepth 20000 in
set_option maxHeartbeats 8000000 in
theorem h_parse3 (s : ByteArray) (w : World) (hB : Base w) (h1 : s.size ≤ 1024) (hb : (un s).head? ≠ some 91) (hT : okT (un s)) : Calls Tryz.prog 174 #[.string s] w (HostRes (hostV (un s)) w.heap.size w) := by
  have hdef := hostV_dec (l := un s) (by rw [length_un]; omega) hb
  have hbA : Below w.heap.size w (w.alloc (.cells (hcells host0).toArray 60)) := (Below.refl _ w).alloc (Nat.le_refl _) _
  have hr0 : BlkL (w.alloc (.cells (hcells host0).toArray 60)) w.heap.size 60 (hcells host0) := BlkL.new w _ _
  have hsz0 : w.heap.size + 1 ≤ (w.alloc (.cells (hcells host0).toArray 60)).heap.size := by simp
  obtain ⟨W0, hW0⟩ : ∃ W0, W0 = w.alloc (.cells (hcells host0).toArray 60) := ⟨_, rfl⟩
  rw [← hW0] at hbA hr0 hsz0
  have HW0 := Lib.hid ((alloc_host w).trans hW0.symm)
  have B0 := hB.below hbA
  have HR0 := Lib.hid hr0
  clear hW0 hr0
  have hp := lib_hasPrefix s 91 W0
  rw [decide_eq_false hb] at hp
  have HP := Lib.hid hp
  have HDC := Lib.hid (h_decode s W0 (by omega))
  have HDEF := Lib.hid hdef
  have HT := Lib.hid hT
  have HBB := Lib.hid hB
  clear hp hb hB hdef hT
  go_enter Tryz.func174, Tryz.ntmps174
  go_wp2_with fail
  all_goals (try (exfalso; omega))
  rw [HW0.out]
  refine HP.out.mono ?_; rintro e w1 ⟨rfl, rfl⟩
  go_wp2_with fail
  all_goals (try (exfalso; omega))
  refine HDC.out.mono ?_; rintro e w1 ⟨⟨t, ok, rfl, hres⟩, hb1⟩
  have hr1 := HR0.out.below (by omega) hb1
  have hall1 := hbA.trans (hb1.mono (by omega))
  have B1 := B0.below hb1
  have hs1 := hb1.size
  have HR1 := Lib.hid hr1
  have HALL1 := Lib.hid hall1
  clear hb1 hbA hr1 hall1 HP HDC HW0 HR0 B0
  rcases hres with ⟨rfl, hpt⟩ | ⟨rfl, rfl, hpn⟩
  · have hd2 := HDEF.out
    rw [hpt] at hd2
    have hd2 : hostV (un s) = plainV (dropDot (un t)) := hd2
    have hlab := okT_label HT.out hpt
    have hlt : (un t).length ≤ s.size := by have := pctV_len _ _ _ (Nat.le_refl _) hpt; rw [length_un] at this; exact this
    have hld := dropDot_len (un t)
    have htr := lib_trimDot t w1 (by rw [← length_un]; omega)
    obtain ⟨q, hq⟩ : ∃ q, q = dropDot (un t) := ⟨_, rfl⟩
    rw [← hq] at hd2 hlab hld htr
    have hql : q.length ≤ 1024 := by omega
    have HTR := Lib.hid htr
    have HD2 := Lib.hid hd2
    have HLAB := Lib.hid hlab
    have hnum := i4_numeric (mk q) w1 B1 (by rw [size_mk]; omega)
    rw [un_mk] at hnum
    obtain ⟨nm, hnm⟩ : ∃ nm, nm = numericV q := ⟨_, rfl⟩
    rw [← hnm] at hnum
    have HN := Lib.hid hnum
    have HNM := Lib.hid hnm
    clear hd2 hlab htr hq hpt hnum hnm HDEF HT hlt hld
    go_wp2_with fail
    all_goals (try (exfalso; omega))
    refine HTR.out.mono ?_; rintro e w2 ⟨rfl, rfl⟩
    go_wp2_with fail
    all_goals (try (exfalso; omega))
    refine HN.out.mono ?_; rintro e w2 ⟨rfl, hb2⟩
    have hr2 := HR1.out.below (by omega) hb2
    have hall2 := HALL1.out.trans (hb2.mono (by omega))
    have B2 := B1.below hb2
    have hs2 := hb2.size
    have HR2 := Lib.hid hr2
    have HALL2 := Lib.hid hall2
    clear hb2 hr2 hall2 HR1 HALL1 B1 HN HTR
    cases nm
    · have hd3 := HD2.out
      unfold plainV domV at hd3
      rw [← HNM.out, if_neg (by simp)] at hd3
      have hsp := lib_splitBlk (mk q) w2 B2 (by rw [size_mk]; omega)
      rw [un_mk] at hsp
      have hll : (splitD 46 q).length ≤ 1025 := by
        have := splitD_count 46 q
        omega
      have hle : ∀ x ∈ splitD 46 q, x.length ≤ 1024 := fun x hx => by have := splitD_len 46 q x hx; omega
      obtain ⟨L, hL⟩ : ∃ L, L = splitD 46 q := ⟨_, rfl⟩
      simp only [← hL] at hd3 hsp hll hle HLAB
      have HSP := Lib.hid hsp
      have HLE := Lib.hid hle
      have HD3 := Lib.hid hd3
      obtain ⟨g, hg⟩ : ∃ g, g = w2.heap.size := ⟨_, rfl⟩
      obtain ⟨n, hn⟩ : ∃ n, n = L.length := ⟨_, rfl⟩
      rw [← hn] at hll
      clear hd3 hsp hL hle HD2 HNM
      go_wp2_with fail
      all_goals (try (exfalso; omega))
      refine HSP.out.mono ?_; rintro e w3 ⟨rfl, rfl⟩
      have hb3 : Below w2.heap.size w2 (w2.alloc (.cells (scells L).toArray 9)) := (Below.refl _ w2).alloc (Nat.le_refl _) _
      have hl3 : BlkL (w2.alloc (.cells (scells L).toArray 9)) w2.heap.size 9 (scells L) := BlkL.new w2 _ _
      have hr3 := HR2.out.below (by omega) hb3
      have hall3 := HALL2.out.trans (hb3.mono (by omega))
      have B3 := B2.below hb3
      have hs3 : w2.heap.size + 1 ≤ (w2.alloc (.cells (scells L).toArray 9)).heap.size := by simp
      obtain ⟨W3, hW3⟩ : ∃ W3, W3 = w2.alloc (.cells (scells L).toArray 9) := ⟨_, rfl⟩
      rw [← hW3] at hb3 hl3 hr3 hall3 B3 hs3 ⊢
      rw [← hg] at hs3 hl3 ⊢
      rw [← hn]
      have HL3 := Lib.hid hl3
      have HR3 := Lib.hid hr3
      have HALL3 := Lib.hid hall3
      have HNL := Lib.hid hn
      have hgw : w.heap.size < g := by omega
      clear hl3 hr3 hall3 hb3 hW3 HSP HR2 HALL2 B2 hn hg hs2 hs1
      go_wp2
      all_goals (try (exfalso; omega))
      go_loopw [52] (fun iv wr => ∃ (k : Nat) (d : List Bs), iv = .int .i64 k ∧ k ≤ n ∧ d.length = k ∧ Hid (∀ y ∈ d, y.length ≤ 63) ∧ g < wr.heap.size ∧ Hid (BlkL wr g 9 (scells (d ++ L.drop k))) ∧ Hid (BlkL wr w.heap.size 60 (hcells host0)) ∧ Hid (Below w.heap.size w wr) ∧ Hid (labsV L = (labsV (L.drop k)).map (d ++ ·))) (fun iv _ => n - (intOf iv).toNat)
      case atStart => exact ⟨0, [], rfl, by omega, rfl, Lib.hid (by simp), by omega, Lib.hid (by rw [List.drop_zero, List.nil_append]; exact HL3.out), HR3, HALL3, Lib.hid (by rw [List.drop_zero]; cases labsV L <;> simp)⟩
      case round =>
        obtain ⟨k, d, rfl, hk, hdl, hd63, hgr, hlr, hrr, hnx, hst⟩ := hrel
        by_cases hlt : k < n
        · have hkl : k < L.length := by rw [← HNL.out]; exact hlt
          have hdr : L.drop k = L[k] :: L.drop (k + 1) := List.drop_eq_getElem_cons hkl
          have hst2 := hst.out
          have hl2 := hlr.out
          rw [hdr] at hst2 hl2
          have hxl := HLE.out L[k] (List.getElem_mem hkl)
          have hxa := HLAB.out L[k] (List.getElem_mem hkl)
          obtain ⟨x, hx⟩ : ∃ x, x = L[k] := ⟨_, rfl⟩
          rw [← hx] at hst2 hl2 hxl hxa
          have c0 : wr.cell? ⟨g, k, none⟩ = some (.string (mk x)) := hl2.c k _ (by simp [scells, hdl])
          have htoa := h_label (mk x) wr (by rw [size_mk]; omega) (by rw [un_mk]; exact hxa)
          rw [un_mk] at htoa
          have HTO := Lib.hid htoa
          have HST := Lib.hid hst2
          have HL2 := Lib.hid hl2
          clear hst hst2 hlr hl2 hdr hx htoa hxa
          go_wp2_with fail
          all_goals (try (exfalso; omega))
          refine HTO.out.mono ?_; rintro e w4 ⟨⟨y, c, rfl, hres⟩, hb4⟩
          have hs4 := hb4.size
          have HL4 := Lib.hid (HL2.out.below hgr hb4)
          have HR4 := Lib.hid (hrr.out.below (by omega) hb4)
          have HNX4 := Lib.hid (hnx.out.trans (hb4.mono (by have := hnx.out.size; omega)))
          have f4 := HL4.out.f k
          have c4 : w4.cell? ⟨g, k, none⟩ = some (.string (mk x)) := HL4.out.c k _ (by simp [scells, hdl])
          clear hb4 HL2 hrr hnx HTO c0
          rcases hres with ⟨rfl, hok⟩ | ⟨hc, rfl, hno⟩
          · have hst5 := Lib.hid (labsV_step HST.out hok)
            have hy63 := toAsciiV_len hok
            have hd2 : Hid (∀ z ∈ d ++ [un y], z.length ≤ 63) := Lib.hid fun z hz => by
              rcases List.mem_append.1 hz with hz | hz
              · exact hd63.out z hz
              · rw [List.mem_singleton.1 hz]; exact hy63
            clear HST hok hd63 hy63
            go_wp2
            all_goals (try (exfalso; omega))
            go_roundw
            case rel =>
              refine ⟨k + 1, d ++ [un y], by go_num, by omega, by simp; omega, hd2, by simp; omega, Lib.hid ?_, Lib.hid (HR4.out.other (by omega) _ _), Lib.hid ?_, hst5⟩
              · have := HL4.out.set k (by simp [scells, hdl]) (.string y)
                have e : (scells (d ++ x :: L.drop (k + 1))).set k (.string y) = scells (d ++ [un y] ++ L.drop (k + 1)) := by
                  have e0 : scells (d ++ x :: L.drop (k + 1)) = scells d ++ (.string (mk x) :: scells (L.drop (k + 1))) := by simp [scells]
                  have e1 : scells (d ++ [un y] ++ L.drop (k + 1)) = scells d ++ (.string y :: scells (L.drop (k + 1))) := by simp [scells, mk_un]
                  have el : (scells d).length = k := by simp [scells, hdl]
                  rw [e0, e1, ← el]
                  simp
                rw [e] at this
                exact this
              · exact HNX4.out.trans (below_setC w4 _ _ _ (by omega))
            case measure => simp [intOf]; omega
          · have hfin : hostV (un s) = none := by
              rw [HD3.out, labsV_fail HST.out hno]
            have HFIN := Lib.hid hfin
            have g4 : (c != 0) = true := by simpa using hc
            have HC := Lib.hid hc
            clear HST hno hfin hc
            go_wp2_with (first
              | refine wpList_store_row rfl 60 (.tmp 2) (.tmp 64) rfl w.heap.size (hcells host0).toArray rfl rfl 60 _ HR4.out infoHost rfl (all_one_of (hc_one host0)) ?_)
            all_goals (try (exfalso; omega))
            refine bodyPost_ret (results_ct rfl _ _ w.heap.size 60 _ _ rfl (HR4.out.setRow (hcells host0)) Tryz.underlying60 rfl infoHost) rfl ?_
            exact ⟨⟨host0, c, rfl, .inr ⟨HC.out, rfl, HFIN.out⟩⟩, below_setRow HNX4.out (Nat.le_refl _) _⟩
        · have hkn : k = n := by omega
          have hdrop : L.drop k = [] := List.drop_of_length_le (by rw [← HNL.out]; omega)
          have hst2 := hst.out
          have hl2 := hlr.out
          rw [hdrop] at hst2 hl2
          rw [List.append_nil] at hl2
          have hlabs : labsV L = some d := by rw [hst2]; simp [labsV]
          have hd4 := HD3.out
          rw [hlabs] at hd4
          have hd4 : hostV (un s) = domL (joinD 46 d) := hd4
          have hjl := joinD_le 46 d hd63.out
          have hstr := strs_blk hl2 (by omega)
          rw [hdl, hkn] at hstr
          have hjo := lib_join46 _ d wr hstr (by omega) (by omega)
          obtain ⟨N, hN⟩ : ∃ N, N = joinD 46 d := ⟨_, rfl⟩
          rw [← hN] at hd4 hjl hjo
          have HJ := Lib.hid hjo
          have HD4 := Lib.hid hd4
          clear hst hst2 hlr hl2 hlabs hd4 hstr hjo hdrop hN hd63 HD3 HLE HLAB HNL
          go_wp2_with fail
          all_goals (try (exfalso; omega))
          refine HJ.out.mono ?_; rintro e w5 ⟨rfl, hb5⟩
          have hs5 := hb5.size
          have HR5 := Lib.hid (hrr.out.below (by omega) hb5)
          have HNX5 := Lib.hid (hnx.out.trans (hb5.mono (by have := hnx.out.size; omega)))
          have B5 := HBB.out.below HNX5.out
          clear hb5 HJ hrr hnx
          by_cases h253 : 253 < N.length
          · have hfin := Lib.hid (HD4.out.trans (if_pos h253))
            have g5 : decide ((253 : Int) < ((mk N).size : Int)) = true := decide_eq_true (by rw [size_mk]; omega)
            clear HD4
            go_wp2_with (first
              | refine wpList_store_row rfl 60 (.tmp 2) (.tmp 77) rfl w.heap.size (hcells host0).toArray rfl rfl 60 _ HR5.out infoHost rfl (all_one_of (hc_one host0)) ?_)
            all_goals (try (exfalso; omega))
            refine bodyPost_ret (results_ct rfl _ _ w.heap.size 60 _ _ rfl (HR5.out.setRow (hcells host0)) Tryz.underlying60 rfl infoHost) rfl ?_
            exact ⟨⟨host0, 3, rfl, .inr ⟨by decide, rfl, hfin.out⟩⟩, below_setRow HNX5.out (Nat.le_refl _) _⟩
          · have hd5 := HD4.out
            unfold domL at hd5
            rw [if_neg h253] at hd5
            have g5 : decide ((253 : Int) < ((mk N).size : Int)) = false := decide_eq_false (by rw [size_mk]; omega)
            have hnum := i4_numeric (mk N) w5 B5 (by rw [size_mk]; omega)
            rw [un_mk] at hnum
            obtain ⟨nm, hnm⟩ : ∃ nm, nm = numericV N := ⟨_, rfl⟩
            rw [← hnm] at hnum hd5
            have HN := Lib.hid hnum
            have HD5 := Lib.hid hd5
            clear hnum hnm hd5 HD4
            go_wp2_with fail
            all_goals (try (exfalso; omega))
            refine HN.out.mono ?_; rintro e w6 ⟨rfl, hb6⟩
            have HR6 := Lib.hid (HR5.out.below (by omega) hb6)
            have HNX6 := Lib.hid (HNX5.out.trans (hb6.mono (by have := HNX5.out.size; omega)))
            clear hb6 HN HR5 HNX5
            cases nm
            · have hfin := Lib.hid (HD5.out.trans (if_neg (by simp)))
              go_wp2_with (first
                | refine wpList_store_row rfl 60 (.tmp 2) (.tmp 83) rfl w.heap.size (hcells ⟨1, N, 0, zer8⟩).toArray rfl rfl 60 _ HR6.out infoHost rfl (all_one_of (hc_one _)) ?_)
              all_goals (try (exfalso; omega))
              refine bodyPost_ret (results_ct rfl _ _ w.heap.size 60 _ _ rfl (HR6.out.setRow (hcells ⟨1, N, 0, zer8⟩)) Tryz.underlying60 rfl infoHost) rfl ?_
              exact ⟨⟨_, 0, rfl, .inl ⟨rfl, hfin.out⟩⟩, below_setRow HNX6.out (Nat.le_refl _) _⟩
            · have hfin := Lib.hid (HD5.out.trans (if_pos rfl))
              go_wp2_with (first
                | refine wpList_store_row rfl 60 (.tmp 2) (.tmp 81) rfl w.heap.size (hcells host0).toArray rfl rfl 60 _ HR6.out infoHost rfl (all_one_of (hc_one host0)) ?_)
              all_goals (try (exfalso; omega))
              refine bodyPost_ret (results_ct rfl _ _ w.heap.size 60 _ _ rfl (HR6.out.setRow (hcells host0)) Tryz.underlying60 rfl infoHost) rfl ?_
              exact ⟨⟨host0, 14, rfl, .inr ⟨by decide, rfl, hfin.out⟩⟩, below_setRow HNX6.out (Nat.le_refl _) _⟩
    · have hd3 := HD2.out
      unfold plainV at hd3
      rw [← HNM.out, if_pos rfl] at hd3
      have hns := i4_numbers (mk q) w2 B2 (by rw [size_mk]; omega)
      rw [un_mk] at hns
      obtain ⟨⟨v, vok⟩, hv⟩ : ∃ v, v = numsV q := ⟨_, rfl⟩
      have hvl := numsV_lt q
      rw [← hv] at hns hd3 hvl
      simp only at hns hd3 hvl
      have HNS := Lib.hid hns
      have HD3 := Lib.hid hd3
      clear hns hd3 hv HD2 HNM
      go_wp2_with fail
      all_goals (try (exfalso; omega))
      refine HNS.out.mono ?_; rintro e w3 ⟨rfl, hb3⟩
      have HR3 := Lib.hid (HR2.out.below (by omega) hb3)
      have HNX3 := Lib.hid (HALL2.out.trans (hb3.mono (by have := HALL2.out.size; omega)))
      clear hb3 HR2 HALL2 HNS
      cases vok
      · have hfin := Lib.hid (HD3.out.trans (if_neg (by simp)))
        go_wp2_with (first
          | refine wpList_store_row rfl 60 (.tmp 2) (.tmp 45) rfl w.heap.size (hcells host0).toArray rfl rfl 60 _ HR3.out infoHost rfl (all_one_of (hc_one host0)) ?_)
        all_goals (try (exfalso; omega))
        refine bodyPost_ret (results_ct rfl _ _ w.heap.size 60 _ _ rfl (HR3.out.setRow (hcells host0)) Tryz.underlying60 rfl infoHost) rfl ?_
        exact ⟨⟨host0, 14, rfl, .inr ⟨by decide, rfl, hfin.out⟩⟩, below_setRow HNX3.out (Nat.le_refl _) _⟩
      · have hfin := Lib.hid (HD3.out.trans (if_pos rfl))
        go_wp2_with (first
          | refine wpList_store_row rfl 60 (.tmp 2) (.tmp 47) rfl w.heap.size (hcells ⟨2, [], v, zer8⟩).toArray rfl rfl 60 _ HR3.out infoHost rfl (all_one_of (hc_one _)) ?_)
        all_goals (try (exfalso; omega))
        refine bodyPost_ret (results_ct rfl _ _ w.heap.size 60 _ _ rfl (HR3.out.setRow (hcells ⟨2, [], v, zer8⟩)) Tryz.underlying60 rfl infoHost) rfl ?_
        exact ⟨⟨_, 0, rfl, .inl ⟨rfl, hfin.out⟩⟩, below_setRow HNX3.out (Nat.le_refl _) _⟩
  · have hd2 := HDEF.out
    rw [hpn] at hd2
    have hfin := Lib.hid hd2
    clear hd2 hpn HDEF HT
    go_wp2_with (first
      | refine wpList_store_row rfl 60 (.tmp 2) (.tmp 33) rfl w.heap.size (hcells host0).toArray rfl rfl 60 _ HR1.out infoHost rfl (all_one_of (hc_one host0)) ?_)
    all_goals (try (exfalso; omega))
    refine bodyPost_ret (results_ct rfl _ _ w.heap.size 60 _ _ rfl (HR1.out.setRow (hcells host0)) Tryz.underlying60 rfl infoHost) rfl ?_
    exact ⟨⟨host0, 14, rfl, .inr ⟨by decide, rfl, hfin.out⟩⟩, below_setRow HALL1.out (Nat.le_refl _) _⟩
theorem h_parse (s : ByteArray) (w : World) (hB : Base w) (hs : s.size ≤ 1000000) (hT : okT (un s)) : Calls Tryz.prog 174 #[.string s] w (HostRes (hostV (un s)) w.heap.size w) := by
  by_cases h1 : 1024 < s.size
  · exact h_parse1 s w hB h1 hs
  · by_cases hb : (un s).head? = some 91
    · exact h_parse2 s w hB (by omega) hb
    · exact h_parse3 s w hB (by omega) hb hT
end Go.Proofs.YtjbciamhhfcdoaaGreatDoor
