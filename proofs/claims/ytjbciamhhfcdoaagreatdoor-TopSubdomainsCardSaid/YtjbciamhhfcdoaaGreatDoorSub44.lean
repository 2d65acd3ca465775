/- The walks of Parse and text of URLs. Conditions: lengths are bounded, ports in range; the library's tables stand.
   The walks of Valid, Format and Insecure of URLs. Conditions: lengths are bounded, the text is ASCII without percent signs; the library's tables stand.
   The walks of Format, Insecure and Upgrade of URLs. Conditions: as Valid's. -/
import Derived.Test.YtjbciamhhfcdoaaGreatDoorSub42
import Derived.Test.YtjbciamhhfcdoaaGreatDoorSub43
import Derived.Test.YtjbciamhhfcdoaaGreatDoorSub22
import Derived.Test.YtjbciamhhfcdoaaGreatDoorSub37
namespace Go.Proofs.YtjbciamhhfcdoaaGreatDoor
open Go.RowKit Hs
set_option linter.unusedSimpArgs false
set_option linter.unusedVariables false
theorem parseU_w {l : Bs} {v : UrlP} (h : parseU l = some v) : HostW v.host := by
  unfold parseU at h
  split at h
  · cases h
  · split at h
    · cases h
    · split at h
      · unfold special at h
        split at h
        · cases h; exact host0_w
        · split at h
          · exact placeV_w h
          · cases h
      · cases h
set_option maxRecDepth 20000 in
set_option maxHeartbeats 4000000 in
theorem u_Parse (s : ByteArray) (w : World) (hB : Base w) (hs : s.size ≤ 100000) (hT : okT (un s)) : Calls Tryz.prog 35 #[.string s] w (UrlRes (urlV (un s)) w.heap.size w) := by
  have hlen : (un s).length = s.size := length_un s
  obtain ⟨W0, hW0⟩ : ∃ W0, W0 = w.alloc (.cells (ucells url0).toArray 62) := ⟨_, rfl⟩
  have hbA : Below w.heap.size w W0 := by rw [hW0]; exact (Below.refl _ w).alloc (Nat.le_refl _) _
  have hr0 : BlkL W0 w.heap.size 62 (ucells url0) := by rw [hW0]; exact BlkL.new w _ _
  have HW0 : Hid (w.alloc (.cells #[.string ⟨#[]⟩, .string ⟨#[]⟩, .int .i64 0, .string ⟨#[]⟩, .int .u32 0, .int .u16 0, .int .u16 0, .int .u16 0, .int .u16 0, .int .u16 0, .int .u16 0, .int .u16 0, .int .u16 0, .int .i64 0, .string ⟨#[]⟩] 62) = W0) := Lib.hid hW0.symm
  have hsz : W0.heap.size = w.heap.size + 1 := by rw [hW0]; simp
  have HP := Lib.hid (u_parse s W0 (hB.below hbA) hs hT)
  have HBA := Lib.hid hbA
  have HR0 := Lib.hid hr0
  clear hW0 hbA hr0
  by_cases hbig : 2048 < s.size
  · have hfin : Hid (urlV (un s) = none) := Lib.hid (if_pos (by omega))
    have g1 : decide ((2048 : Int) < (s.size : Int)) = true := decide_eq_true (by omega)
    go_enter Tryz.func35, Tryz.ntmps35
    go_upto_region 1 with fail
    rw [HW0.out]
    clear HW0 HP
    go_wp2_with (first
      | refine wpList_store_row rfl 62 (.tmp 2) (.tmp 7) rfl w.heap.size (ucells url0).toArray rfl rfl 62 _ HR0.out infoUrl rfl (all_one_of (uc_one url0)) ?_)
    all_goals (try (exfalso; omega))
    refine bodyPost_ret (results_ct rfl _ _ w.heap.size 62 _ _ rfl (HR0.out.setRow (ucells url0)) Tryz.underlying62 rfl infoUrl) rfl ?_
    exact ⟨⟨url0, 3, rfl, .inr ⟨by decide, rfl, hfin.out⟩⟩, below_setRow HBA.out (Nat.le_refl _) _⟩
  · have hfin : Hid (urlV (un s) = parseU (un s)) := Lib.hid (if_neg (by omega))
    have g1 : decide ((2048 : Int) < (s.size : Int)) = false := decide_eq_false (by omega)
    go_enter Tryz.func35, Tryz.ntmps35
    go_upto_region 1 with fail
    rw [HW0.out]
    clear HW0
    go_wp2_with fail
    all_goals (try (exfalso; omega))
    refine HP.out.mono ?_; rintro e w7 ⟨⟨v, c, rfl, hres⟩, hb7⟩
    have hw : HostW v.host := by
      rcases hres with ⟨_, h2⟩ | ⟨_, h2, _⟩
      · exact parseU_w h2
      · rw [h2]; exact host0_w
    have HI := Lib.hid (infoUrlOf hw.1)
    have HSZ := Lib.hid (show (ucells url0).toArray.size = (ucells v).toArray.size by rw [List.size_toArray, List.size_toArray, uc_len hw.1]; rfl)
    have HR8 := Lib.hid (HR0.out.below (by omega) hb7)
    have HA8 := Lib.hid (HBA.out.trans (hb7.mono (by omega)))
    have HRES := Lib.hid hres
    clear hb7 hres hw HP HR0 HBA
    go_wp2_with (first
      | refine wpList_store_row rfl 62 (.tmp 2) (.tmp 10) rfl w.heap.size (ucells v).toArray rfl rfl 62 _ HR8.out HI.out HSZ.out (all_one_of (uc_one v)) ?_)
    all_goals (try (exfalso; omega))
    refine bodyPost_ret (results_ct rfl _ _ w.heap.size 62 _ _ rfl (HR8.out.setRow (ucells v)) Tryz.underlying62 rfl HI.out) rfl ?_
    refine ⟨⟨v, c, rfl, ?_⟩, below_setRow HA8.out (Nat.le_refl _) _⟩
    rw [hfin.out]
    exact HRES.out
/-- Bounds of a URL. -/
def UrlB (u : UrlP) : Prop := u.scheme.length ≤ 20000 ∧ u.user.length ≤ 20000 ∧ u.host.name.length ≤ 20000 ∧ u.rest.length ≤ 20000 ∧ (u.port = -1 ∨ ∃ n : Nat, u.port = (n : Int) ∧ n ≤ 65535)
def userT (u : UrlP) : Bs := if u.user = [] then [] else u.user ++ [64]
def portT (u : UrlP) : Bs := if u.port = -1 then [] else 58 :: Lib.itoa u.port
theorem textU_plain {u : UrlP} (h : portD u.scheme < 0) : textU u = u.scheme ++ 58 :: u.rest := if_pos h
theorem textU_spec {u : UrlP} (h : ¬ portD u.scheme < 0) : textU u = u.scheme ++ ([58, 47, 47] ++ (userT u ++ (hostT u.host ++ (portT u ++ u.rest)))) := if_neg h
theorem itoa_nat (n : Nat) : Lib.itoa (n : Int) = Lib.decDigits n := by unfold Lib.itoa; rw [if_neg (by omega)]; simp
theorem uc_get (u : UrlP) : (ucells u)[0]? = some (.string (mk u.scheme)) ∧ (ucells u)[1]? = some (.string (mk u.user)) := ⟨rfl, rfl⟩
theorem uc_get2 (u : UrlP) (h8 : u.host.v6.length = 8) : (ucells u)[13]? = some (.int .i64 u.port) ∧ (ucells u)[14]? = some (.string (mk u.rest)) ∧ ∀ j v, (hcells u.host)[j]? = some v → (ucells u)[2 + j]? = some v := by
  have e6 : ucells u = ([.string (mk u.scheme), .string (mk u.user)] ++ hcells u.host) ++ [.int .i64 u.port, .string (mk u.rest)] := by simp [ucells]
  refine ⟨?_, ?_, fun j v hj => ?_⟩
  · rw [e6, List.getElem?_append_right (by simp [hc_len h8])]; simp [hc_len h8]
  · rw [e6, List.getElem?_append_right (by simp [hc_len h8])]; simp [hc_len h8]
  · have hjl := (List.getElem?_eq_some_iff.1 hj).1
    have e7 : ucells u = [.string (mk u.scheme), .string (mk u.user)] ++ (hcells u.host ++ [.int .i64 u.port, .string (mk u.rest)]) := rfl
    rw [e7, List.getElem?_append_right (by simp), List.getElem?_append_left (by simp; omega)]
    simpa using hj
theorem hostT_len {h : HostP} (hw : HostW h) (hn : h.name.length ≤ 20000) : (hostT h).length ≤ 20000 := by
  unfold hostT
  split
  · split
    · exact hn
    · have := fmtP_len h.v4 4
      rw [fmtP_end] at this
      simp at this
      omega
    · have := fmt6_len h.v6 ⟨hw.1, hw.2.1⟩
      simp
      omega
  · simp
set_option maxRecDepth 20000 in
set_option maxHeartbeats 4000000 in
theorem u_text (u : UrlP) (w : World) (hB : Base6 w) (hw : HostW u.host) (hb : UrlB u) : Calls Tryz.prog 110 #[.agg (ucells u).toArray] w fun e w' => e = .returned (.string (mk (textU u))) ∧ Below w.heap.size w w' := by
  obtain ⟨W0, hW0⟩ : ∃ W0, W0 = w.alloc (.cells (ucells u).toArray 62) := ⟨_, rfl⟩
  have hbA : Below w.heap.size w W0 := by rw [hW0]; exact (Below.refl _ w).alloc (Nat.le_refl _) _
  have hb0 : BlkL W0 w.heap.size 62 (ucells u) := by rw [hW0]; exact BlkL.new w _ _
  have HW0 : Hid (w.alloc (.cells (ucells u).toArray 62) = W0) := Lib.hid hW0.symm
  have hsz : W0.heap.size = w.heap.size + 1 := by rw [hW0]; simp
  have B0 := hB.below hbA
  have HF := Lib.hid (h_format u.host W0 B0 hw (by have := hb.2.2.1; omega))
  have hhl := hostT_len hw hb.2.2.1
  obtain ⟨hb1, hb2, hb3, hb4, hb5⟩ := hb
  have g := uc_get u
  have g2 := uc_get2 u hw.1
  have c0 := hb0.c 0 _ g.1
  have c1 := hb0.c 1 _ g.2
  have c13 := hb0.c 13 _ g2.1
  have c14 := hb0.c 14 _ g2.2.1
  have HRG := Lib.hid (hb0.range 2 (hcells u.host) g2.2.2)
  have HIH := Lib.hid (show (Tryz.prog.info? 60).map (·.size) = some (hcells u.host).length by rw [infoHost, hc_len hw.1])
  have HBA := Lib.hid hbA
  have HB0 := Lib.hid hb0
  have HBB := Lib.hid hB
  have hs1 : (mk u.scheme).size ≤ 20000 := by rw [size_mk]; exact hb1
  have hs2 : (mk u.user).size ≤ 20000 := by rw [size_mk]; exact hb2
  have hs4 : (mk u.rest).size ≤ 20000 := by rw [size_mk]; exact hb4
  have hs5 : (mk (hostT u.host)).size ≤ 20000 := by rw [size_mk]; exact hhl
  have hsp := fun W => u_special (mk u.scheme) W
  simp only [un_mk] at hsp
  have hpc := portD_cases u.scheme
  clear hW0 hbA hb0 hB g g2
  by_cases hp : portD u.scheme < 0
  · have hfin := Lib.hid (textU_plain hp)
    have hdec : decide (0 < portD u.scheme) = false := decide_eq_false (by omega)
    simp only [hdec] at hsp
    have HSP := Lib.hid hsp
    clear hsp hdec hpc hp
    go_enter Tryz.func110, Tryz.ntmps110
    go_upto_region 1 with fail
    rw [HW0.out]
    clear HW0
    go_wp2_with fail
    refine (HSP.out _).mono ?_; rintro e w5 ⟨rfl, rfl⟩
    go_wp2
    all_goals (try (exfalso; omega))
    go_ret
    refine ⟨?_, HBA.out⟩
    rw [hfin.out]
    have : mk (u.scheme ++ 58 :: u.rest) = (mk u.scheme ++ ⟨#[58]⟩) ++ mk u.rest := by
      rw [show u.scheme ++ 58 :: u.rest = (u.scheme ++ [58]) ++ u.rest by simp, mk_append, mk_append]
      rfl
    rw [this]
    rfl
  · have hfin := Lib.hid (textU_spec hp)
    have hdec : decide (0 < portD u.scheme) = true := decide_eq_true (by omega)
    simp only [hdec] at hsp
    have HSP := Lib.hid hsp
    clear hsp hdec hpc hp
    have hem : ((mk u.user).toList == ([] : Bs)) = decide (u.user = []) := by rw [toList_mk']; cases u.user <;> rfl
    obtain ⟨ue, hue⟩ : ∃ ue, ue = decide (u.user = []) := ⟨_, rfl⟩
    rw [← hue] at hem
    have HUE := Lib.hid hue
    clear hue
    go_enter Tryz.func110, Tryz.ntmps110
    go_upto_region 1 with fail
    rw [HW0.out]
    clear HW0
    go_wp2_with fail
    refine (HSP.out _).mono ?_; rintro e w5 ⟨rfl, rfl⟩
    go_upto_if 19 with fail
    all_goals (try (exfalso; omega))
    go_cut [3] (fun s3 wx => s3 = .string (mk (u.scheme ++ ([58, 47, 47] ++ userT u))) ∧ wx = W0)
    case first =>
      cases ue
      · have hu : userT u = u.user ++ [64] := if_neg (of_decide_eq_false HUE.out.symm)
        have HU := Lib.hid hu
        clear hu
        go_wp2
        all_goals (try (exfalso; omega))
        go_meet
        refine ⟨?_, rfl⟩
        rw [HU.out, show u.scheme ++ ([58, 47, 47] ++ (u.user ++ [64])) = (u.scheme ++ [58, 47, 47]) ++ (u.user ++ [64]) by simp, mk_append, mk_append, mk_append]
        rfl
      · have hu : userT u = [] := if_pos (of_decide_eq_true HUE.out.symm)
        have HU := Lib.hid hu
        clear hu
        go_wp2
        all_goals (try (exfalso; omega))
        go_meet
        refine ⟨?_, rfl⟩
        rw [HU.out, List.append_nil, mk_append]
        rfl
    case rest =>
    obtain ⟨rfl, rfl⟩ := hcut
    have hul : (mk (u.scheme ++ ([58, 47, 47] ++ userT u))).size ≤ 50000 := by
      rw [size_mk]
      unfold userT
      split <;> simp <;> omega
    obtain ⟨pre, hpre⟩ : ∃ pre, pre = u.scheme ++ ([58, 47, 47] ++ userT u) := ⟨_, rfl⟩
    rw [← hpre] at hul ⊢
    have HPRE := Lib.hid hpre
    clear hpre hem HSP
    go_wp2_with (first
      | refine wpList_load_mid rfl 60 (.tmp 26) rfl w.heap.size 2 rfl (hcells u.host) _ HRG.out Tryz.underlying60 rfl HIH.out ?_)
    all_goals (try (exfalso; omega))
    refine HF.out.mono ?_; rintro e w6 ⟨rfl, hb6⟩
    have HB6 := Lib.hid (HB0.out.below (by omega) hb6)
    have HA6 := Lib.hid (HBA.out.trans (hb6.mono (by omega)))
    have g2 := uc_get2 u hw.1
    have d13 := HB6.out.c 13 _ g2.1
    have d14 := HB6.out.c 14 _ g2.2.1
    have hit := fun n h => lib_itoa n w6 (HBB.out.1.below HA6.out) h
    have HIT := Lib.hid hit
    have hz1 : (mk pre ++ mk (hostT u.host)).size ≤ 70000 := by rw [ByteArray.size_append]; omega
    clear hb6 HF g2 c0 c1 c13 c14 hit
    rcases hb5 with hm1 | ⟨n, hn, hn2⟩
    · have hpt : portT u = [] := if_pos hm1
      have HPT := Lib.hid hpt
      have g5 : (u.port != -1) = false := by simpa using hm1
      clear hm1 hpt
      go_wp2
      all_goals (try (exfalso; omega))
      go_ret
      refine ⟨?_, HA6.out⟩
      rw [hfin.out, HPT.out, List.nil_append, show u.scheme ++ ([58, 47, 47] ++ (userT u ++ (hostT u.host ++ u.rest))) = ((u.scheme ++ ([58, 47, 47] ++ userT u)) ++ hostT u.host) ++ u.rest by simp, ← HPRE.out, mk_append, mk_append]
      rfl
    · have hpt : portT u = 58 :: Lib.decDigits n := by unfold portT; rw [if_neg (by omega), hn, itoa_nat]
      have HPT := Lib.hid hpt
      have g5 : (u.port != -1) = true := by simp; omega
      have hdl : (mk (Lib.decDigits n)).size ≤ 100 := by rw [size_mk]; have := decDigits_len n (by omega); omega
      rw [hn] at d13
      have g6 : ((n : Int) != -1) = true := by simp
      have hdl2 : (Lib.decDigits n).length ≤ 100 := by have := decDigits_len n (by omega); omega
      have hz3 : ((⟨#[58]⟩ : ByteArray) ++ mk (Lib.decDigits n)).size ≤ 200 := by
        rw [ByteArray.size_append]
        have : (⟨#[58]⟩ : ByteArray).size = 1 := rfl
        omega
      have hz2 : (mk pre ++ mk (hostT u.host) ++ ((⟨#[58]⟩ : ByteArray) ++ mk (Lib.decDigits n))).size ≤ 71000 := by
        rw [ByteArray.size_append, ByteArray.size_append (a := (⟨#[58]⟩ : ByteArray))]
        have : (⟨#[58]⟩ : ByteArray).size = 1 := rfl
        omega
      clear hpt hn g5
      go_wp2_with fail
      all_goals (try (exfalso; omega))
      refine (HIT.out n (by omega)).mono ?_; rintro e w7 ⟨rfl, hb7⟩
      have e14 := (HB6.out.below (by have := HB6.out.lt; omega) hb7).c 14 _ (uc_get2 u hw.1).2.1
      have HA7 := Lib.hid (HA6.out.trans (hb7.mono HA6.out.size))
      clear hb7
      go_wp2
      all_goals (try (exfalso; omega))
      go_ret
      refine ⟨?_, HA7.out⟩
      rw [hfin.out, HPT.out, show u.scheme ++ ([58, 47, 47] ++ (userT u ++ (hostT u.host ++ (58 :: Lib.decDigits n ++ u.rest)))) = (((u.scheme ++ ([58, 47, 47] ++ userT u)) ++ hostT u.host) ++ ([58] ++ Lib.decDigits n)) ++ u.rest by simp, ← HPRE.out, mk_append, mk_append, mk_append, mk_append]
      rfl
end Go.Proofs.YtjbciamhhfcdoaaGreatDoor
namespace Go.Proofs.YtjbciamhhfcdoaaGreatDoor
open Go.RowKit Hs
set_option linter.unusedSimpArgs false
set_option linter.unusedVariables false
theorem textU_len {u : UrlP} (hw : HostW u.host) (hb : UrlB u) : (textU u).length ≤ 90000 := by
  obtain ⟨h1, h2, h3, h4, h5⟩ := hb
  have hh := hostT_len hw h3
  by_cases hp : portD u.scheme < 0
  · rw [textU_plain hp]
    simp
    omega
  · rw [textU_spec hp]
    have hu : (userT u).length ≤ 20001 := by unfold userT; split <;> simp <;> omega
    have hpt : (portT u).length ≤ 20 := by
      unfold portT
      rcases h5 with h | ⟨n, hn, hn2⟩
      · rw [if_pos h]; simp
      · rw [if_neg (by omega), hn, itoa_nat]
        have := decDigits_len n (by omega)
        simp
        omega
    simp
    omega
theorem ok_w {l : Bs} {v : UrlP} (h : parseU l = some v) : HostW v.host := parseU_w h
set_option maxRecDepth 20000 in
set_option maxHeartbeats 8000000 in
theorem u_valid (u : UrlP) (w : World) (hB : Base6 w) (hw : HostW u.host) (hb : UrlB u) (hT : okT (textU u)) : Calls Tryz.prog 71 #[.agg (ucells u).toArray] w fun e w' => e = .returned (.bool (validU u)) ∧ Below w.heap.size w w' := by
  obtain ⟨W0, hW0⟩ : ∃ W0, W0 = w.alloc (.cells (ucells u).toArray 62) := ⟨_, rfl⟩
  have hbA : Below w.heap.size w W0 := by rw [hW0]; exact (Below.refl _ w).alloc (Nat.le_refl _) _
  have hb0 : BlkL W0 w.heap.size 62 (ucells u) := by rw [hW0]; exact BlkL.new w _ _
  have HW0 : Hid (w.alloc (.cells (ucells u).toArray 62) = W0) := Lib.hid hW0.symm
  have hsz : W0.heap.size = w.heap.size + 1 := by rw [hW0]; simp
  have B0 := hB.below hbA
  have HTX := Lib.hid (u_text u W0 B0 hw hb)
  have htl := textU_len hw hb
  have hpar := fun W hb => u_parse (mk (textU u)) W hb (by rw [size_mk]; omega) (by rw [un_mk]; exact hT)
  simp only [un_mk] at hpar
  have HPAR := Lib.hid hpar
  have HI0 := Lib.hid (infoUrlOf hw.1)
  have HB0 := Lib.hid hb0
  have HBA := Lib.hid hbA
  have HBB := Lib.hid hB
  have hdef : validU u = decide (parseU (textU u) = some u) := rfl
  obtain ⟨o, ho⟩ : ∃ o, o = parseU (textU u) := ⟨_, rfl⟩
  rw [← ho] at hdef
  simp only [← ho] at HPAR
  obtain ⟨tx, htx⟩ : ∃ tx, tx = textU u := ⟨_, rfl⟩
  rw [← htx] at HTX
  simp only [← htx] at HPAR
  have HDEF := Lib.hid hdef
  have HO := Lib.hid ho
  clear hW0 hbA hb0 hB hpar hdef ho htx htl hT
  go_enter Tryz.func71, Tryz.ntmps71
  go_upto_region 1 with fail
  rw [HW0.out]
  clear HW0
  go_wp2_with (refine wpList_load_row rfl 62 (.tmp 1) rfl w.heap.size rfl 62 _ _ _ HB0.out Tryz.underlying62 rfl HI0.out ?_)
  refine HTX.out.mono ?_; rintro e w1 ⟨rfl, hb1⟩
  have hs1 := hb1.size
  have HB1 := Lib.hid (HB0.out.below (by omega) hb1)
  have HA1 := Lib.hid (HBA.out.trans (hb1.mono (by omega)))
  clear hb1 HTX HB0 HBA
  go_wp2_with fail
  refine (HPAR.out _ (HBB.out.1.below HA1.out)).mono ?_; rintro e w2 ⟨⟨v, c, rfl, hres⟩, hb2⟩
  have hs2 := hb2.size
  have hv8 : v.host.v6.length = 8 := by
    rcases hres with ⟨_, h2⟩ | ⟨_, h2, _⟩
    · exact (ok_w (HO.out.symm.trans h2)).1
    · rw [h2]; rfl
  have HI := Lib.hid (infoUrlOf hv8)
  have HSZ := Lib.hid (show (ucells url0).toArray.size = (ucells v).toArray.size by rw [List.size_toArray, List.size_toArray, uc_len hv8]; rfl)
  have HN2 := Lib.hid (heap_alloc_new w2 (.cells (ucells url0).toArray 62))
  have hY4 := (BlkL.new w2 62 (ucells url0)).setRow (ucells v)
  have hb4 := ((HB1.out.below (by omega) hb2).alloc (.cells (ucells url0).toArray 62)).setRow_other (show w.heap.size ≠ w2.heap.size by omega) (ucells v).toArray
  have hA4 := below_setRow ((HA1.out.trans (hb2.mono (by omega))).alloc (by omega) (.cells (ucells url0).toArray 62)) (show w.heap.size ≤ w2.heap.size by omega) (ucells v).toArray
  obtain ⟨W4, hW4⟩ : ∃ W4, W4 = (w2.alloc (.cells (ucells url0).toArray 62)).setRow w2.heap.size (ucells v).toArray := ⟨_, rfl⟩
  rw [← hW4] at hY4 hb4 hA4
  have HW4 : Hid ((w2.alloc (.cells #[.string ⟨#[]⟩, .string ⟨#[]⟩, .int .i64 0, .string ⟨#[]⟩, .int .u32 0, .int .u16 0, .int .u16 0, .int .u16 0, .int .u16 0, .int .u16 0, .int .u16 0, .int .u16 0, .int .u16 0, .int .i64 0, .string ⟨#[]⟩] 62)).setRow w2.heap.size (ucells v).toArray = W4) := Lib.hid hW4.symm
  have HA4 := Lib.hid hA4
  have HB4 := Lib.hid hb4
  have HY4 := Lib.hid hY4
  have HRES := Lib.hid hres
  have hqq := url_eq u v hw.1 hv8
  have HQ := Lib.hid hqq
  clear hb2 HPAR HB1 HA1 hW4 hY4 hb4 hA4 hres hqq
  go_upto_region 2 with (refine wpList_store_row rfl 62 (.tmp 3) (.tmp 9) rfl w2.heap.size (ucells v).toArray rfl rfl 62 _ HN2.out HI.out HSZ.out (all_one_of (uc_one v)) ?_)
  all_goals (try (exfalso; omega))
  rw [HW4.out]
  clear HW4 HN2 HI HSZ HI0 hs1 hs2 hsz
  rcases HRES.out with ⟨rfl, hok⟩ | ⟨hc, hv0, hno⟩
  · have hfin : validU u = decide (u = v) := by
      rw [HDEF.out, hok, decide_eq_decide]
      exact ⟨fun h => (Option.some.inj h).symm, fun h => by rw [h]⟩
    have HFIN := Lib.hid hfin
    clear hfin hok HDEF HRES HBB hb
    obtain ⟨sc, us, ⟨kd, nm, va, v6⟩, pt, rs⟩ := u
    obtain ⟨scq, usq, ⟨kdq, nmq, vaq, v6q⟩, ptq, rsq⟩ := v
    obtain ⟨a, b, c, d, e, f, g, i, rfl⟩ := len8 hw.1
    obtain ⟨aq, bq, cq, dq, eq, fq, gq, iq, rfl⟩ := len8 hv8
    have hq : ∀ W, (Op.equalIn 10000 62 (.agg #[.string (mk sc), .string (mk us), .int .i64 (kd : Int), .string (mk nm), .int .u32 (va : Int), .int .u16 (a : Int), .int .u16 (b : Int), .int .u16 (c : Int), .int .u16 (d : Int), .int .u16 (e : Int), .int .u16 (f : Int), .int .u16 (g : Int), .int .u16 (i : Int), .int .i64 pt, .string (mk rs)]) (.agg #[.string (mk scq), .string (mk usq), .int .i64 (kdq : Int), .string (mk nmq), .int .u32 (vaq : Int), .int .u16 (aq : Int), .int .u16 (bq : Int), .int .u16 (cq : Int), .int .u16 (dq : Int), .int .u16 (eq : Int), .int .u16 (fq : Int), .int .u16 (gq : Int), .int .u16 (iq : Int), .int .i64 ptq, .string (mk rsq)])).run Tryz.prog W = .ok (decide ((⟨sc, us, ⟨kd, nm, va, [a, b, c, d, e, f, g, i]⟩, pt, rs⟩ : UrlP) = ⟨scq, usq, ⟨kdq, nmq, vaq, [aq, bq, cq, dq, eq, fq, gq, iq]⟩, ptq, rsq⟩)) W := HQ.out
    obtain ⟨qv, hqv⟩ : ∃ qv, qv = decide ((⟨sc, us, ⟨kd, nm, va, [a, b, c, d, e, f, g, i]⟩, pt, rs⟩ : UrlP) = ⟨scq, usq, ⟨kdq, nmq, vaq, [aq, bq, cq, dq, eq, fq, gq, iq]⟩, ptq, rsq⟩) := ⟨_, rfl⟩
    rw [← hqv] at hq HFIN
    clear hqv HQ hw hv8
    have c0 := HB4.out.c 0 _ rfl
    have c1 := HB4.out.c 1 _ rfl
    have c2 := HB4.out.c 2 _ rfl
    have c3 := HB4.out.c 3 _ rfl
    have c4 := HB4.out.c 4 _ rfl
    have c5 := HB4.out.c 5 _ rfl
    have c6 := HB4.out.c 6 _ rfl
    have c7 := HB4.out.c 7 _ rfl
    have c8 := HB4.out.c 8 _ rfl
    have c9 := HB4.out.c 9 _ rfl
    have c10 := HB4.out.c 10 _ rfl
    have c11 := HB4.out.c 11 _ rfl
    have c12 := HB4.out.c 12 _ rfl
    have c13 := HB4.out.c 13 _ rfl
    have c14 := HB4.out.c 14 _ rfl
    have z0 := HY4.out.c 0 _ rfl
    have z1 := HY4.out.c 1 _ rfl
    have z2 := HY4.out.c 2 _ rfl
    have z3 := HY4.out.c 3 _ rfl
    have z4 := HY4.out.c 4 _ rfl
    have z5 := HY4.out.c 5 _ rfl
    have z6 := HY4.out.c 6 _ rfl
    have z7 := HY4.out.c 7 _ rfl
    have z8 := HY4.out.c 8 _ rfl
    have z9 := HY4.out.c 9 _ rfl
    have z10 := HY4.out.c 10 _ rfl
    have z11 := HY4.out.c 11 _ rfl
    have z12 := HY4.out.c 12 _ rfl
    have z13 := HY4.out.c 13 _ rfl
    have z14 := HY4.out.c 14 _ rfl
    go_wp2
    all_goals (try (exfalso; omega))
    go_ret
    rw [HFIN.out]
    exact ⟨rfl, HA4.out⟩
  · have hfin : validU u = false := by rw [HDEF.out, hno]; rfl
    have HFIN := Lib.hid hfin
    have g1 : (c == 0) = false := by simpa using hc
    clear hfin hno HDEF HRES hc hv0
    go_wp2
    all_goals (try (exfalso; omega))
    go_ret
    rw [HFIN.out]
    exact ⟨rfl, HA4.out⟩
end Go.Proofs.YtjbciamhhfcdoaaGreatDoor
namespace Hs
open Go
theorem upgradeU_no {u : UrlP} (h : portD u.scheme ≠ 80) : upgradeU u = u := if_neg h
theorem upgradeU_yes {u : UrlP} (h : portD u.scheme = 80) : upgradeU u = ⟨upScheme u.scheme, u.user, u.host, if u.port = portD (upScheme u.scheme) then -1 else u.port, u.rest⟩ := if_pos h
theorem formatU_yes {u : UrlP} (h : validU u = true) : formatU u = textU u := if_pos h
theorem formatU_no {u : UrlP} (h : validU u = false) : formatU u = [] := if_neg (by rw [h]; simp)
end Hs
namespace Go.Proofs.YtjbciamhhfcdoaaGreatDoor
open Go.RowKit Go.Maps Hs
set_option linter.unusedSimpArgs false
set_option linter.unusedVariables false
set_option maxRecDepth 20000 in
set_option maxHeartbeats 4000000 in
theorem u_format (u : UrlP) (w : World) (hB : Base6 w) (hw : HostW u.host) (hb : UrlB u) (hT : okT (textU u)) : Calls Tryz.prog 112 #[.agg (ucells u).toArray] w fun e w' => e = .returned (.string (mk (formatU u))) ∧ Below w.heap.size w w' := by
  obtain ⟨W0, hW0⟩ : ∃ W0, W0 = w.alloc (.cells (ucells u).toArray 62) := ⟨_, rfl⟩
  have hbA : Below w.heap.size w W0 := by rw [hW0]; exact (Below.refl _ w).alloc (Nat.le_refl _) _
  have hb0 : BlkL W0 w.heap.size 62 (ucells u) := by rw [hW0]; exact BlkL.new w _ _
  have HW0 : Hid (w.alloc (.cells (ucells u).toArray 62) = W0) := Lib.hid hW0.symm
  have hsz : W0.heap.size = w.heap.size + 1 := by rw [hW0]; simp
  have hv := u_valid u W0 (hB.below hbA) hw hb hT
  have hf1 := @formatU_yes u
  have hf2 := @formatU_no u
  obtain ⟨ok, hok⟩ : ∃ ok, ok = validU u := ⟨_, rfl⟩
  rw [← hok] at hv hf1 hf2
  have HV := Lib.hid hv
  have HF1 := Lib.hid hf1
  have HF2 := Lib.hid hf2
  have HTX := Lib.hid (fun W hb' => u_text u W hb' hw hb)
  have HI0 := Lib.hid (infoUrlOf hw.1)
  have HB0 := Lib.hid hb0
  have HBA := Lib.hid hbA
  have HBB := Lib.hid hB
  clear hW0 hbA hb0 hB hv hf1 hf2 hok
  go_enter Tryz.func112, Tryz.ntmps112
  go_upto_region 1 with fail
  rw [HW0.out]
  clear HW0
  go_wp2_with (refine wpList_load_row rfl 62 (.tmp 1) rfl w.heap.size rfl 62 _ _ _ HB0.out Tryz.underlying62 rfl HI0.out ?_)
  refine HV.out.mono ?_; rintro e w1 ⟨rfl, hb1⟩
  have HB1 := Lib.hid (HB0.out.below (by omega) hb1)
  have HA1 := Lib.hid (HBA.out.trans (hb1.mono (by omega)))
  clear hb1 HV HB0 HBA
  cases ok
  · have hfin := Lib.hid (HF2.out rfl)
    go_wp2
    go_ret
    rw [hfin.out]
    exact ⟨rfl, HA1.out⟩
  · have hfin := Lib.hid (HF1.out rfl)
    go_wp2_with (refine wpList_load_row rfl 62 (.tmp 1) rfl w.heap.size rfl 62 _ _ _ HB1.out Tryz.underlying62 rfl HI0.out ?_)
    refine (HTX.out _ (HBB.out.below HA1.out)).mono ?_; rintro e w2 ⟨rfl, hb2⟩
    go_wp2
    go_ret
    rw [hfin.out]
    exact ⟨rfl, HA1.out.trans (hb2.mono (by have := HA1.out.size; omega))⟩
theorem u_insecure (u : UrlP) (w : World) : Calls Tryz.prog 111 #[.agg (ucells u).toArray] w fun e w' => e = .returned (.bool (decide (portD u.scheme = 80))) ∧ Below w.heap.size w w' := by
  obtain ⟨W0, hW0⟩ : ∃ W0, W0 = w.alloc (.cells (ucells u).toArray 62) := ⟨_, rfl⟩
  have hbA : Below w.heap.size w W0 := by rw [hW0]; exact (Below.refl _ w).alloc (Nat.le_refl _) _
  have hb0 : BlkL W0 w.heap.size 62 (ucells u) := by rw [hW0]; exact BlkL.new w _ _
  have HW0 : Hid (w.alloc (.cells (ucells u).toArray 62) = W0) := Lib.hid hW0.symm
  have c0 := hb0.c 0 _ rfl
  have hd := u_default (mk u.scheme) W0
  rw [un_mk] at hd
  obtain ⟨p, hp⟩ : ∃ p, p = portD u.scheme := ⟨_, rfl⟩
  rw [← hp] at hd ⊢
  have HD := Lib.hid hd
  have HBA := Lib.hid hbA
  have hpb : (p == 80) = decide (p = 80) := by by_cases h : p = 80 <;> simp [h]
  have HPB := Lib.hid hpb
  clear hW0 hbA hb0 hp hd hpb
  go_enter Tryz.func111, Tryz.ntmps111
  go_upto_region 1 with fail
  rw [HW0.out]
  clear HW0
  go_wp2_with fail
  refine HD.out.mono ?_; rintro e w1 ⟨rfl, rfl⟩
  go_wp2
  go_ret
  rw [← HPB.out]
  exact ⟨rfl, HBA.out⟩
/-- How a string reads. -/
def strElem (v : Value) : Option (DataW Unit × List MemPlace) := match v with
  | .string s => some (.lit (.string (un s)), [])
  | _ => none
theorem strElem_inv {v : Value} {b : Bs} {ps : List MemPlace} (h : strElem v = some (.lit (.string b), ps)) : v = .string (mk b) := by
  unfold strElem at h
  split at h
  · simp only [Option.some.injEq, Prod.mk.injEq, DataW.lit.injEq, Lit.string.injEq] at h
    rw [← h.1, mk_un]
  · cases h
def mapU1 : DataW Unit := (DataW.map []).put (.string bHttp) (.lit (.string bHttps))
def mapU2 : DataW Unit := mapU1.put (.string bWs) (.lit (.string bWss))
theorem mapU1_tidy : Tidy mapU1 := Tidy.put tidy_empty (key_lit _) _
theorem mapU_at {s : Bs} (h : s = bHttp ∨ s = bWs) : mapU2.atKey (.string s) (.lit (.string [])) = .lit (.string (upScheme s)) := by
  unfold mapU2
  rcases h with rfl | rfl
  · rw [atKey_put_other (by simp [bHttp, bWs])]
    unfold mapU1
    rw [atKey_put_same tidy_empty.isMap (key_lit _)]
    rfl
  · rw [atKey_put_same mapU1_tidy.isMap (key_lit _)]
    rfl
theorem zero_str (w : World) : (zeroValue 9).run Tryz.prog w = .ok (.string ⟨#[]⟩) w := by kernel_rfl
theorem wpList_lookup_up {w : World} {ops : Array Oper} {rest : List Oper} {o : Oper} {a : Act} {Q : Exit → Act → World → Prop} (hg : o.guard = none) (m x : Operand) (hop : o.op = Op.lookup 193 m x false)
    (b n : Nat) (hm : a.eval m = .map (some b)) (hown : w.ownsMap Tryz.prog 9 strElem b n mapU2) (s : Bs) (hx : a.eval x = .string (mk s)) (hs : s = bHttp ∨ s = bWs)
    (hK : wpList Tryz.prog ops Q rest (a.put o.dst (.string (mk (upScheme s)))) w) : wpList Tryz.prog ops Q (o :: rest) a w := by
  have hsl : s.length ≤ maxLen := by rcases hs with rfl | rfl <;> simp [bHttp, bWs, maxLen]
  have hkey : keyOf Tryz.prog 9 (.string (mk s)) = some (.string s) := by rw [WideMaps.keyOf_string_mk Tryz.underlying9 (by rw [size_mk]; exact hsl)]; exact congrArg some (congrArg Lit.string (un_mk s))
  refine wpList_plain hg fun K' hK' => ?_
  obtain ⟨v, ps, hrun, hv⟩ := hown.lookup str_key Tryz.underlying193 (zero_str w) (zd := .lit (.string [])) (zp := []) rfl hkey
  rw [mapU_at hs] at hv
  obtain rfl := strElem_inv hv
  unfold Oper.wp
  simp [execOp, hop, hm, hx, hrun, Result.andThen]
  exact hK' _ _ hK
end Go.Proofs.YtjbciamhhfcdoaaGreatDoor
