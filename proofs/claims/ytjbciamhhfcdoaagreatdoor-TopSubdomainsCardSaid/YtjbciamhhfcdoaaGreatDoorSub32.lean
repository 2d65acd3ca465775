/- The walk of place of URLs: the first half. Conditions: texts are ASCII without percent signs and of bounded length; the library's tables stand. -/
import Derived.Test.YtjbciamhhfcdoaaGreatDoorSub22
import Derived.Test.YtjbciamhhfcdoaaGreatDoorSub31
import Derived.Deep.DeepCutAuto
import Derived.StillTailTactics
namespace Hs
open Go
theorem userP_no {a : Bs} (h : lastC 64 a < 0) : userP a = ([], a) := by unfold userP; rw [if_pos h]
theorem userP_at {a : Bs} {k : Nat} (h : lastC 64 a = k) : userP a = (a.take k, a.drop (k + 1)) := by
  unfold userP
  rw [h, if_neg (by omega)]
  simp
theorem hostPort_br {a : Bs} {k : Nat} (hh : a.head? = some 91) (h : Lib.indexByte a 93 = k) : hostPort a = some (a.take (k + 1), a.drop (k + 1)) := by
  unfold hostPort
  rw [if_pos hh, h, if_neg (by omega)]
  simp
theorem hostPort_bad {a : Bs} (hh : a.head? = some 91) (h : Lib.indexByte a 93 < 0) : hostPort a = none := by
  unfold hostPort
  rw [if_pos hh, if_pos h]
theorem hostPort_col {a : Bs} {k : Nat} (hh : a.head? ≠ some 91) (h : Lib.indexByte a 58 = k) : hostPort a = some (a.take k, a.drop k) := by
  unfold hostPort
  rw [if_neg hh, h, if_neg (by omega)]
  simp
theorem hostPort_no {a : Bs} (hh : a.head? ≠ some 91) (h : Lib.indexByte a 58 < 0) : hostPort a = some (a, []) := by
  unfold hostPort
  rw [if_neg hh, if_pos h]
theorem userP_mem (a : Bs) : ∀ x ∈ (userP a).2, x ∈ a := by
  intro x hx
  unfold userP at hx
  split at hx
  · exact hx
  · exact List.mem_of_mem_drop hx
theorem userP_len (a : Bs) : (userP a).2.length ≤ a.length := by
  unfold userP
  split
  · exact Nat.le_refl _
  · simp only [List.length_drop]; omega
theorem hostPort_sub {r nm tl : Bs} (h : hostPort r = some (nm, tl)) : (∀ x ∈ nm, x ∈ r) ∧ nm.length ≤ r.length ∧ tl.length ≤ r.length := by
  unfold hostPort at h
  split at h
  · split at h
    · cases h
    · cases h
      exact ⟨fun x hx => List.mem_of_mem_take hx, by rw [List.length_take]; omega, by rw [List.length_drop]; omega⟩
  · split at h
    · cases h
      exact ⟨fun x hx => hx, Nat.le_refl _, by simp⟩
    · cases h
      exact ⟨fun x hx => List.mem_of_mem_take hx, by rw [List.length_take]; omega, by rw [List.length_drop]; omega⟩
theorem placeT_bad {u : UrlP} {nm tl : Bs} (h : tl ≠ [] ∧ tl.head? ≠ some 58) : placeT u nm tl = none := if_pos h
theorem placeT_ok {u : UrlP} {nm tl : Bs} (h : tl = [] ∨ tl.head? = some 58) : placeT u nm tl = match hostV nm with
    | none => none
    | some h => match portV (tl.drop 1) with
      | none => none
      | some p => some { u with host := h, port := if p = portD u.scheme then u.port else p } := by
  unfold placeT
  rw [if_neg (by rintro ⟨h1, h2⟩; rcases h with h | h <;> contradiction)]
  rfl
theorem indexByte_lt (c : UInt8) : ∀ l : Bs, Lib.indexByte l c < l.length
  | [] => by simp [Lib.indexByte]
  | b :: r => by
    have ih := indexByte_lt c r
    rw [Lib.indexByte]
    split
    · simp
    · split <;> simp <;> omega
end Hs
namespace Go.Proofs.YtjbciamhhfcdoaaGreatDoor
open Go.RowKit Hs
set_option linter.unusedSimpArgs false
set_option linter.unusedVariables false
/-- What Parse of URLs hands back. -/
def UrlRes (o : Option UrlP) (base : Nat) (w : World) (e : Ending) (w' : World) : Prop := (∃ u c, e = .returned (.tuple #[.agg (ucells u).toArray, .int .i64 c]) ∧ ((c = 0 ∧ o = some u) ∨ (c ≠ 0 ∧ u = url0 ∧ o = none))) ∧ Below base w w'
theorem ext_to (s : ByteArray) (k : Nat) : s.extract 0 k = mk ((un s).take k) := by rw [extract_seg, seg_zero]
theorem ext_from (s : ByteArray) (k : Nat) : s.extract k s.size = mk ((un s).drop k) := by rw [extract_seg, ← length_un, seg_full]
set_option maxRecDepth 20000 in
set_option maxHeartbeats 8000000 in
theorem u_place (u : UrlP) (a : ByteArray) (w : World) (hB : Base w) (hw : HostW u.host) (hu : u.user = []) (hs : a.size ≤ 100000) (hT : okT (un a)) : Calls Tryz.prog 109 #[.agg (ucells u).toArray, .string a] w (UrlRes (placeV u (un a)) w.heap.size w) := by
  obtain ⟨W0, hW0⟩ : ∃ W0, W0 = (w.alloc (.cells (ucells u).toArray 62)).alloc (.cells (ucells url0).toArray 62) := ⟨_, rfl⟩
  have hbA : Below w.heap.size w W0 := by rw [hW0]; exact ((Below.refl _ w).alloc (Nat.le_refl _) _).alloc (by simp) _
  have hb0 : BlkL W0 w.heap.size 62 (ucells u) := by rw [hW0]; exact (BlkL.new w _ _).alloc _
  have hr0 : BlkL W0 (w.heap.size + 1) 62 (ucells url0) := by
    rw [hW0]
    have := BlkL.new (w.alloc (.cells (ucells u).toArray 62)) 62 (ucells url0)
    simpa using this
  have HW0 : Hid ((w.alloc (.cells (ucells u).toArray 62)).alloc (.cells #[.string ⟨#[]⟩, .string ⟨#[]⟩, .int .i64 0, .string ⟨#[]⟩, .int .u32 0, .int .u16 0, .int .u16 0, .int .u16 0, .int .u16 0, .int .u16 0, .int .u16 0, .int .u16 0, .int .u16 0, .int .i64 0, .string ⟨#[]⟩] 62) = W0) := Lib.hid hW0.symm
  have hsz : W0.heap.size = w.heap.size + 2 := by rw [hW0]; simp
  clear hW0
  have HBB := Lib.hid hB
  have HLB := Lib.hid (lib_lastByte a 64 W0 (by omega))
  have hlc := lastC_bounds 64 (un a)
  rw [length_un] at hlc
  have hu1 := @userP_no (un a)
  have hu2 := fun k => @userP_at (un a) k
  obtain ⟨q, hq⟩ : ∃ q, q = lastC 64 (un a) := ⟨_, rfl⟩
  rw [← hq] at HLB hlc hu1
  simp only [← hq] at hu2
  have HU1 := Lib.hid hu1
  have HU2 := Lib.hid hu2
  have HT := Lib.hid hT
  obtain ⟨z, hz⟩ : ∃ z, z = w.heap.size := ⟨_, rfl⟩
  obtain ⟨n, hn⟩ : ∃ n, n = a.size := ⟨_, rfl⟩
  have HN := Lib.hid hn
  have hsI : (a.size : Int) = (n : Int) := by rw [hn]
  rw [← hn] at hs hlc
  clear hq hu1 hu2 hT hB hn
  go_enter Tryz.func109, Tryz.ntmps109
  go_upto_region 1 with fail
  rw [HW0.out]
  clear HW0
  go_wp2_with fail
  refine HLB.out.mono ?_; rintro e w1 ⟨rfl, rfl⟩
  clear HLB
  go_upto_if 18 with fail
  all_goals (try (exfalso; omega))
  go_cut [1] (fun s1 wx => ∃ usr rest, s1 = .string (mk rest) ∧ Hid (userP (un a) = (usr, rest)) ∧ Hid (BlkL wx w.heap.size 62 (ucells { u with user := usr })) ∧ Hid (BlkL wx (w.heap.size + 1) 62 (ucells url0)) ∧ Hid (Below w.heap.size w wx) ∧ w.heap.size + 2 ≤ wx.heap.size)
  case first =>
    by_cases hq0 : q < 0
    · have g1 : decide ((0 : Int) ≤ q) = false := decide_eq_false (by omega)
      have hup := HU1.out hq0
      have HUP := Lib.hid hup
      clear hup HU2 HU1
      go_wp2
      all_goals (try (exfalso; omega))
      go_meet
      refine ⟨[], un a, by rw [mk_un], HUP, Lib.hid ?_, Lib.hid hr0, Lib.hid hbA, by omega⟩
      have : { u with user := [] } = u := by cases u; simp at hu; simp [hu]
      rw [this]
      exact hb0
    · obtain ⟨k, rfl⟩ : ∃ k : Nat, q = k := ⟨q.toNat, by omega⟩
      have g1 : decide ((0 : Int) ≤ (k : Int)) = true := decide_eq_true (by omega)
      have HUP := Lib.hid (HU2.out k rfl)
      have hkn : k < n := by omega
      have hI1 : (0 : Int) ≤ (k : Int) := by omega
      have hI2 : (k : Int) ≤ (n : Int) := by omega
      have hI3 : (0 : Int) ≤ (k : Int) + 1 := by omega
      have hI4 : (k : Int) + 1 ≤ (n : Int) := by omega
      have hw1 : IntKind.i64.wrap ((k : Int) + 1) = (k : Int) + 1 := by rw [IntKind.wrap_i64]; omega
      have hx1 := ext_to a k
      have hx2 := ext_from a (k + 1)
      have f1 := hb0.f 1
      have c1 := hb0.c 1 _ rfl
      clear HU2 HU1
      go_upto_region 3 with fail
      all_goals (try (exfalso; omega))
      go_region_with (fail)
      all_goals
        go_wp2
        go_meet
        refine ⟨(un a).take k, (un a).drop (k + 1), rfl, HUP, Lib.hid (hb0.drew.set 1 (by simp [ucells]) (.string (mk ((un a).take k)))), Lib.hid (hr0.drew.other (by omega) _ _), Lib.hid ((below_drewN hbA 1).trans (below_setC _ _ _ _ (Nat.le_refl _))), ?_⟩
        simp
        omega
  case rest =>
  obtain ⟨usr, rest, rfl, hup, hB1, hR1, hA1, hsz1⟩ := hcut
  have hTr : okT rest := okT_sub HT.out (by
    intro x hx
    have h2 := congrArg Prod.snd hup.out
    simp only at h2
    rw [← h2] at hx
    exact userP_mem _ x hx)
  have hrl : rest.length ≤ n := by
    have h2 := congrArg Prod.snd hup.out
    simp only at h2
    rw [← h2, HN.out, ← length_un]
    exact userP_len _
  obtain ⟨V, hV⟩ : ∃ V, V = ({ u with user := usr } : UrlP) := ⟨_, rfl⟩
  have hdef : Hid (placeV u (un a) = match hostPort rest with
    | none => none
    | some (nm, t) => placeT V nm t) := Lib.hid (by unfold placeV; rw [hup.out, hV]; rfl)
  have hVw : HostW V.host := by rw [hV]; exact hw
  rw [← hV] at hB1
  have HTR := Lib.hid hTr
  clear hbA hb0 hr0 hsz hu hw hV hup HU1 HU2 HT HN hsI hTr hlc
  have HP := Lib.hid (lib_hasPrefix (mk rest) 91 wc)
  rw [un_mk] at HP
  obtain ⟨br, hbr⟩ : ∃ br, br = decide (rest.head? = some 91) := ⟨_, rfl⟩
  rw [← hbr] at HP
  have HBR := Lib.hid hbr
  clear hbr
  go_wp2_with fail
  refine HP.out.mono ?_; rintro e w2 ⟨rfl, rfl⟩
  clear HP
  go_upto_if 29 with fail
  all_goals (try (exfalso; omega))
  go_cut [7, 8] (fun s7 s8 wx => ∃ nm tl, s7 = .string (mk nm) ∧ s8 = .string (mk tl) ∧ Hid (hostPort rest = some (nm, tl)) ∧ Hid (BlkL wx w.heap.size 62 (ucells V)) ∧ Hid (BlkL wx (w.heap.size + 1) 62 (ucells url0)) ∧ Hid (Below w.heap.size w wx) ∧ w.heap.size + 2 ≤ wx.heap.size)
  case first =>
    cases br
    · have hh := of_decide_eq_false HBR.out.symm
      have hI := lib_indexByte (mk rest) 58 wc
      rw [un_mk] at hI
      have hge := Lib.indexByte_ge rest 58
      have hlt := indexByte_lt 58 rest
      have hp1 := fun k => @hostPort_col rest k hh
      have hp2 := @hostPort_no rest hh
      obtain ⟨ix, hix⟩ : ∃ ix, ix = Lib.indexByte rest 58 := ⟨_, rfl⟩
      rw [← hix] at hI hge hlt hp2
      simp only [← hix] at hp1
      have HI := Lib.hid hI
      have HP1 := Lib.hid hp1
      have HP2 := Lib.hid hp2
      clear hI hix hp1 hp2 hh
      go_wp2_with fail
      refine HI.out.mono ?_; rintro e w3 ⟨rfl, rfl⟩
      by_cases h0 : ix < 0
      · have g1 : decide ((0 : Int) ≤ ix) = false := decide_eq_false (by omega)
        have HPF := Lib.hid (HP2.out h0)
        clear HP1 HP2 HI
        go_wp2
        all_goals (try (exfalso; omega))
        go_meet
        exact ⟨rest, [], rfl, rfl, HPF, hB1, hR1, hA1, hsz1⟩
      · obtain ⟨k, rfl⟩ : ∃ k : Nat, ix = k := ⟨ix.toNat, by omega⟩
        have g1 : decide ((0 : Int) ≤ (k : Int)) = true := decide_eq_true (by omega)
        have HPF := Lib.hid (HP1.out k rfl)
        have hsr : (mk rest).size = rest.length := size_mk rest
        have hI1 : (0 : Int) ≤ (k : Int) := by omega
        have hI2 : (k : Int) ≤ ((mk rest).size : Int) := by omega
        have hx1 := ext_to (mk rest) k
        have hx2 := ext_from (mk rest) k
        rw [un_mk] at hx1 hx2
        rw [hsr] at hx2
        clear HP1 HP2 HI
        go_upto_region 12 with fail
        all_goals (try (exfalso; omega))
        go_region_with (fail)
        all_goals
          go_wp2
          go_meet
          exact ⟨rest.take k, rest.drop k, rfl, by first | rfl | rw [hx2], HPF, Lib.hid hB1.out.drew, Lib.hid hR1.out.drew, Lib.hid (below_drewN hA1.out 1), hsz1⟩
    · have hh := of_decide_eq_true HBR.out.symm
      have hI := lib_indexByte (mk rest) 93 wc
      rw [un_mk] at hI
      have hge := Lib.indexByte_ge rest 93
      have hlt := indexByte_lt 93 rest
      have hp1 := fun k => @hostPort_br rest k hh
      have hp2 := @hostPort_bad rest hh
      obtain ⟨ix, hix⟩ : ∃ ix, ix = Lib.indexByte rest 93 := ⟨_, rfl⟩
      rw [← hix] at hI hge hlt hp2
      simp only [← hix] at hp1
      have HI := Lib.hid hI
      have HP1 := Lib.hid hp1
      have HP2 := Lib.hid hp2
      clear hI hix hp1 hp2 hh
      go_wp2_with fail
      refine HI.out.mono ?_; rintro e w3 ⟨rfl, rfl⟩
      by_cases h0 : ix < 0
      · have g1 : decide (ix < (0 : Int)) = true := decide_eq_true h0
        have hfin := hdef.out
        rw [HP2.out h0] at hfin
        have HFIN := Lib.hid hfin
        clear HP1 HP2 HI hfin
        go_wp2_with (first
          | refine wpList_store_row rfl 62 (.tmp 4) (.tmp 34) rfl (w.heap.size + 1) (ucells url0).toArray rfl rfl 62 _ hR1.out infoUrl rfl (all_one_of (uc_one url0)) ?_)
        all_goals (try (exfalso; omega))
        refine bodyPost_ret (results_ct rfl _ _ (w.heap.size + 1) 62 _ _ rfl (hR1.out.setRow (ucells url0)) Tryz.underlying62 rfl infoUrl) rfl ?_
        exact ⟨⟨url0, 4, rfl, .inr ⟨by decide, rfl, HFIN.out⟩⟩, below_setRow hA1.out (by omega) _⟩
      · obtain ⟨k, rfl⟩ : ∃ k : Nat, ix = k := ⟨ix.toNat, by omega⟩
        have g1 : decide ((k : Int) < (0 : Int)) = false := decide_eq_false (by omega)
        have HPF := Lib.hid (HP1.out k rfl)
        have hsr : (mk rest).size = rest.length := size_mk rest
        have hI1 : (0 : Int) ≤ (k : Int) + 1 := by omega
        have hI2 : (k : Int) + 1 ≤ ((mk rest).size : Int) := by omega
        have hw1 : IntKind.i64.wrap ((k : Int) + 1) = (k : Int) + 1 := by rw [IntKind.wrap_i64]; omega
        have hx1 := ext_to (mk rest) (k + 1)
        have hx2 := ext_from (mk rest) (k + 1)
        rw [un_mk] at hx1 hx2
        rw [hsr] at hx2
        clear HP1 HP2 HI
        go_upto_region 9 with fail
        all_goals (try (exfalso; omega))
        go_region_with (fail)
        all_goals
          go_wp2
          go_meet
          exact ⟨rest.take (k + 1), rest.drop (k + 1), rfl, by first | rfl | rw [hx2], HPF, Lib.hid hB1.out.drew, Lib.hid hR1.out.drew, Lib.hid (below_drewN hA1.out 1), hsz1⟩
  case rest =>
  obtain ⟨nm, tl, rfl, rfl, hpf, hB2, hR2, hA2, hsz2⟩ := hcut
  have hsub := hostPort_sub hpf.out
  have hTn : okT nm := okT_sub HTR.out hsub.1
  have hnl : nm.length ≤ n := by omega
  have htl : tl.length ≤ n := by omega
  have hd2 : Hid (placeV u (un a) = placeT V nm tl) := Lib.hid (by rw [hdef.out, hpf.out])
  clear hB1 hR1 hA1 hsz1 hpf hdef HTR hrl hsub HBR
  by_cases hbad : tl ≠ [] ∧ tl.head? ≠ some 58
  · have hfin := Lib.hid (hd2.out.trans (placeT_bad hbad))
    obtain ⟨b, r, rfl⟩ : ∃ b r, tl = b :: r := by
      cases tl with
      | nil => exact absurd rfl hbad.1
      | cons b r => exact ⟨b, r, rfl⟩
    have hb58 : b ≠ 58 := fun e => hbad.2 (by rw [e]; rfl)
    have e1 : ((mk (b :: r)).toList == ([] : Bs)) = false := by rw [toList_mk']; rfl
    have hpos : 0 < (mk (b :: r)).size := by rw [size_mk]; simp
    have c0 : (((mk (b :: r))[0]'hpos).toNat : Int) = (b.toNat : Int) := rfl
    have g1 : ((b.toNat : Int) != 58) = true := by
      simp
      intro e
      exact hb58 (UInt8.toNat_inj.1 (by show b.toNat = 58; omega))
    clear hbad hd2 hb58
    go_wp2_with (first
      | refine wpList_store_row rfl 62 (.tmp 4) (.tmp 60) rfl (w.heap.size + 1) (ucells url0).toArray rfl rfl 62 _ hR2.out infoUrl rfl (all_one_of (uc_one url0)) ?_)
    all_goals (try (exfalso; omega))
    refine bodyPost_ret (results_ct rfl _ _ (w.heap.size + 1) 62 _ _ rfl (hR2.out.setRow (ucells url0)) Tryz.underlying62 rfl infoUrl) rfl ?_
    exact ⟨⟨url0, 4, rfl, .inr ⟨by decide, rfl, hfin.out⟩⟩, below_setRow hA2.out (by omega) _⟩
  · have hgood : tl = [] ∨ tl.head? = some 58 := by
      by_cases h : tl = []
      · exact .inl h
      · exact .inr (Classical.byContradiction fun h2 => hbad ⟨h, h2⟩)
    have hd3 := Lib.hid (hd2.out.trans (placeT_ok hgood))
    have htp := fun W => lib_trimPrefix (mk tl) 58 W
    have htr : (if (un (mk tl)).head? = some 58 then (un (mk tl)).drop 1 else un (mk tl)) = tl.drop 1 := by
      rw [un_mk]
      rcases hgood with rfl | h
      · rfl
      · rw [if_pos h]
    rw [htr] at htp
    have hpar := h_parse (mk nm) wc (HBB.out.below hA2.out) (by rw [size_mk]; omega) (by rw [un_mk]; exact hTn)
    rw [un_mk] at hpar
    have HPAR := Lib.hid hpar
    have htest : (0 < tl.length ∧ ((mk tl).toList == ([] : Bs)) = false ∧ ∃ hp : 0 < (mk tl).size, (((mk tl)[0]'hp).toNat : Int) = 58) ∨ ((mk tl).toList == ([] : Bs)) = true := by
      rcases hgood with h | h
      · right; rw [h, toList_mk']; rfl
      · left
        cases tl with
        | nil => cases h
        | cons b r =>
          have hb : b = 58 := Option.some.inj h
          subst hb
          refine ⟨by simp, by rw [toList_mk']; rfl, by rw [size_mk]; simp, rfl⟩
    have ht1l : (tl.drop 1).length ≤ n := by rw [List.length_drop]; omega
    obtain ⟨t1, ht1⟩ : ∃ t1, t1 = tl.drop 1 := ⟨_, rfl⟩
    have hd3 : Hid (placeV u (un a) = match hostV nm with
      | none => none
      | some h => match portV t1 with
        | none => none
        | some p => some { V with host := h, port := if p = portD V.scheme then V.port else p }) := Lib.hid (by rw [ht1]; exact hd3.out)
    rw [← ht1] at ht1l htp
    have HTP := Lib.hid htp
    clear ht1
    have hport := portV_numR t1
    have hnum := fun W => u_number (mk t1) W (by rw [size_mk]; omega)
    simp only [un_mk] at hnum
    obtain ⟨⟨p, pok⟩, hp⟩ : ∃ p, p = numR t1 := ⟨_, rfl⟩
    rw [← hp] at hport
    simp only [← hp] at hnum hport
    have HNUM := Lib.hid hnum
    have HPORT := Lib.hid hport
    clear hbad hd2 hgood htp htr hpar hnum hport hp
    rcases htest with ⟨ht1, ht2, hp0, ht3⟩ | ht1
    all_goals
      go_wp2_with fail
      all_goals (try (exfalso; omega))
      refine HPAR.out.mono ?_; rintro e w3 ⟨⟨h, c, rfl, hres⟩, hb3⟩
      have hwh : HostW h := by
        rcases hres with ⟨_, h2⟩ | ⟨_, h2, _⟩
        · exact hostV_w h2
        · rw [h2]; exact host0_w
      have hs3 := hb3.size
      have HI := Lib.hid (infoHostOf hwh.1)
      have HIL := Lib.hid (show (Tryz.prog.info? 60).map (·.size) = some (hcells h).toArray.size from infoHostOf hwh.1)
      have HSZ := Lib.hid (show (hcells host0).toArray.size = (hcells h).toArray.size by rw [List.size_toArray, List.size_toArray, hc_len hwh.1]; rfl)
      have HN3 := Lib.hid (heap_alloc_new w3 (.cells (hcells host0).toArray 60))
      have hne1 : w.heap.size ≠ w3.heap.size := by omega
      have hne2 : w.heap.size + 1 ≠ w3.heap.size := by omega
      have HB4 := Lib.hid (((hB2.out.below (by omega) hb3).alloc (.cells (hcells host0).toArray 60)).setRow_other hne1 (hcells h).toArray)
      have HR4 := Lib.hid (((hR2.out.below (by omega) hb3).alloc (.cells (hcells host0).toArray 60)).setRow_other hne2 (hcells h).toArray)
      have HY4 := Lib.hid ((BlkL.new w3 60 (hcells host0)).setRow (hcells h))
      have HA4 := Lib.hid (below_setRow ((hA2.out.trans (hb3.mono hA2.out.size)).alloc (by omega) (.cells (hcells host0).toArray 60)) (show w.heap.size ≤ w3.heap.size by omega) (hcells h).toArray)
      obtain ⟨W4, hW4⟩ : ∃ W4, W4 = (w3.alloc (.cells (hcells host0).toArray 60)).setRow w3.heap.size (hcells h).toArray := ⟨_, rfl⟩
      rw [← hW4] at HB4 HR4 HY4 HA4
      have hs4 : W4.heap.size = w3.heap.size + 1 := by rw [hW4]; simp [World.setRow]
      have HW4 : Hid ((w3.alloc (.cells #[.int .i64 0, .string ⟨#[]⟩, .int .u32 0, .int .u16 0, .int .u16 0, .int .u16 0, .int .u16 0, .int .u16 0, .int .u16 0, .int .u16 0, .int .u16 0] 60)).setRow w3.heap.size (hcells h).toArray = W4) := Lib.hid hW4.symm
      clear hb3 HPAR hB2 hR2 hA2 hW4
      rcases hres with ⟨rfl, hok⟩ | ⟨hc, hh0, hno⟩
      · have hd4 := hd3.out
        rw [hok] at hd4
        have HD4 : Hid (placeV u (un a) = match portV t1 with
          | none => none
          | some p => some { V with host := h, port := if p = portD V.scheme then V.port else p }) := Lib.hid hd4
        clear hd4 hok hd3
        go_wp2_with (first
          | refine wpList_store_row rfl 60 (.tmp 11) (.tmp 64) rfl w3.heap.size (hcells h).toArray rfl rfl 60 _ HN3.out HI.out HSZ.out (all_one_of (hc_one h)) ?_)
        all_goals (try (exfalso; omega))
        rw [HW4.out]
        clear HW4 HN3
        refine (HTP.out _).mono ?_; rintro e w5 ⟨rfl, rfl⟩
        go_wp2_with fail
        all_goals (try (exfalso; omega))
        refine (HNUM.out _).mono ?_; rintro e w5 ⟨rfl, rfl⟩
        cases pok
        · have hfin : placeV u (un a) = none := by rw [HD4.out, HPORT.out]; rfl
          have HFIN := Lib.hid hfin
          clear hfin HD4 HPORT HTP HNUM
          go_wp2_with (first
            | refine wpList_store_row rfl 62 (.tmp 4) (.tmp 78) rfl (w.heap.size + 1) (ucells url0).toArray rfl rfl 62 _ HR4.out infoUrl rfl (all_one_of (uc_one url0)) ?_)
          all_goals (try (exfalso; omega))
          refine bodyPost_ret (results_ct rfl _ _ (w.heap.size + 1) 62 _ _ rfl (HR4.out.setRow (ucells url0)) Tryz.underlying62 rfl infoUrl) rfl ?_
          exact ⟨⟨url0, 16, rfl, .inr ⟨by decide, rfl, HFIN.out⟩⟩, below_setRow HA4.out (by omega) _⟩
        · have hfin : placeV u (un a) = some { V with host := h, port := if p = portD V.scheme then V.port else p } := by rw [HD4.out, HPORT.out]; rfl
          have HFIN := Lib.hid hfin
          have hdp := fun W => u_default (mk V.scheme) W
          simp only [un_mk] at hdp
          obtain ⟨D, hD⟩ : ∃ D, D = portD V.scheme := ⟨_, rfl⟩
          simp only [← hD] at hdp
          have HDP := Lib.hid hdp
          have HD := Lib.hid hD
          have h11 : (hcells h).length = 11 := hc_len hwh.1
          have HTH := Lib.hid (HB4.out.there 2 (hcells h).toArray.size (by rw [List.size_toArray, h11, uc_len hVw.1]; omega))
          have hB5 := BlkL.putCells (hcells h) 2 W4 _ HB4.out (by rw [h11, uc_len hVw.1]; omega)
          have e5 : (ucells V).take 2 ++ (hcells h ++ (ucells V).drop (2 + (hcells h).length)) = ucells { V with host := h } := by
            rw [h11]
            have : (ucells V).drop (2 + 11) = [.int .i64 V.port, .string (mk V.rest)] := by
              have e6 : ucells V = ([.string (mk V.scheme), .string (mk V.user)] ++ hcells V.host) ++ [.int .i64 V.port, .string (mk V.rest)] := by simp [ucells]
              rw [e6, List.drop_left' (by simp [hc_len hVw.1])]
            rw [this]
            rfl
          rw [e5] at hB5
          have hR5 := BlkL.putCells_other (k := w.heap.size) (by omega) (hcells h) 2 W4 HR4.out
          have HA5 := Lib.hid (below_setCells (Nat.le_refl w.heap.size) (hcells h) 2 W4 HA4.out)
          have c5 := hB5.c 0 _ rfl
          obtain ⟨W5, hW5⟩ : ∃ W5, W5 = W4.setCells w.heap.size 2 (hcells h) := ⟨_, rfl⟩
          have HW5 := Lib.hid hW5.symm
          rw [← hW5] at hB5 hR5 HA5
          have HIU := Lib.hid (infoUrlOf (u := { V with host := h }) hwh.1)
          have HSU := Lib.hid (show (ucells url0).toArray.size = (ucells { V with host := h }).toArray.size by rw [List.size_toArray, List.size_toArray, uc_len (u := { V with host := h }) hwh.1]; rfl)
          have HIU2 := Lib.hid (infoUrlOf (u := { V with host := h, port := p }) hwh.1)
          have HSU2 := Lib.hid (show (ucells url0).toArray.size = (ucells { V with host := h, port := p }).toArray.size by rw [List.size_toArray, List.size_toArray, uc_len (u := { V with host := h, port := p }) hwh.1]; rfl)
          clear hW5
          have HB5 := Lib.hid hB5
          have HR5 := Lib.hid hR5
          clear hfin HD4 HPORT HTP HNUM hB5 hR5 e5 hdp hD
          go_wp2_with (first
            | refine wpList_load_row rfl 60 (.tmp 11) rfl w3.heap.size rfl 60 _ _ _ HY4.out Tryz.underlying60 rfl HI.out ?_
            | refine wpList_store_mid rfl 60 (.tmp 80) (.tmp 79) rfl w.heap.size 2 (hcells h).toArray rfl rfl HTH.out HI.out (all_one_of (hc_one h)) ?_)
          all_goals (try (exfalso; omega))
          rw [HW5.out]
          refine (HDP.out _).mono ?_; rintro e w6 ⟨rfl, rfl⟩
          by_cases hpp : p = D
          · have g5 : (p != D) = false := by simpa using hpp
            have hf2 := HFIN.out
            rw [if_pos (hpp.trans HD.out)] at hf2
            have HF2 : Hid (placeV u (un a) = some { V with host := h }) := Lib.hid hf2
            clear hf2 HFIN hpp HW5
            go_wp2_with (first
              | refine wpList_load_row rfl 62 (.tmp 2) rfl w.heap.size rfl 62 _ _ _ HB5.out Tryz.underlying62 rfl HIU.out ?_
              | refine wpList_store_row rfl 62 (.tmp 4) (.tmp 88) rfl (w.heap.size + 1) (ucells { V with host := h }).toArray rfl rfl 62 _ HR5.out HIU.out HSU.out (all_one_of (uc_one _)) ?_)
            all_goals (try (exfalso; omega))
            refine bodyPost_ret (results_ct rfl _ _ (w.heap.size + 1) 62 _ _ rfl (HR5.out.setRow (ucells { V with host := h })) Tryz.underlying62 rfl HIU.out) rfl ?_
            exact ⟨⟨_, 0, rfl, .inl ⟨rfl, HF2.out⟩⟩, below_setRow HA5.out (by omega) _⟩
          · have g5 : (p != D) = true := by simpa using hpp
            have hf2 := HFIN.out
            rw [if_neg (fun e => hpp (e.trans HD.out.symm))] at hf2
            have HF2 : Hid (placeV u (un a) = some { V with host := h, port := p }) := Lib.hid hf2
            have f5 := HB5.out.f 13
            have d5 : W5.cell? ⟨w.heap.size, 13, none⟩ = some (.int .i64 V.port) := HB5.out.c 13 _ (by
              have e6 : ucells { V with host := h } = ([.string (mk V.scheme), .string (mk V.user)] ++ hcells h) ++ [.int .i64 V.port, .string (mk V.rest)] := by simp [ucells]
              rw [e6, List.getElem?_append_right (by simp [h11])]
              simp [h11])
            have hB6 := HB5.out.set 13 (by rw [uc_len (u := { V with host := h }) hwh.1]; omega) (.int .i64 p)
            have e7 : (ucells { V with host := h }).set 13 (.int .i64 p) = ucells { V with host := h, port := p } := by
              have e6 : ucells { V with host := h } = ([.string (mk V.scheme), .string (mk V.user)] ++ hcells h) ++ [.int .i64 V.port, .string (mk V.rest)] := by simp [ucells]
              rw [e6, List.set_append_right _ _ (by simp [h11])]
              simp [h11, ucells]
            rw [e7] at hB6
            have HB6 := Lib.hid hB6
            have HR6 := Lib.hid (HR5.out.other (p := w.heap.size) (by omega) 13 (.int .i64 p))
            have HA6 := Lib.hid (HA5.out.trans (below_setC W5 w.heap.size 13 (.int .i64 p) (Nat.le_refl _)))
            clear hf2 HFIN hpp HW5 hB6 e7
            go_wp2_with (first
              | refine wpList_load_row rfl 62 (.tmp 2) rfl w.heap.size rfl 62 _ _ _ HB6.out Tryz.underlying62 rfl HIU2.out ?_
              | refine wpList_store_row rfl 62 (.tmp 4) (.tmp 88) rfl (w.heap.size + 1) (ucells { V with host := h, port := p }).toArray rfl rfl 62 _ HR6.out HIU2.out HSU2.out (all_one_of (uc_one _)) ?_)
            all_goals (try (exfalso; omega))
            refine bodyPost_ret (results_ct rfl _ _ (w.heap.size + 1) 62 _ _ rfl (HR6.out.setRow (ucells { V with host := h, port := p })) Tryz.underlying62 rfl HIU2.out) rfl ?_
            exact ⟨⟨_, 0, rfl, .inl ⟨rfl, HF2.out⟩⟩, below_setRow HA6.out (by omega) _⟩
      · have hd4 := hd3.out
        rw [hno] at hd4
        have HFIN : Hid (placeV u (un a) = none) := Lib.hid hd4
        have g4 : (c != 0) = true := by simpa using hc
        have HC := Lib.hid hc
        clear hd4 hno hd3 hc HTP HNUM HPORT hh0
        go_upto_if 67 with (first
          | refine wpList_store_row rfl 60 (.tmp 11) (.tmp 64) rfl w3.heap.size (hcells h).toArray rfl rfl 60 _ HN3.out HI.out HSZ.out (all_one_of (hc_one h)) ?_)
        all_goals (try (exfalso; omega))
        rw [HW4.out]
        clear HW4 HN3
        go_wp2_with (first
          | refine wpList_store_row rfl 62 (.tmp 4) (.tmp 68) rfl (w.heap.size + 1) (ucells url0).toArray rfl rfl 62 _ HR4.out infoUrl rfl (all_one_of (uc_one url0)) ?_)
        all_goals (try (exfalso; omega))
        refine bodyPost_ret (results_ct rfl _ _ (w.heap.size + 1) 62 _ _ rfl (HR4.out.setRow (ucells url0)) Tryz.underlying62 rfl infoUrl) rfl ?_
        exact ⟨⟨url0, c, rfl, .inr ⟨HC.out, rfl, HFIN.out⟩⟩, below_setRow HA4.out (by omega) _⟩
end Go.Proofs.YtjbciamhhfcdoaaGreatDoor
