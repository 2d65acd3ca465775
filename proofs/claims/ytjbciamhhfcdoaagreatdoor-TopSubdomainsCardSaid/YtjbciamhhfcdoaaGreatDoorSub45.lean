/- The walk of Upgrade of URLs. Conditions: the host can be; ports are in range.
   The walks of Loopback and Trustworthy of the layer origin. Conditions: as Valid's of URLs.
   The walks of the layer destination (program and reference): they return the plain functions' answers. Conditions: the variable of names holds the names; strings are of bounded length. -/
import Derived.Test.YtjbciamhhfcdoaaGreatDoorSub44
import Derived.Test.YtjbciamhhfcdoaaGreatDoorSub39
import Derived.Test.YtjbciamhhfcdoaaGreatDoorRows
import Derived.Test.YtjbciamhhfcdoaaGreatDoorSub01
import Derived.Test.YtjbciamhhfcdoaaGreatDoorSub20
namespace Go.Proofs.YtjbciamhhfcdoaaGreatDoor
open Go.RowKit Go.Maps Hs
set_option linter.unusedSimpArgs false
set_option linter.unusedVariables false
theorem key_of (s : Bs) (hs : s.length ≤ maxLen) : keyOf Tryz.prog 9 (.string (mk s)) = some (.string s) := by rw [WideMaps.keyOf_string_mk Tryz.underlying9 (by rw [size_mk]; exact hs)]; exact congrArg some (congrArg Lit.string (un_mk s))
theorem key_http : keyOf Tryz.prog 9 (.string ⟨#[104, 116, 116, 112]⟩) = some (.string bHttp) := key_of bHttp (by simp [bHttp, maxLen])
theorem key_ws : keyOf Tryz.prog 9 (.string ⟨#[119, 115]⟩) = some (.string bWs) := key_of bWs (by simp [bWs, maxLen])
theorem wpList_insert_own {P : Program} (w : World) {ops : Array Oper} {rest : List Oper} {o : Oper} {a : Act} {Q : Exit → Act → World → Prop}
    (hg : o.guard = none) (m x v : Operand) (t : TypeId) (hop : o.op = Op.insert t m x v)
    (k e : TypeId) (K : Keyed P k) (ht : P.underlying t = some (.map k e)) (R : Value → Option (DataW Unit × List MemPlace)) (b n : Nat) (D : DataW Unit)
    (hm : a.eval m = .map (some b)) (hown : w.ownsMap P k R b n D) (hn : n < maxLen) (key val : Value) (kl : Lit) (hx : a.eval x = key) (hv : a.eval v = val) (hkey : keyOf P k key = some kl)
    (d : DataW Unit) (ps : List MemPlace) (hval : R val = some (d, ps))
    (hK : ∀ w', w'.ownsMap P k R b (n + 1) (D.put kl d) → w.grownBy w' (some b) → wpList P ops Q rest (a.put o.dst undef) w') :
    wpList P ops Q (o :: rest) a w := by
  refine wpList_plain hg fun K' hK' => ?_
  obtain ⟨w', hrun, r1, r2⟩ := hown.update K ht hn hkey hval
  unfold Oper.wp
  simp [execOp, hop, hm, hx, hv, hrun, Result.andThen]
  exact hK' _ _ (hK w' r1 r2)
set_option maxRecDepth 20000 in
set_option maxHeartbeats 4000000 in
theorem u_upgrade (u : UrlP) (w : World) (hw : HostW u.host) : Calls Tryz.prog 113 #[.agg (ucells u).toArray] w fun e w' => e = .returned (.agg (ucells (upgradeU u)).toArray) ∧ Below w.heap.size w w' := by
  obtain ⟨W0, hW0⟩ : ∃ W0, W0 = (w.alloc (.cells (ucells u).toArray 62)).alloc (.cells (ucells url0).toArray 62) := ⟨_, rfl⟩
  have hbA : Below w.heap.size w W0 := by rw [hW0]; exact ((Below.refl _ w).alloc (Nat.le_refl _) _).alloc (by simp) _
  have hb0 : BlkL W0 w.heap.size 62 (ucells u) := by rw [hW0]; exact (BlkL.new w _ _).alloc _
  have hr0 : BlkL W0 (w.heap.size + 1) 62 (ucells url0) := by
    rw [hW0]
    have := BlkL.new (w.alloc (.cells (ucells u).toArray 62)) 62 (ucells url0)
    simpa using this
  have HW0 : Hid ((w.alloc (.cells (ucells u).toArray 62)).alloc (.cells #[.string ⟨#[]⟩, .string ⟨#[]⟩, .int .i64 0, .string ⟨#[]⟩, .int .u32 0, .int .u16 0, .int .u16 0, .int .u16 0, .int .u16 0, .int .u16 0, .int .u16 0, .int .u16 0, .int .u16 0, .int .i64 0, .string ⟨#[]⟩] 62) = W0) := Lib.hid hW0.symm
  have hsz : W0.heap.size = w.heap.size + 2 := by rw [hW0]; simp
  have HI0 := Lib.hid (infoUrlOf hw.1)
  have HSZ0 := Lib.hid (show (ucells url0).toArray.size = (ucells u).toArray.size by rw [List.size_toArray, List.size_toArray, uc_len hw.1]; rfl)
  have HIN := Lib.hid (u_insecure u W0)
  have HBA := Lib.hid hbA
  have HB0 := Lib.hid hb0
  have HR0 := Lib.hid hr0
  have hmm := @run_makeMap Tryz.prog
  clear hW0 hbA hb0 hr0
  have hn1 := @upgradeU_no u
  have hn2 := @upgradeU_yes u
  by_cases h80 : portD u.scheme = 80
  · have hup := hn2 h80
    have hin := HIN.out
    rw [decide_eq_true h80] at hin
    have HIN2 := Lib.hid hin
    have hsch : u.scheme = bHttp ∨ u.scheme = bWs := by
      have := portD_cases u.scheme
      rcases this with ⟨_, h⟩ | ⟨h, _⟩ | ⟨h, _⟩
      · exact h
      · omega
      · omega
    have HSCH := Lib.hid hsch
    have HUP := Lib.hid hup
    clear hin HIN hn1 hn2 h80 hup hsch
    go_enter Tryz.func113, Tryz.ntmps113
    go_upto_region 1 with fail
    rw [HW0.out]
    clear HW0
    go_wp2_with (refine wpList_load_row rfl 62 (.tmp 1) rfl w.heap.size rfl 62 _ _ _ HB0.out Tryz.underlying62 rfl HI0.out ?_)
    refine HIN2.out.mono ?_; rintro e w1 ⟨rfl, hb1⟩
    have hs1 := hb1.size
    have HB1 := Lib.hid (HB0.out.below (by omega) hb1)
    have HR1 := Lib.hid (HR0.out.below (by omega) hb1)
    have HA1 := Lib.hid (HBA.out.trans (hb1.mono (by omega)))
    clear hb1 HIN2 HB0 HR0 HBA
    go_upto_region 4 with (first
      | (refine wpList_insert_own _ rfl _ _ _ 193 rfl 9 9 str_key Tryz.underlying193 strElem w1.heap.size 0 (.map []) rfl (World.ownsMap_made w1 _ _ _) (by decide) _ _ (.string bHttp) rfl rfl key_http (.lit (.string bHttps)) [] rfl ?_; intro w2 hown2 hgrow2)
      | (refine wpList_insert_own _ rfl _ _ _ 193 rfl 9 9 str_key Tryz.underlying193 strElem w1.heap.size 1 mapU1 rfl hown2 (by decide) _ _ (.string bWs) rfl rfl key_ws (.lit (.string bWss)) [] rfl ?_; intro w3 hown3 hgrow3; have c3 := (((HB1.out.alloc (.map #[] 0)).grown hgrow2 (by simp; omega)).grown hgrow3 (by simp; omega)).c 0 _ (uc_get u).1; have f3 := (((HB1.out.alloc (.map #[] 0)).grown hgrow2 (by simp; omega)).grown hgrow3 (by simp; omega)).f 0)
      | (refine wpList_lookup_up rfl _ _ rfl w1.heap.size 2 rfl hown3 u.scheme rfl HSCH.out ?_))
    all_goals (try (exfalso; omega))
    have hb3 := ((HB1.out.alloc (.map #[] 0)).grown hgrow2 (by simp; omega)).grown hgrow3 (by simp; omega)
    have hr3 := ((HR1.out.alloc (.map #[] 0)).grown hgrow2 (by simp; omega)).grown hgrow3 (by simp; omega)
    have hsa : w1.heap.size + 1 ≤ w2.heap.size := by have := hgrow2.size; simpa using this
    have hA3 := ((HA1.out.alloc (by omega) (.map #[] 0)).grown hgrow2 (by simp; omega) (fun k hk => by cases hk; omega)).grown hgrow3 (by omega) (fun k hk => by cases hk; omega)
    have hb5 := hb3.set 0 (by rw [uc_len hw.1]; omega) (.string (mk (upScheme u.scheme)))
    have hr5 := hr3.other (p := w.heap.size) (by omega) 0 (.string (mk (upScheme u.scheme)))
    have hA5 := hA3.trans (below_setC w3 w.heap.size 0 (.string (mk (upScheme u.scheme))) (Nat.le_refl _))
    have e5 : (ucells u).set 0 (.string (mk (upScheme u.scheme))) = ucells { u with scheme := upScheme u.scheme } := rfl
    rw [e5] at hb5
    have hs5 : (w3.setCell ⟨w.heap.size, 0, none⟩ (.string (mk (upScheme u.scheme)))).heap.size = w3.heap.size := by simp
    have hs3 : w.heap.size + 2 ≤ w3.heap.size := by have := hgrow3.size; omega
    generalize w3.setCell ⟨w.heap.size, 0, none⟩ (.string (mk (upScheme u.scheme))) = W5 at *
    obtain ⟨us, hus⟩ : ∃ us, us = upScheme u.scheme := ⟨_, rfl⟩
    have hup2 := HUP.out
    rw [← hus] at hup2
    simp only [← hus] at hb5 ⊢
    have hd := fun W => u_default (mk us) W
    simp only [un_mk] at hd
    obtain ⟨D, hD⟩ : ∃ D, D = portD us := ⟨_, rfl⟩
    simp only [← hD] at hd hup2
    have HD := Lib.hid hd
    have HUP2 := Lib.hid hup2
    have d0 := hb5.c 0 _ rfl
    have g2 := uc_get2 { u with scheme := us } hw.1
    have d13 := hb5.c 13 _ g2.1
    have f13 := hb5.f 13
    simp only at d13
    have HB5 := Lib.hid hb5
    have HR5 := Lib.hid hr5
    have HA5 := Lib.hid hA5
    clear hb3 hr3 hA3 hb5 hr5 hA5 hd hD hus hup2 HUP hgrow2 hgrow3 hown2 hown3 c3 f3 e5 hs5 hsa HB1 HR1 HA1 hmm g2 HSCH
    refine wp_region_quiet_lit (by kernel_rfl) (by kernel_rfl) ?_
    repeat (go_big_quiet_step (fail))
    go_big_quiet_want
    go_big_quiet_op
    apply Exists.intro
    refine ⟨fun _ => ?_, ?_⟩
    · exact Calls.quiet_of_same ((HD.out _).mono (fun _ _ h => ⟨h.1, h.2.symm⟩))
    go_big_quiet_on
    repeat (go_big_quiet_step (fail))
    refine wpQuiet_nil ?_
    intro _ hw'
    obtain ⟨nq, hw''⟩ := hw'
    subst hw''
    have hb6 := HB5.out.drewN nq
    have hr6 := HR5.out.drewN nq
    have hA6 := below_drewN HA5.out nq
    generalize W5.drewN nq = W6 at *
    have f13 := hb6.f 13
    have d13 := hb6.c 13 _ (uc_get2 { u with scheme := us } hw.1).1
    by_cases hpd : u.port = D
    · have g5 : (u.port == D) = true := by simpa using hpd
      have hup3 := HUP2.out
      rw [if_pos hpd] at hup3
      have hb7 := hb6.set 13 (by rw [uc_len (u := { u with scheme := us }) hw.1]; omega) (.int .i64 (-1))
      have e7 : (ucells { u with scheme := us }).set 13 (.int .i64 (-1)) = ucells ⟨us, u.user, u.host, -1, u.rest⟩ := by
        have h11 := hc_len hw.1
        have e6 : ucells { u with scheme := us } = ([.string (mk us), .string (mk u.user)] ++ hcells u.host) ++ [.int .i64 u.port, .string (mk u.rest)] := by simp [ucells]
        rw [e6, List.set_append_right _ _ (by simp [h11])]
        simp [h11, ucells]
      rw [e7] at hb7
      have HB7 := Lib.hid hb7
      have HR7 := Lib.hid (hr6.other (p := w.heap.size) (by omega) 13 (.int .i64 (-1)))
      have HA7 := Lib.hid (hA6.trans (below_setC W6 w.heap.size 13 (.int .i64 (-1)) (Nat.le_refl _)))
      have HI7 := Lib.hid (infoUrlOf (u := ⟨us, u.user, u.host, -1, u.rest⟩) hw.1)
      have HS7 := Lib.hid (show (ucells url0).toArray.size = (ucells ⟨us, u.user, u.host, -1, u.rest⟩).toArray.size by rw [List.size_toArray, List.size_toArray, uc_len (u := ⟨us, u.user, u.host, -1, u.rest⟩) hw.1]; rfl)
      have HUP3 := Lib.hid hup3
      clear hup3 hb7 e7 hpd HUP2 hb6 hr6 hA6
      go_wp2_with (first
        | refine wpList_load_row rfl 62 (.tmp 1) rfl w.heap.size rfl 62 _ _ _ HB7.out Tryz.underlying62 rfl HI7.out ?_
        | refine wpList_store_row rfl 62 (.tmp 2) (.tmp 20) rfl (w.heap.size + 1) (ucells ⟨us, u.user, u.host, -1, u.rest⟩).toArray rfl rfl 62 _ HR7.out HI7.out HS7.out (all_one_of (uc_one _)) ?_)
      all_goals (try (exfalso; omega))
      refine bodyPost_ret (results_cell_row rfl _ _ (w.heap.size + 1) 62 _ _ _ rfl (HR7.out.setRow (ucells ⟨us, u.user, u.host, -1, u.rest⟩)) Tryz.underlying62 rfl HI7.out) rfl ?_
      rw [HUP3.out]
      exact ⟨rfl, below_setRow HA7.out (by omega) _⟩
    · have g5 : (u.port == D) = false := by simpa using hpd
      have hup3 := HUP2.out
      rw [if_neg hpd] at hup3
      have HB7 : Hid (BlkL W6 w.heap.size 62 (ucells ⟨us, u.user, u.host, u.port, u.rest⟩)) := Lib.hid hb6
      have HR7 := Lib.hid hr6
      have HA7 := Lib.hid hA6
      have HI7 := Lib.hid (infoUrlOf (u := ⟨us, u.user, u.host, u.port, u.rest⟩) hw.1)
      have HS7 := Lib.hid (show (ucells url0).toArray.size = (ucells ⟨us, u.user, u.host, u.port, u.rest⟩).toArray.size by rw [List.size_toArray, List.size_toArray, uc_len (u := ⟨us, u.user, u.host, u.port, u.rest⟩) hw.1]; rfl)
      have HUP3 := Lib.hid hup3
      clear hup3 hpd HUP2 hb6 hr6 hA6
      go_wp2_with (first
        | refine wpList_load_row rfl 62 (.tmp 1) rfl w.heap.size rfl 62 _ _ _ HB7.out Tryz.underlying62 rfl HI7.out ?_
        | refine wpList_store_row rfl 62 (.tmp 2) (.tmp 20) rfl (w.heap.size + 1) (ucells ⟨us, u.user, u.host, u.port, u.rest⟩).toArray rfl rfl 62 _ HR7.out HI7.out HS7.out (all_one_of (uc_one _)) ?_)
      all_goals (try (exfalso; omega))
      refine bodyPost_ret (results_cell_row rfl _ _ (w.heap.size + 1) 62 _ _ _ rfl (HR7.out.setRow (ucells ⟨us, u.user, u.host, u.port, u.rest⟩)) Tryz.underlying62 rfl HI7.out) rfl ?_
      rw [HUP3.out]
      exact ⟨rfl, below_setRow HA7.out (by omega) _⟩
  · have hup := hn1 h80
    have hin := HIN.out
    rw [decide_eq_false h80] at hin
    have HIN2 := Lib.hid hin
    have HUP := Lib.hid hup
    clear hin HIN hn1 hn2 h80 hup hmm
    go_enter Tryz.func113, Tryz.ntmps113
    go_upto_region 1 with fail
    rw [HW0.out]
    clear HW0
    go_wp2_with (refine wpList_load_row rfl 62 (.tmp 1) rfl w.heap.size rfl 62 _ _ _ HB0.out Tryz.underlying62 rfl HI0.out ?_)
    refine HIN2.out.mono ?_; rintro e w1 ⟨rfl, hb1⟩
    have HB1 := Lib.hid (HB0.out.below (by omega) hb1)
    have HR1 := Lib.hid (HR0.out.below (by omega) hb1)
    have HA1 := Lib.hid (HBA.out.trans (hb1.mono (by omega)))
    clear hb1 HIN2 HB0 HR0 HBA
    go_wp2_with (first
      | refine wpList_load_row rfl 62 (.tmp 1) rfl w.heap.size rfl 62 _ _ _ HB1.out Tryz.underlying62 rfl HI0.out ?_
      | refine wpList_store_row rfl 62 (.tmp 2) (.tmp 6) rfl (w.heap.size + 1) (ucells u).toArray rfl rfl 62 _ HR1.out HI0.out HSZ0.out (all_one_of (uc_one u)) ?_)
    all_goals (try (exfalso; omega))
    refine bodyPost_ret (results_cell_row rfl _ _ (w.heap.size + 1) 62 _ _ _ rfl (HR1.out.setRow (ucells u)) Tryz.underlying62 rfl HI0.out) rfl ?_
    rw [HUP.out]
    exact ⟨rfl, below_setRow HA1.out (by omega) _⟩
end Go.Proofs.YtjbciamhhfcdoaaGreatDoor
namespace Hs
open Go
theorem list_beq (a b : Bs) : (a == b) = decide (a = b) := by by_cases h : a = b <;> simp [h]
theorem loopV_no {h : HostP} (hv : hostOk h = false) : loopV h = false := by unfold loopV; rw [hv]; rfl
theorem loopV_1 {n : Bs} {v : Nat} {x : List Nat} (hv : hostOk ⟨1, n, v, x⟩ = true) : loopV ⟨1, n, v, x⟩ = coversV bLocal n := by unfold loopV; rw [hv]; rfl
theorem loopV_2 {n : Bs} {v : Nat} {x : List Nat} (hv : hostOk ⟨2, n, v, x⟩ = true) : loopV ⟨2, n, v, x⟩ = decide (v / 16777216 = 127) := by unfold loopV; rw [hv]; rfl
theorem loopV_3 {n : Bs} {v : Nat} {x : List Nat} (hv : hostOk ⟨3, n, v, x⟩ = true) : loopV ⟨3, n, v, x⟩ = decide (x = [0, 0, 0, 0, 0, 0, 0, 1]) := by unfold loopV; rw [hv]; rfl
theorem trustV_no {u : UrlP} (h : validU u = false) : trustV u = false := by unfold trustV; rw [h]; rfl
theorem trustV_sec {u : UrlP} (h : validU u = true) (hs : u.scheme = bHttps ∨ u.scheme = bWss ∨ u.scheme = bFile) : trustV u = true := by unfold trustV; rw [h, if_pos hs]; rfl
theorem trustV_about {u : UrlP} (h : validU u = true) (hs : u.scheme = bAbout) : trustV u = decide (u.rest = bBlank ∨ u.rest = bSrcdoc) := by
  unfold trustV
  rw [h, if_neg (by rw [hs]; decide), if_pos hs]
  rfl
theorem trustV_rest {u : UrlP} (h : validU u = true) (h1 : ¬ (u.scheme = bHttps ∨ u.scheme = bWss ∨ u.scheme = bFile)) (h2 : u.scheme ≠ bAbout) : trustV u = (decide (0 < portD u.scheme) && loopV u.host) := by
  unfold trustV
  rw [h, if_neg h1, if_neg h2]
  rfl
end Hs
namespace Go.Proofs.YtjbciamhhfcdoaaGreatDoor
open Go.RowKit Hs
set_option linter.unusedSimpArgs false
set_option linter.unusedVariables false
set_option maxRecDepth 20000 in
set_option maxHeartbeats 4000000 in
theorem o_loopback (h : HostP) (w : World) (hB : Base w) (hw : HostW h) (hn : h.name.length ≤ 100000) : Calls Tryz.prog 87 #[.agg (hcells h).toArray] w fun e w' => e = .returned (.bool (loopV h)) ∧ Below w.heap.size w w' := by
  obtain ⟨W0, hW0⟩ : ∃ W0, W0 = w.alloc (.cells (hcells h).toArray 60) := ⟨_, rfl⟩
  have hbA : Below w.heap.size w W0 := by rw [hW0]; exact (Below.refl _ w).alloc (Nat.le_refl _) _
  have hb0 : BlkL W0 w.heap.size 60 (hcells h) := by rw [hW0]; exact BlkL.new w _ _
  have HW0 : Hid (w.alloc (.cells (hcells h).toArray 60) = W0) := Lib.hid hW0.symm
  have hsz : W0.heap.size = w.heap.size + 1 := by rw [hW0]; simp
  have HV := Lib.hid (h_valid h W0 (hB.below hbA) hw hn)
  have HI := Lib.hid (infoHostOf hw.1)
  have HB0 := Lib.hid hb0
  have HBB := Lib.hid hB
  clear hW0 hB
  go_enter Tryz.func87, Tryz.ntmps87
  go_upto_region 1 with fail
  rw [HW0.out]
  clear HW0
  go_wp2_with (refine wpList_load_row rfl 60 (.tmp 1) rfl w.heap.size rfl 60 _ _ _ HB0.out Tryz.underlying60 rfl HI.out ?_)
  refine HV.out.mono ?_; rintro e w1 ⟨rfl, hb1⟩
  have HALL := Lib.hid (hbA.trans (hb1.mono (by omega)))
  have hb2 := hb0.below (by omega) hb1
  clear hb1 HB0 hb0 HV hbA
  obtain ⟨ok, hok⟩ : ∃ ok, ok = hostOk h := ⟨_, rfl⟩
  rw [← hok]
  cases ok
  · have hfin := Lib.hid (loopV_no hok.symm)
    clear hok
    go_wp2
    go_ret
    rw [hfin.out]
    exact ⟨rfl, HALL.out⟩
  · obtain ⟨kind, name, v4, v6⟩ := h
    simp only at hn
    have c0 := hb2.c 0 _ (hc_get _).1
    have c1 := hb2.c 1 _ (hc_get _).2.1
    have c2 := hb2.c 2 _ (hc_get _).2.2.1
    simp only at c0 c1 c2
    rcases hostOk_kind hok.symm with rfl | rfl | rfl
    · have hfin := Lib.hid (loopV_1 hok.symm)
      have hcv := h_covers ⟨#[108, 111, 99, 97, 108, 104, 111, 115, 116]⟩ (mk name) w1 (HBB.out.below HALL.out) (by decide) (by rw [size_mk]; omega)
      rw [un_mk] at hcv
      have HC := Lib.hid hcv
      clear hok hb2 hcv
      go_wp2_with fail
      refine HC.out.mono ?_; rintro e w2 ⟨rfl, hb3⟩
      go_wp2
      go_ret
      rw [hfin.out]
      exact ⟨rfl, HALL.out.trans (hb3.mono (by have := HALL.out.size; omega))⟩
    · have hfin := Lib.hid (loopV_2 hok.symm)
      have hv4 := hw.2.2
      simp only at hv4
      have e1 : (v4 : Int) / 16777216 = ((v4 / 16777216 : Nat) : Int) := by omega
      obtain ⟨b, hb⟩ : ∃ b, b = decide (v4 / 16777216 = 127) := ⟨_, rfl⟩
      rw [← hb] at hfin
      have e2 : ((v4 : Int) / 16777216 == 127) = b := by
        rw [hb, e1]
        by_cases h : v4 / 16777216 = 127
        · rw [h]; rfl
        · rw [decide_eq_false h]; simp; omega
      clear hok hb2 hb e1 hv4
      go_wp2
      all_goals (try (exfalso; omega))
      go_ret
      rw [hfin.out]
      exact ⟨rfl, HALL.out⟩
    · have hfin := Lib.hid (loopV_3 hok.symm)
      have HR := Lib.hid (hb2.range 3 (gcells v6) (fun j v hj => by rw [(hc_get _).2.2.2 j]; exact hj))
      have HIA := Lib.hid (show (Tryz.prog.info? 58).map (·.size) = some (gcells v6).length by rw [infoArr8, length_gcells, hw.1])
      have hq : ∀ W, (Op.equalIn 10000 58 (.agg (gcells v6).toArray) (.agg #[.int .u16 0, .int .u16 0, .int .u16 0, .int .u16 0, .int .u16 0, .int .u16 0, .int .u16 0, .int .u16 1])).run Tryz.prog W = .ok (decide (v6 = [0, 0, 0, 0, 0, 0, 0, 1])) W := arr8_eq v6 [0, 0, 0, 0, 0, 0, 0, 1] hw.1 rfl
      obtain ⟨b, hb⟩ : ∃ b, b = decide (v6 = [0, 0, 0, 0, 0, 0, 0, 1]) := ⟨_, rfl⟩
      rw [← hb] at hfin hq
      clear hok hb2 hb
      go_wp2_with (refine wpList_load_mid rfl 58 (.tmp 16) rfl w.heap.size 3 rfl (gcells v6) _ HR.out Tryz.underlying58 rfl HIA.out ?_)
      all_goals (try (exfalso; omega))
      go_ret
      rw [hfin.out]
      exact ⟨rfl, HALL.out⟩
set_option maxRecDepth 20000 in
set_option maxHeartbeats 4000000 in
theorem o_trust (u : UrlP) (w : World) (hB : Base6 w) (hw : HostW u.host) (hb : UrlB u) (hT : okT (textU u)) : Calls Tryz.prog 48 #[.agg (ucells u).toArray] w fun e w' => e = .returned (.bool (trustV u)) ∧ Below w.heap.size w w' := by
  obtain ⟨W0, hW0⟩ : ∃ W0, W0 = w.alloc (.cells (ucells u).toArray 62) := ⟨_, rfl⟩
  have hbA : Below w.heap.size w W0 := by rw [hW0]; exact (Below.refl _ w).alloc (Nat.le_refl _) _
  have hb0 : BlkL W0 w.heap.size 62 (ucells u) := by rw [hW0]; exact BlkL.new w _ _
  have HW0 : Hid (w.alloc (.cells (ucells u).toArray 62) = W0) := Lib.hid hW0.symm
  have hsz : W0.heap.size = w.heap.size + 1 := by rw [hW0]; simp
  have HV := Lib.hid (u_valid u W0 (hB.below hbA) hw hb hT)
  have HI0 := Lib.hid (infoUrlOf hw.1)
  have HB0 := Lib.hid hb0
  have HBA := Lib.hid hbA
  have HBB := Lib.hid hB
  have hn := hb.2.2.1
  clear hW0 hbA hb0 hB hT hb
  go_enter Tryz.func48, Tryz.ntmps48
  go_upto_region 1 with fail
  rw [HW0.out]
  clear HW0
  go_wp2_with (refine wpList_load_row rfl 62 (.tmp 1) rfl w.heap.size rfl 62 _ _ _ HB0.out Tryz.underlying62 rfl HI0.out ?_)
  refine HV.out.mono ?_; rintro e w1 ⟨rfl, hb1⟩
  have hb2 := HB0.out.below (by omega) hb1
  have HA1 := Lib.hid (HBA.out.trans (hb1.mono (by omega)))
  clear hb1 HV HB0 HBA
  obtain ⟨ok, hok⟩ : ∃ ok, ok = validU u := ⟨_, rfl⟩
  rw [← hok]
  cases ok
  · have hfin := Lib.hid (trustV_no hok.symm)
    clear hok
    go_wp2
    go_ret
    rw [hfin.out]
    exact ⟨rfl, HA1.out⟩
  · have c0 := hb2.c 0 _ (uc_get u).1
    have e1 : ((mk u.scheme).toList == ([104, 116, 116, 112, 115] : Bs)) = decide (u.scheme = bHttps) := by rw [toList_mk']; exact list_beq _ _
    have e2 : ((mk u.scheme).toList == ([119, 115, 115] : Bs)) = decide (u.scheme = bWss) := by rw [toList_mk']; exact list_beq _ _
    have e3 : ((mk u.scheme).toList == ([102, 105, 108, 101] : Bs)) = decide (u.scheme = bFile) := by rw [toList_mk']; exact list_beq _ _
    have e4 : ((mk u.scheme).toList == ([97, 98, 111, 117, 116] : Bs)) = decide (u.scheme = bAbout) := by rw [toList_mk']; exact list_beq _ _
    by_cases h1 : u.scheme = bHttps
    · have hfin := Lib.hid (trustV_sec hok.symm (.inl h1))
      rw [decide_eq_true h1] at e1
      clear hok h1 e2 e3 e4
      go_wp2
      go_ret
      rw [hfin.out]
      exact ⟨rfl, HA1.out⟩
    · rw [decide_eq_false h1] at e1
      by_cases h2 : u.scheme = bWss
      · have hfin := Lib.hid (trustV_sec hok.symm (.inr (.inl h2)))
        rw [decide_eq_true h2] at e2
        clear hok h1 h2 e3 e4
        go_wp2
        go_ret
        rw [hfin.out]
        exact ⟨rfl, HA1.out⟩
      · rw [decide_eq_false h2] at e2
        by_cases h3 : u.scheme = bFile
        · have hfin := Lib.hid (trustV_sec hok.symm (.inr (.inr h3)))
          rw [decide_eq_true h3] at e3
          clear hok h1 h2 h3 e4
          go_wp2
          go_ret
          rw [hfin.out]
          exact ⟨rfl, HA1.out⟩
        · rw [decide_eq_false h3] at e3
          by_cases h4 : u.scheme = bAbout
          · have hfin := Lib.hid (trustV_about hok.symm h4)
            rw [decide_eq_true h4] at e4
            have c14 := hb2.c 14 _ (uc_get2 u hw.1).2.1
            have q1 : ((mk u.rest).toList == ([98, 108, 97, 110, 107] : Bs)) = decide (u.rest = bBlank) := by rw [toList_mk']; exact list_beq _ _
            have q2 : ((mk u.rest).toList == ([115, 114, 99, 100, 111, 99] : Bs)) = decide (u.rest = bSrcdoc) := by rw [toList_mk']; exact list_beq _ _
            obtain ⟨r1, hr1⟩ : ∃ r1, r1 = decide (u.rest = bBlank) := ⟨_, rfl⟩
            obtain ⟨r2, hr2⟩ : ∃ r2, r2 = decide (u.rest = bSrcdoc) := ⟨_, rfl⟩
            have hor : decide (u.rest = bBlank ∨ u.rest = bSrcdoc) = (r1 || r2) := by rw [hr1, hr2, Bool.decide_or]
            rw [hor] at hfin
            rw [← hr1] at q1
            rw [← hr2] at q2
            clear hok h1 h2 h3 h4 hr1 hr2 hor
            cases r1
            all_goals
              go_wp2
              all_goals (try (exfalso; omega))
              go_ret
              rw [hfin.out]
              exact ⟨by first | rfl | simp, HA1.out⟩
          · have hfin := Lib.hid (trustV_rest hok.symm (by rintro (h | h | h) <;> contradiction) h4)
            rw [decide_eq_false h4] at e4
            have hsp := fun W => u_special (mk u.scheme) W
            simp only [un_mk] at hsp
            have HLB := Lib.hid (o_loopback u.host w1 (HBB.out.1.below HA1.out) hw (by omega))
            obtain ⟨sp, hs⟩ : ∃ sp, sp = decide (0 < portD u.scheme) := ⟨_, rfl⟩
            rw [← hs] at hfin
            simp only [← hs] at hsp
            have HSP := Lib.hid hsp
            clear hok h1 h2 h3 h4 hs hsp
            go_wp2_with fail
            all_goals (try (exfalso; omega))
            refine (HSP.out _).mono ?_; rintro e w2 ⟨rfl, rfl⟩
            cases sp
            · go_wp2
              all_goals (try (exfalso; omega))
              go_ret
              rw [hfin.out]
              exact ⟨rfl, HA1.out⟩
            · obtain ⟨sc, us, ⟨kd, nm, va, v6⟩, pt, rs⟩ := u
              obtain ⟨a, b, c, d, e, f, g, i, rfl⟩ := len8 hw.1
              have c2 := hb2.c 2 _ rfl
              have c3 := hb2.c 3 _ rfl
              have c4 := hb2.c 4 _ rfl
              have c5 := hb2.c 5 _ rfl
              have c6 := hb2.c 6 _ rfl
              have c7 := hb2.c 7 _ rfl
              have c8 := hb2.c 8 _ rfl
              have c9 := hb2.c 9 _ rfl
              have c10 := hb2.c 10 _ rfl
              have c11 := hb2.c 11 _ rfl
              have c12 := hb2.c 12 _ rfl
              go_wp2_with fail
              all_goals (try (exfalso; omega))
              refine HLB.out.mono ?_; rintro e w2 ⟨rfl, hb3⟩
              go_wp2
              all_goals (try (exfalso; omega))
              go_ret
              rw [hfin.out]
              exact ⟨by simp, HA1.out.trans (hb3.mono (by have := HA1.out.size; omega))⟩
end Go.Proofs.YtjbciamhhfcdoaaGreatDoor
namespace Go.Proofs.YtjbciamhhfcdoaaGreatDoor
open Go.RowKit Hs
set_option linter.unusedSimpArgs false
set_option linter.unusedVariables false

theorem dest_valid (d : Int) (w : World) : Calls Tryz.prog 72 #[.int .i64 d] w fun e w' => e = .returned (.bool (validB d)) ∧ w = w' := by
  go_enter Tryz.func72, Tryz.ntmps72
  go_wp2
  all_goals
    go_ret
    refine ⟨ret_bool ?_, rfl⟩
    first | (refine btrue ?_; omega) | (refine bfalse ?_; omega) | (refine bdec ?_; omega) | (refine beqdec ?_; omega) | (refine bnedec ?_; omega)
theorem ref27_valid (d : Int) (w : World) : Calls Tryz.prog 20 #[.int .i64 d] w fun e w' => e = .returned (.bool (validB d)) ∧ w = w' := by
  go_enter Tryz.func20, Tryz.ntmps20
  go_wp2
  all_goals
    go_ret
    refine ⟨ret_bool ?_, rfl⟩
    first | (refine btrue ?_; omega) | (refine bfalse ?_; omega) | (refine bdec ?_; omega) | (refine beqdec ?_; omega) | (refine bnedec ?_; omega)

set_option maxHeartbeats 800000 in
theorem dest_category (d : Int) (b : Bool) (w : World) : Calls Tryz.prog 114 #[.int .i64 d, .bool b] w fun e w' => e = .returned (.int .i64 (catOf d b)) ∧ w = w' := by
  cases hv : validB d
  · have hr := Lib.hid (of_decide_eq_false hv)
    cases b
    all_goals
      go_enter Tryz.func114, Tryz.ntmps114
      go_wp2_with (go_at_call 72; refine (dest_valid _ _).mono ?_; rintro e w' ⟨rfl, rfl⟩)
      all_goals
        go_ret
        refine ⟨ret_int ?_, rfl⟩
        have hr' := hr.out
        (try simp only [beq_iff_eq, beq_eq_false_iff_ne, ne_eq] at *)
        first | (refine cat_false _ _ ?_; omega) | (refine cat_true _ _ ?_; omega)
  · have hr := Lib.hid (of_decide_eq_true hv)
    cases b
    all_goals
      go_enter Tryz.func114, Tryz.ntmps114
      go_wp2_with (go_at_call 72; refine (dest_valid _ _).mono ?_; rintro e w' ⟨rfl, rfl⟩)
      all_goals
        go_ret
        refine ⟨ret_int ?_, rfl⟩
        have hr' := hr.out
        (try simp only [beq_iff_eq, beq_eq_false_iff_ne, ne_eq] at *)
        first | (refine cat_false _ _ ?_; omega) | (refine cat_true _ _ ?_; omega)
end Go.Proofs.YtjbciamhhfcdoaaGreatDoor
