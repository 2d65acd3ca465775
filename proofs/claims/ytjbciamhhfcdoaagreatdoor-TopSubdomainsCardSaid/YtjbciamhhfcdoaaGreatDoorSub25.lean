/- The walk of address of the program's hosts. Conditions: the text begins with a bracket and is of bounded length; the library's tables stand.
   The walks of the hexadecimal digits of hosts. Conditions: none.
   The walk of decode of the program's hosts. Conditions: the text's length is bounded. -/
import Derived.Test.YtjbciamhhfcdoaaGreatDoorSub24
import Derived.Test.YtjbciamhhfcdoaaGreatDoorSub08
import Derived.WalkKit
import Derived.WalkMore
import Derived.Test.YtjbciamhhfcdoaaGreatDoorRows
import Derived.Test.YtjbciamhhfcdoaaGreatDoorSub01
import Derived.Test.YtjbciamhhfcdoaaGreatDoorSub18
import Derived.Test.YtjbciamhhfcdoaaGreatDoorSub03
import Derived.OwnWalk
namespace Hs
open Go
theorem len8 {l : List Nat} (h : l.length = 8) : ∃ a b c d e f g i, l = [a, b, c, d, e, f, g, i] := by
  match l, h with
  | [a, b, c, d, e, f, g, i], _ => exact ⟨a, b, c, d, e, f, g, i, rfl⟩
end Hs
namespace Go.Proofs.YtjbciamhhfcdoaaGreatDoor
open Go.RowKit Hs
set_option linter.unusedSimpArgs false
set_option linter.unusedVariables false
theorem alloc_host (w : World) : w.alloc (.cells #[.int .i64 0, .string ⟨#[]⟩, .int .u32 0, .int .u16 0, .int .u16 0, .int .u16 0, .int .u16 0, .int .u16 0, .int .u16 0, .int .u16 0, .int .u16 0] 60) = w.alloc (.cells (hcells host0).toArray 60) := rfl
theorem res6_some {l : Bs} {v : List Nat} (h : parse6 l = some v) : res6 (parse6 l) = (v, true) := by rw [h]; rfl
theorem res6_non {l : Bs} (h : parse6 l = none) : res6 (parse6 l) = (z8, false) := by rw [h]; rfl
set_option maxRecDepth 20000 in
set_option maxHeartbeats 4000000 in
theorem h_address (s : ByteArray) (w : World) (hB : Base w) (hs : s.size ≤ 100000) (hh : (un s).head? = some 91) : Calls Tryz.prog 208 #[.string s] w fun e w' => (∃ h c, e = .returned (.tuple #[.agg (hcells h).toArray, .int .i64 c]) ∧ ((c = 0 ∧ addrV (un s) = some h) ∨ (c ≠ 0 ∧ h = host0 ∧ addrV (un s) = none))) ∧ Below w.heap.size w w' := by
  have hlen : (un s).length = s.size := length_un s
  have hpos : 0 < s.size := by
    rw [← hlen]
    cases h : un s with
    | nil => rw [h] at hh; cases hh
    | cons a r => simp
  have hl := last_un s hpos
  have hdef : addrV (un s) = if (un s).getLast? = some 93 then (parse6 (((un s).take ((un s).length - 1)).drop 1)).map (fun v => ⟨3, [], 0, v⟩) else none := rfl
  rw [hl, hlen] at hdef
  have hp1 : s.size - 1 < s.size := by omega
  have hbA : Below w.heap.size w (w.alloc (.cells (hcells host0).toArray 60)) := (Below.refl _ w).alloc (Nat.le_refl _) _
  have hr0 : BlkL (w.alloc (.cells (hcells host0).toArray 60)) w.heap.size 60 (hcells host0) := BlkL.new w _ _
  have hsz0 : w.heap.size + 1 ≤ (w.alloc (.cells (hcells host0).toArray 60)).heap.size := by simp
  obtain ⟨W0, hW0⟩ : ∃ W0, W0 = w.alloc (.cells (hcells host0).toArray 60) := ⟨_, rfl⟩
  rw [← hW0] at hbA hr0 hsz0
  have HW0 := Lib.hid ((alloc_host w).trans hW0.symm)
  have B0 := hB.below hbA
  have HR0 := Lib.hid hr0
  clear hW0 hr0
  obtain ⟨n, hn⟩ : ∃ n, n = s.size := ⟨_, rfl⟩
  by_cases hc : (s[s.size - 1]'hp1) = 93
  · have hd2 := hdef.trans (if_pos (by rw [hc]))
    have cs : ((s[s.size - 1]'hp1).toNat : Int) = 93 := by rw [hc]; rfl
    have h1 : 1 ≤ s.size - 1 := by
      rcases Nat.eq_or_lt_of_le hpos with h0 | h0
      · exfalso
        have h2 := head_un s hpos
        rw [h2] at hh
        have h3 : s[0] = 91 := Option.some.inj hh
        have h4 : s[s.size - 1]'hp1 = s[0] := by congr 1; omega
        rw [h4, h3] at hc
        exact absurd hc (by decide)
      · omega
    have hx : s.extract 1 (s.size - 1) = mk (((un s).take (s.size - 1)).drop 1) := by
      rw [extract_seg]
      unfold seg
      rw [List.drop_take]
    have hp6 := i6_parse (mk (((un s).take (s.size - 1)).drop 1)) W0 B0 (by rw [size_mk, List.length_drop, List.length_take]; omega)
    rw [un_mk] at hp6
    have HP6 := Lib.hid hp6
    have HX := Lib.hid hx
    clear hp6 hx hc hdef hl hh hlen hB
    go_enter Tryz.func208, Tryz.ntmps208
    go_wp2_with fail
    rw [HW0.out]
    rw [HX.out]
    refine HP6.out.mono ?_; rintro e w1 ⟨rfl, hb1⟩
    have hr1 := HR0.out.below (by omega) hb1
    have hsz1 := hb1.size
    have hall : Below w.heap.size w w1 := hbA.trans (hb1.mono (by omega))
    have HALL := Lib.hid hall
    have HD := Lib.hid hd2
    have hne : w.heap.size ≠ w1.heap.size := by omega
    clear HP6 HX hb1 hbA hall hd2 HW0 B0
    cases hp : parse6 (((un s).take (s.size - 1)).drop 1) with
    | none =>
      have hfin := Lib.hid (HD.out.trans (by rw [hp]))
      rw [show res6 none = (z8, false) from rfl]
      clear HD hp
      have hN := heap_alloc_new w1 (.cells (gcells z8).toArray 58)
      have hR2 := (hr1.alloc (.cells (gcells z8).toArray 58)).setRow_other hne (gcells z8).toArray
      have HN := Lib.hid hN
      have HR2 := Lib.hid hR2
      clear hN hR2
      go_wp2_with (first
        | refine wpList_store_row rfl 58 (.tmp 5) (.tmp 19) rfl w1.heap.size (gcells z8).toArray rfl rfl 58 _ HN.out infoArr8 rfl (all_one z8) ?_
        | refine wpList_store_row rfl 60 (.tmp 2) (.tmp 24) rfl w.heap.size (hcells host0).toArray rfl rfl 60 _ HR2.out infoHost rfl (all_one_of (hc_one host0)) ?_)
      all_goals (try (exfalso; omega))
      refine bodyPost_ret (results_ct rfl _ _ w.heap.size 60 _ _ rfl (HR2.out.setRow (hcells host0)) Tryz.underlying60 rfl infoHost) rfl ?_
      exact ⟨⟨host0, 14, rfl, .inr ⟨by decide, rfl, hfin.out⟩⟩, below_setRow (below_setRow (HALL.out.trans (((Below.refl _ w1).alloc (Nat.le_refl _) _).mono (by omega))) (by omega) _) (Nat.le_refl _) _⟩
    | some v =>
      have hfin := HD.out
      rw [hp] at hfin
      have HFIN : Hid (addrV (un s) = some ⟨3, [], 0, v⟩) := Lib.hid hfin
      rw [show res6 (some v) = (v, true) from rfl]
      have h8 := (parse6_addr hp).1
      obtain ⟨a, b, c, d, e, f, g, i, rfl⟩ := len8 h8
      clear HD hp hfin h8
      have hN := heap_alloc_new w1 (.cells (gcells z8).toArray 58)
      have hN2 := setRow_heap _ w1.heap.size _ (gcells [a, b, c, d, e, f, g, i]).toArray _ _ hN
      have hR2 := (hr1.alloc (.cells (gcells z8).toArray 58)).setRow_other hne (gcells [a, b, c, d, e, f, g, i]).toArray
      have HN := Lib.hid hN
      have HN2 := Lib.hid hN2
      have HR2 := Lib.hid hR2
      clear hN hR2 hN2
      go_wp2_with (first
        | refine wpList_store_row rfl 58 (.tmp 5) (.tmp 19) rfl w1.heap.size (gcells [a, b, c, d, e, f, g, i]).toArray rfl rfl 58 _ HN.out infoArr8 rfl (all_one _) ?_
        | refine wpList_load_row rfl 58 (.tmp 5) rfl w1.heap.size rfl 58 _ _ _ HN2.out Tryz.underlying58 rfl infoArr8 ?_
        | refine wpList_store_row rfl 60 (.tmp 2) (.tmp 23) rfl w.heap.size (hcells ⟨3, [], 0, [a, b, c, d, e, f, g, i]⟩).toArray rfl rfl 60 _ HR2.out infoHost rfl (all_one_of (hc_one _)) ?_)
      all_goals (try (exfalso; omega))
      refine bodyPost_ret (results_ct rfl _ _ w.heap.size 60 _ _ rfl (HR2.out.setRow (hcells ⟨3, [], 0, [a, b, c, d, e, f, g, i]⟩)) Tryz.underlying60 rfl infoHost) rfl ?_
      exact ⟨⟨_, 0, rfl, .inl ⟨rfl, HFIN.out⟩⟩, below_setRow (below_setRow (HALL.out.trans (((Below.refl _ w1).alloc (Nat.le_refl _) _).mono (by omega))) (by omega) _) (Nat.le_refl _) _⟩
  · have hfin := Lib.hid (hdef.trans (if_neg (fun e => hc (Option.some.inj e))))
    have g1 : (((s[s.size - 1]'hp1).toNat : Int) == 93) = false := by
      simp
      intro e
      exact hc (UInt8.toNat_inj.1 (by show (s[s.size - 1]'hp1).toNat = 93; omega))
    clear hc hdef hl hh hlen hB
    go_enter Tryz.func208, Tryz.ntmps208
    go_wp2_with (first
        | refine wpList_store_row rfl 60 (.tmp 2) (.tmp 24) rfl w.heap.size (hcells host0).toArray rfl rfl 60 _ (heap_alloc_new w _) infoHost rfl (all_one_of (hc_one host0)) ?_)
    all_goals (try (exfalso; omega))
    refine bodyPost_ret (results_ct rfl _ _ w.heap.size 60 _ _ rfl ((BlkL.new w 60 (hcells host0)).setRow (hcells host0)) Tryz.underlying60 rfl infoHost) rfl ?_
    exact ⟨⟨host0, 14, rfl, .inr ⟨by decide, rfl, hfin.out⟩⟩, below_setRow ((Below.refl _ w).alloc (Nat.le_refl _) _) (Nat.le_refl _) _⟩
end Go.Proofs.YtjbciamhhfcdoaaGreatDoor
namespace Go.Proofs.YtjbciamhhfcdoaaGreatDoor
open Go.RowKit Hs
set_option linter.unusedSimpArgs false
set_option linter.unusedVariables false
theorem h_digit (b : UInt8) (w : World) : Calls Tryz.prog 234 #[.int .u8 (b.toNat : Int)] w fun e w' => e = .returned (.int .i64 (hxI b)) ∧ w = w' := by
  have hc := hxI_cases b
  have hb := b.toNat_lt
  obtain ⟨x, hx⟩ : ∃ x, x = b.toNat := ⟨_, rfl⟩
  rw [← hx] at hc hb ⊢
  obtain ⟨v, hvv⟩ : ∃ v, v = hxI b := ⟨_, rfl⟩
  rw [← hvv] at hc ⊢
  clear hx hvv
  rcases hc with ⟨h1, h2, h3⟩ | ⟨h1, h2, h3⟩ | ⟨h1, h2, h3⟩ | ⟨h1, h2, h3, h4⟩
  · have hr := Lib.hid h3
    clear h3
    go_enter Tryz.func234, Tryz.ntmps234
    go_wp2
    all_goals (try (exfalso; omega))
    all_goals
      go_ret
      rw [hr.out]
      exact ⟨rfl, rfl⟩
  · have hr := Lib.hid h3
    clear h3
    go_enter Tryz.func234, Tryz.ntmps234
    go_wp2
    all_goals (try (exfalso; omega))
    all_goals
      go_ret
      rw [hr.out]
      exact ⟨rfl, rfl⟩
  · have hr := Lib.hid h3
    clear h3
    go_enter Tryz.func234, Tryz.ntmps234
    go_wp2
    all_goals (try (exfalso; omega))
    all_goals
      go_ret
      rw [hr.out]
      exact ⟨rfl, rfl⟩
  · have hr := Lib.hid h4
    clear h4
    go_enter Tryz.func234, Tryz.ntmps234
    go_wp2
    all_goals (try (exfalso; omega))
    all_goals
      go_ret
      rw [hr.out]
      exact ⟨rfl, rfl⟩
theorem r14_hex (b : UInt8) (w : World) : Calls Tryz.prog 200 #[.int .u8 (b.toNat : Int)] w fun e w' => e = .returned (.int .i64 (hxI b)) ∧ w = w' := by
  have hc := hxI_cases b
  have hb := b.toNat_lt
  obtain ⟨x, hx⟩ : ∃ x, x = b.toNat := ⟨_, rfl⟩
  rw [← hx] at hc hb ⊢
  obtain ⟨v, hvv⟩ : ∃ v, v = hxI b := ⟨_, rfl⟩
  rw [← hvv] at hc ⊢
  clear hx hvv
  rcases hc with ⟨h1, h2, h3⟩ | ⟨h1, h2, h3⟩ | ⟨h1, h2, h3⟩ | ⟨h1, h2, h3, h4⟩
  · have hr := Lib.hid h3
    clear h3
    go_enter Tryz.func200, Tryz.ntmps200
    go_wp2
    all_goals (try (exfalso; omega))
    all_goals
      go_ret
      rw [hr.out]
      exact ⟨rfl, rfl⟩
  · have hr := Lib.hid h3
    clear h3
    go_enter Tryz.func200, Tryz.ntmps200
    go_wp2
    all_goals (try (exfalso; omega))
    all_goals
      go_ret
      rw [hr.out]
      exact ⟨rfl, rfl⟩
  · have hr := Lib.hid h3
    clear h3
    go_enter Tryz.func200, Tryz.ntmps200
    go_wp2
    all_goals (try (exfalso; omega))
    all_goals
      go_ret
      rw [hr.out]
      exact ⟨rfl, rfl⟩
  · have hr := Lib.hid h4
    clear h4
    go_enter Tryz.func200, Tryz.ntmps200
    go_wp2
    all_goals (try (exfalso; omega))
    all_goals
      go_ret
      rw [hr.out]
      exact ⟨rfl, rfl⟩
end Go.Proofs.YtjbciamhhfcdoaaGreatDoor
namespace Go.Proofs.YtjbciamhhfcdoaaGreatDoor
open Go.RowKit Hs
set_option linter.unusedSimpArgs false
set_option linter.unusedVariables false
theorem own_dn {w : World} {B e size n : Nat} {v : Value} {xs : List Value} (h : w.ownsRow B e size v n xs) (q : Nat) : (w.drewN q).ownsRow B e size v n xs := h
set_option maxRecDepth 20000 in
set_option maxHeartbeats 8000000 in
theorem h_decode (s : ByteArray) (w : World) (hs : s.size ≤ 100000) : Calls Tryz.prog 209 #[.string s] w fun e w' => (∃ t ok, e = .returned (.tuple #[.string t, .bool ok]) ∧ ((ok = true ∧ pctV (un s) = some (un t)) ∨ (ok = false ∧ t = ⟨#[]⟩ ∧ pctV (un s) = none))) ∧ Below w.heap.size w w' := by
  obtain ⟨iB0, iB⟩ := info_parts infoByte
  have hlen : (un s).length = s.size := length_un s
  obtain ⟨l, hl⟩ : ∃ l, l = un s := ⟨_, rfl⟩
  have hst0 : pctV l = pctA [] (l.drop 0) := by rw [List.drop_zero]; unfold pctA; cases pctV l <;> simp
  rw [← hl] at hlen ⊢
  have HL := Lib.hid hl
  have HST0 := Lib.hid hst0
  obtain ⟨n, hn⟩ : ∃ n, n = s.size := ⟨_, rfl⟩
  rw [← hn] at hs
  have hsn : (s.size : Int) = (n : Int) := by rw [hn]
  have HLEN := Lib.hid (hlen.trans hn.symm)
  have HN := Lib.hid hn
  clear hl hst0 hlen hn
  go_enter Tryz.func209, Tryz.ntmps209
  go_wp2
  go_step3
  go_wp2_with (first | (at_make; go_loud (refine wpList_make_own _ rfl _ _ 32 rfl w.heap.size 5 iB0 (.int .u8 0) 1 Tryz.underlying32 iB.1 iB.2.1 iB.2.2.1 .i64 .i64 _ n rfl rfl (by omega) (by rw [iB.2.2.2]; omega) (by unfold maxLen; omega) (Nat.le_refl _) ?_); intro w1 hown1 hgrow1) | go_in)
  have hbel1 : Below w.heap.size w w1 := (Below.refl _ _).grown hgrow1 (Nat.le_refl _) (by intro k hk; cases hk)
  go_step3
  go_wp2
  all_goals (try (exfalso; omega))
  go_loopw [4, 5] (fun ov iv wr => ∃ (k : Nat) (o : Bs), iv = .int .i64 k ∧ k ≤ n ∧ o.length ≤ k ∧ wr.ownsRow w.heap.size 5 1 ov o.length (bcells o) ∧ Hid (pctV l = pctA o (l.drop k)) ∧ Below w.heap.size w wr) (fun _ iv _ => n - (intOf iv).toNat)
  case atStart => exact ⟨0, [], rfl, by omega, by simp, hown1, HST0, hbel1⟩
  case round =>
    obtain ⟨k, o, rfl, hk, hol, hown, hst, hnx⟩ := hrel
    have hown0 := hown
    have hsize := hnx.size
    by_cases hlt : k < n
    · have hks : k < s.size := by rw [← HN.out]; exact hlt
      have hkl : k < l.length := by rw [HLEN.out]; exact hlt
      have hx : l[k] = s[k] := by
        have := HL.out
        subst this
        exact getElem_un s k hks
      have hdr : l.drop k = s[k] :: l.drop (k + 1) := by rw [← hx]; exact List.drop_eq_getElem_cons hkl
      have hst2 := hst.out
      rw [hdr] at hst2
      by_cases hp : s[k] = 37
      · have cs : (s[k].toNat : Int) = 37 := by rw [hp]; rfl
        rw [hp] at hst2
        by_cases h2 : k + 2 < n
        · have hk1 : k + 1 < s.size := by rw [← HN.out]; omega
          have hk2 : k + 2 < s.size := by rw [← HN.out]; omega
          have hx1 : l[k + 1]'(by rw [HLEN.out]; omega) = s[k + 1] := by
            have := HL.out
            subst this
            exact getElem_un s (k + 1) hk1
          have hx2 : l[k + 2]'(by rw [HLEN.out]; omega) = s[k + 2] := by
            have := HL.out
            subst this
            exact getElem_un s (k + 2) hk2
          have hdr2 : l.drop (k + 1) = s[k + 1] :: s[k + 2] :: l.drop (k + 3) := by
            rw [List.drop_eq_getElem_cons (by rw [HLEN.out]; omega), hx1, List.drop_eq_getElem_cons (by rw [HLEN.out]; omega), hx2]
          rw [hdr2] at hst2
          have hI1 : (0 : Int) ≤ (k : Int) + 1 := by omega
          have hI2 : (k : Int) + 1 < (n : Int) := by omega
          have hI3 : (0 : Int) ≤ (k : Int) + 2 := by omega
          have hI4 : (k : Int) + 2 < (n : Int) := by omega
          have hb1 := hxI_bounds s[k + 1]
          have hb2 := hxI_bounds s[k + 2]
          have hd1 := fun W => h_digit s[k + 1] W
          have hd2 := fun W => h_digit s[k + 2] W
          by_cases hbad : hxI s[k + 1] < 0 ∨ hxI s[k + 2] < 0
          · have hfin := Lib.hid (hst2.trans (pctA_none (pctV_bad hbad)))
            obtain ⟨a, ha⟩ : ∃ a, a = hxI s[k + 1] := ⟨_, rfl⟩
            obtain ⟨b, hb⟩ : ∃ b, b = hxI s[k + 2] := ⟨_, rfl⟩
            simp only [← ha] at hb1 hd1 hbad
            simp only [← hb] at hb2 hd2 hbad
            have HD1 := Lib.hid hd1
            have HD2 := Lib.hid hd2
            clear hst hst2 hdr hdr2 hx hx1 hx2 ha hb hd1 hd2 hp hown hown0
            go_wp2
            all_goals (try (exfalso; omega))
            refine wp_region_quiet_lit (by kernel_rfl) (by kernel_rfl) ?_
            repeat (go_big_quiet_step (fail))
            go_big_quiet_want
            go_big_quiet_op
            apply Exists.intro
            refine ⟨fun _ => ?_, ?_⟩
            · exact Calls.quiet_of_same ((HD1.out _).mono (fun _ _ h => ⟨h.1, h.2.symm⟩))
            go_big_quiet_on
            repeat (go_big_quiet_step (fail))
            go_big_quiet_want
            go_big_quiet_op
            apply Exists.intro
            refine ⟨fun _ => ?_, ?_⟩
            · exact Calls.quiet_of_same ((HD2.out _).mono (fun _ _ h => ⟨h.1, h.2.symm⟩))
            go_big_quiet_on
            repeat (go_big_quiet_step (fail))
            refine wpQuiet_nil ?_
            intro _ hw'
            obtain ⟨nq, hw''⟩ := hw'
            subst hw''
            go_wp2
            all_goals (try (exfalso; omega))
            all_goals
              (try rw [Exit.noGoto_ret])
              go_ret2
              exact ⟨⟨_, _, rfl, .inr ⟨rfl, rfl, hfin.out⟩⟩, below_drewN hnx _⟩
          · have hst3 := Lib.hid (hst2.trans (pctA_pct (fun e => hbad (.inl e)) (fun e => hbad (.inr e))))
            obtain ⟨a, ha⟩ : ∃ a, a = hxI s[k + 1] := ⟨_, rfl⟩
            obtain ⟨b, hb⟩ : ∃ b, b = hxI s[k + 2] := ⟨_, rfl⟩
            simp only [← ha] at hb1 hd1 hbad hst3
            simp only [← hb] at hb2 hd2 hbad hst3
            have HD1 := Lib.hid hd1
            have HD2 := Lib.hid hd2
            clear hst hst2 hdr hdr2 hx hx1 hx2 ha hb hd1 hd2 hp
            go_wp2
            all_goals (try (exfalso; omega))
            refine wp_region_quiet_lit (by kernel_rfl) (by kernel_rfl) ?_
            repeat (go_big_quiet_step (fail))
            go_big_quiet_want
            go_big_quiet_op
            apply Exists.intro
            refine ⟨fun _ => ?_, ?_⟩
            · exact Calls.quiet_of_same ((HD1.out _).mono (fun _ _ h => ⟨h.1, h.2.symm⟩))
            go_big_quiet_on
            repeat (go_big_quiet_step (fail))
            go_big_quiet_want
            go_big_quiet_op
            apply Exists.intro
            refine ⟨fun _ => ?_, ?_⟩
            · exact Calls.quiet_of_same ((HD2.out _).mono (fun _ _ h => ⟨h.1, h.2.symm⟩))
            go_big_quiet_on
            repeat (go_big_quiet_step (fail))
            refine wpQuiet_nil ?_
            intro _ hw'
            obtain ⟨nq, hw''⟩ := hw'
            subst hw''
            have ha0 : 0 ≤ a ∧ a < 16 := ⟨by omega, hb1.2⟩
            have hb0 : 0 ≤ b ∧ b < 16 := ⟨by omega, hb2.2⟩
            have hval : ((UInt8.ofNat (16 * a + b).toNat).toNat : Int) = 16 * a + b := by
              rw [UInt8.toNat_ofNat']
              omega
            obtain ⟨c, hc⟩ : ∃ c, c = UInt8.ofNat (16 * a + b).toNat := ⟨_, rfl⟩
            rw [← hc] at hval
            have hst4 : Hid (pctV l = pctA (o ++ [c]) (List.drop (k + 3) l)) := by rw [hc]; exact hst3
            have hownq := own_dn hown0 nq
            have hnxq := below_drewN hnx nq
            clear hst3 hc hbad hown hown0 hnx hsize
            generalize wr.drewN nq = wq at hownq hnxq ⊢
            have hsizeq := hnxq.size
            go_wp2_with (at_builtin; refine wpList_append_own _ rfl (.tmp 48) (.tmp 54) 32 rfl (w.heap.size) 5 iB0 (.int .u8 0) 1 1 Tryz.underlying32 iB.1 iB.2.1 iB.2.2.1 iB.2.2.2 rfl (by decide) _ _ _ rfl (hownq.alloc _) ⟨wq.heap.size, 0, none⟩ 1 1 [_] rfl rfl (cell_one_new _ _ _) (by intro u hu; simp at hu; subst hu; rfl) (by unfold maxLen; omega) (by omega) (by simp; omega) ?_; intro v1 w2 hown1 hgrow2 hnil1)
            all_goals (try (exfalso; omega))
            go_roundw
            case rel =>
              refine ⟨k + 3, o ++ [c], by go_num, by omega, by simp; omega, ?_, hst4, (hnxq.alloc (by omega) _).grown hgrow2 (by simp; omega) (fun j hj => (hownq.lt j hj).1)⟩
              rw [bcells_append, List.length_append]
              have e : bcells [c] = [.int .u8 (16 * a + b)] := by show [Value.int .u8 (c.toNat : Int)] = _; rw [hval]
              rw [e]
              exact hown1
            case measure => simp [intOf]; omega
        · have hfin := Lib.hid (hst2.trans (pctA_none (pctV_short (by rw [List.length_drop, HLEN.out]; omega))))
          have hle : (n : Int) ≤ (k : Int) + 2 := by omega
          clear hst hst2 hdr hx
          go_wp2
          all_goals (try (exfalso; omega))
          (try rw [Exit.noGoto_ret])
          go_ret2
          exact ⟨⟨_, _, rfl, .inr ⟨rfl, rfl, hfin.out⟩⟩, hnx⟩
      · have hst3 := Lib.hid (hst2.trans (pctA_plain hp))
        have g1 : ((s[k].toNat : Int) != 37) = true := by
          simp
          intro e
          exact hp (UInt8.toNat_inj.1 (by show s[k].toNat = 37; omega))
        clear hst hst2 hdr hx hp
        go_wp2_with (at_builtin; refine wpList_append_own _ rfl (.tmp 21) (.tmp 25) 32 rfl (w.heap.size) 5 iB0 (.int .u8 0) 1 1 Tryz.underlying32 iB.1 iB.2.1 iB.2.2.1 iB.2.2.2 rfl (by decide) _ _ _ rfl (hown.alloc _) ⟨wr.heap.size, 0, none⟩ 1 1 [_] rfl rfl (cell_one_new _ _ _) (by intro u hu; simp at hu; subst hu; rfl) (by unfold maxLen; omega) (by omega) (by simp; omega) ?_; intro v1 w2 hown1 hgrow2 hnil1)
        all_goals (try (exfalso; omega))
        go_roundw
        case rel =>
          refine ⟨k + 1, o ++ [s[k]], by go_num, by omega, by simp; omega, ?_, hst3, (hnx.alloc (by omega) _).grown hgrow2 (by simp; omega) (fun j hj => (hown0.lt j hj).1)⟩
          rw [bcells_append, List.length_append]
          exact hown1
        case measure => simp [intOf]; omega
    · have hkn : k = n := by omega
      have hfin : pctV l = some o := by rw [hst.out, List.drop_of_length_le (by rw [HLEN.out]; omega), pctA_nil]
      have HFIN := Lib.hid hfin
      have hcv := string_of_row (P := Tryz.prog) (Row.owned hown) (src := 32) (dst := 9) Tryz.underlying32 Tryz.underlying5 Tryz.underlying9
      clear hst hfin
      go_wp2
      all_goals (try (exfalso; omega))
      go_goals
      (try rw [Exit.noGoto_ret])
      go_ret2
      exact ⟨⟨_, _, rfl, .inl ⟨rfl, by rw [HFIN.out, un_mk]⟩⟩, hnx⟩
end Go.Proofs.YtjbciamhhfcdoaaGreatDoor
