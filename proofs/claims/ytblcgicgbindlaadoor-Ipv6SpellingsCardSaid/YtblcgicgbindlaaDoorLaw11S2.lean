/- The walk of the law Ipv6Spellings (layer 11), case 2: it returns true; memory that existed is unchanged. Conditions: the library's tables stand. -/
import Derived.Test.YtblcgicgbindlaaDoorLaw11
import Derived.Test.YtblcgicgbindlaaDoorArr8
import Derived.Test.YtblcgicgbindlaaDoorFill
import Derived.Test.YtblcgicgbindlaaDoorIpv6Y
import Derived.Test.YtblcgicgbindlaaDoorPlainIpv6T
import Derived.Test.YtblcgicgbindlaaDoorKeepMod
import Derived.Test.YtblcgicgbindlaaDoorIpv4F
namespace Go.Proofs.YtblcgicgbindlaaDoor
open Go.RowKit Hs
set_option linter.unusedSimpArgs false
set_option linter.unusedVariables false

set_option maxRecDepth 20000 in
set_option maxHeartbeats 16000000 in
theorem spell6_walk2 (a : List Nat) (z0 z1 st : Int) (w : World) (hB : Base6 w) (h8 : a.length = 8) (hl : ∀ x ∈ a, x < 65536) (h0 : (Lit.int .i64 z0).wf = true) (h1 : (Lit.int .i64 z1).wf = true) (h2 : (Lit.int .i64 st).wf = true) (fr n0 : Nat) (hf : z0 % 8 = (fr : Int)) (hn : z1 % 4 = (n0 : Int)) (hev : (st.tmod 2 == 0) = false) : Calls Tryd.prog 9 #[.agg ((a.map Int.ofNat).map (Value.int .u16)).toArray, .agg #[.int .i64 z0, .int .i64 z1], .int .i64 st] w fun e w' => e = .returned (.bool true) ∧ Below w.heap.size w w' := by
  rw [agg_groups]
  have AW := Lib.hid (fun W h => law11_awake W h)
  have HB := Lib.hid hB
  have hfr8 : fr < 8 := by omega
  have hn4 : n0 < 4 := by omega
  obtain ⟨n, hnn⟩ : ∃ n, n = min n0 (8 - fr) := ⟨_, rfl⟩
  have hn1 : n ≤ n0 := by omega
  have hn2 : fr + n ≤ 8 := by omega
  have hn3 := Lib.hid (show (n = n0 ∧ fr + n0 ≤ 8) ∨ (fr + n = 8 ∧ 8 < fr + n0) by omega)
  have hn4' : n < 4 := by omega
  obtain ⟨zs, hzs⟩ : ∃ zs : Nat, st % 4 = (zs : Int) := ⟨(st % 4).toNat, by omega⟩
  have hzs4 : zs < 4 := by omega
  obtain ⟨up, hup⟩ : ∃ up : Bool, (st.tmod 3 == 0) = up := ⟨_, rfl⟩
  obtain ⟨z, hz⟩ : ∃ z, z = zeroed a fr n := ⟨_, rfl⟩
  have hza : Addr6 z := by rw [hz]; exact zeroed_addr ⟨h8, hl⟩ hn2
  have hzz : (z.drop fr).take n = List.replicate n 0 := by rw [hz]; exact zeroed_zero h8 hn2
  have hdd : false = true → fr + n ≤ 6 := fun h => by cases h
  have hP := parse6_spell zs up false z hza fr n hn2 hdd hzz
  rw [← outS_spell zs up false z hza.1 fr n hn2 hdd] at hP
  have hLl := partsS_len zs up false z hza.1
  have hLs := partsS_small zs up false z hza
  have hat := partsT_at zs up false z hza.1

  obtain ⟨L, hL⟩ : ∃ L, L = partsS zs up false z := ⟨_, rfl⟩
  simp only [← hL] at hP hLl hLs hat
  obtain ⟨F, hF⟩ : ∃ F, F = gapF fr n := ⟨_, rfl⟩
  obtain ⟨N, hN⟩ : ∃ N, N = gapN n := ⟨_, rfl⟩
  rw [← hF, ← hN] at hP
  have hFN : (n = 0 ∧ F = 8 ∧ N = 1) ∨ (0 < n ∧ F = fr ∧ N = n) := by
    unfold gapF at hF
    unfold gapN at hN
    by_cases h : n = 0
    · rw [if_pos h] at hF hN; exact .inl ⟨h, hF, hN⟩
    · rw [if_neg h] at hF hN; exact .inr ⟨by omega, hF, hN⟩
  have hP : parse6 (outS L F N 8) = some z := hP
  have hLl : L.length = 8 := hLl
  have HP := Lib.hid hP; have HLL := Lib.hid hLl; have HLS := Lib.hid hLs; have HAT := Lib.hid hat
  have HLEN := Lib.hid (fun k => outS_len L F N k hLs (by omega))
  obtain ⟨c0, c1, c2, c3, c4, c5, c6, c7, hzl⟩ := eight hza.1
  have ez : (gcells z).toArray = #[.int .u16 (c0 : Int), .int .u16 (c1 : Int), .int .u16 (c2 : Int), .int .u16 (c3 : Int), .int .u16 (c4 : Int), .int .u16 (c5 : Int), .int .u16 (c6 : Int), .int .u16 (c7 : Int)] := by rw [hzl]; rfl
  have eqz := fun W => arr8_eq z z hza.1 hza.1 W
  simp only [decide_eq_true rfl, ez] at eqz
  have HZL := Lib.hid hzl
  have HPS : Hid (∀ (S : ByteArray), S.size ≤ 100000 → un S = outS L F N 8 → ∀ W, Base6 W → Calls Tryd.prog 24 #[.string S] W fun e w' => e = .returned (.tuple #[.agg #[.int .u16 (c0 : Int), .int .u16 (c1 : Int), .int .u16 (c2 : Int), .int .u16 (c3 : Int), .int .u16 (c4 : Int), .int .u16 (c5 : Int), .int .u16 (c6 : Int), .int .u16 (c7 : Int)], .bool true]) ∧ Below W.heap.size W w') := Lib.hid (by
    intro S hS hu W hW
    have h := i6_parse S W hW.1 hS
    rw [hu, hP] at h
    have e : res6 (some z) = (z, true) := rfl
    rw [e, ez] at h
    exact h)
  have HZ := Lib.hid hz
  have HZA := Lib.hid hza
  have HFN := Lib.hid hFN
  have h8H := Lib.hid h8
  have HF := Lib.hid hf; have HNN := Lib.hid hn
  clear hL hF hN hP hLl hLs hat hz hza hzz hdd hl hnn hzl ez
  have m1 := fun W => keep_mod z0 8 W h0 (by omega) (by omega)
  have m2 := fun W => keep_mod z1 4 W h1 (by omega) (by omega)
  have m3 := fun W => keep_mod st 4 W h2 (by omega) (by omega)
  rw [hf] at m1
  rw [hn] at m2
  rw [hzs] at m3
  have hba : Below w.heap.size w ((w.alloc (.cells (gcells a).toArray 39)).alloc (.cells #[.int .i64 z0, .int .i64 z1] 45)) := ((Below.refl _ w).alloc (Nat.le_refl _) _).alloc (by simp) _
  have blka : BlkN ((w.alloc (.cells (gcells a).toArray 39)).alloc (.cells #[.int .i64 z0, .int .i64 z1] 45)) w.heap.size 39 (gcells a).toArray := (BlkN.new w _ _).alloc _
  have blkb : BlkN ((w.alloc (.cells (gcells a).toArray 39)).alloc (.cells #[.int .i64 z0, .int .i64 z1] 45)) (w.heap.size + 1) 45 #[.int .i64 z0, .int .i64 z1] := by
    have := BlkN.new (w.alloc (.cells (gcells a).toArray 39)) 45 #[.int .i64 z0, .int .i64 z1]
    simpa using this
  obtain ⟨W1, hW1⟩ : ∃ W1, W1 = (w.alloc (.cells (gcells a).toArray 39)).alloc (.cells #[.int .i64 z0, .int .i64 z1] 45) := ⟨_, rfl⟩
  rw [← hW1] at hba blka blkb
  have HW1 := Lib.hid hW1.symm
  have q0 : ∀ x : Later W1, x.1.cell? ⟨w.heap.size + 1, 0, none⟩ = some (.int .i64 z0) := fun x => by rw [cell_of_row x.1 _ 0 _ _ _ (blkb.below blkb.lt x.2)]; rfl
  have q1 : ∀ x : Later W1, x.1.cell? ⟨w.heap.size + 1, 1, none⟩ = some (.int .i64 z1) := fun x => by rw [cell_of_row x.1 _ 1 _ _ _ (blkb.below blkb.lt x.2)]; rfl
  have M1 := Lib.hid (fun x : Later W1 => m1 x.1)
  have M2 := Lib.hid (fun x : Later W1 => m2 x.1)
  have M3 := Lib.hid m3
  have HA := Lib.hid (And.intro hba blka)
  have B1 := hB.below hba
  clear m1 m2 m3 hba blka blkb hW1 hB h0 h1 h2 hf hn hzs h8
  go_enter Tryd.func9, Tryd.ntmps9
  go_wp2_with fail
  rw [HW1.out]
  refine wp_region_later W1 (by kernel_rfl) (by kernel_rfl) (Below.refl _ _) ?_
  repeat (go_big_quiet_step (fail))
  go_big_quiet_step (exact Calls.later_same (M1.out _))
  repeat (go_big_quiet_step (fail))
  go_big_quiet_step (exact Calls.later_same (M2.out _))
  repeat (go_big_quiet_step (fail))
  refine wpQuiet_nil ?_
  intro w2 hw'
  obtain ⟨⟨w9, hb2⟩, rfl⟩ := hw'
  have hall := HA.out.1.trans (hb2.mono HA.out.1.size)
  have hblk := HA.out.2.below HA.out.2.lt hb2
  have B2 := B1.below hb2
  have HS0 : Hid (FillSt w.heap.size w2 w2 (zeroed a fr (fr - fr))) := Lib.hid (FillSt.start (by rw [Nat.sub_self, zeroed_none]; exact hblk))
  clear hb2 B1 q0 q1 HA M1 M2 HW1 hblk
  go_wp2
  go_loopw [9] (fun iv wr => ∃ i : Nat, iv = .int .i64 i ∧ fr ≤ i ∧ i ≤ fr + n ∧ Hid (FillSt w.heap.size w2 wr (zeroed a fr (i - fr)))) (fun iv _ => 8 - (intOf iv).toNat)
  case atStart => exact ⟨fr, rfl, by omega, by omega, HS0⟩
  case round =>
    obtain ⟨i, rfl, hi1, hi2, hst⟩ := hrel
    by_cases hlt : i < fr + n
    · have g1 : decide ((i : Int) < (fr : Int) + (n0 : Int)) = true := decide_eq_true (by omega)
      have g2 : decide ((i : Int) < 8) = true := decide_eq_true (by omega)
      have hzl : (zeroed a fr (i - fr)).length = 8 := by have := h8H.out; simp [zeroed]; omega
      obtain ⟨u0, c0⟩ := hst.out.cell i (by omega)
      have f0 := hst.out.frozen i
      have hst2 : Hid (FillSt w.heap.size w2 (wr.setCell ⟨w.heap.size, i, none⟩ (.int .u16 0)) (zeroed a fr (i + 1 - fr))) := Lib.hid (by
        obtain ⟨j, rfl⟩ : ∃ j, i = fr + j := ⟨i - fr, by omega⟩
        have := hst.out.step (fr + j) 0
        rw [show fr + j - fr = j by omega, zeroed_step h8H.out (by omega)] at this
        rw [show fr + j + 1 - fr = j + 1 by omega]
        exact this)
      clear hst hzl
      go_wp2
      all_goals (try (exfalso; omega))
      go_roundw
      case rel => exact ⟨i + 1, by go_num, by omega, by omega, hst2⟩
      case measure => simp [intOf]; omega
    · have hblk : BlkN wr w.heap.size 39 (gcells z).toArray := by
        have := hst.out.2
        rw [show i - fr = n by omega, ← HZ.out] at this
        exact this
      have hall2 := hall.trans (hst.out.1.2 _ (Nat.le_refl _))
      have B3 : Base6 wr := HB.out.below hall2
      obtain ⟨WX, hWX⟩ : ∃ WX, WX = wr := ⟨_, rfl⟩
      subst hWX
      have HBZ := Lib.hid hblk
      have hallX := hall2
      have hszX := hblk.lt
      clear hst HS0 hblk hall2 B3 hall B2
      have hmin : min (n0 : Int) (8 - (fr : Int)) = (n : Int) := by have := hn3.out; omega
      have HPS0 := HPS
      rcases (by omega : fr + n0 ≤ 8 ∨ 8 < fr + n0) with h3 | h3
      · skip
        have g1 : decide ((i : Int) < (fr : Int) + (n0 : Int)) = false := decide_eq_false (by have := hn3.out; omega)
        go_wp2
        all_goals (try (exfalso; omega))
        clear g1
        go_loopw [11, 12] (fun sv iv wr => ∃ (S : ByteArray) (k : Nat), sv = .string S ∧ iv = .int .i64 k ∧ k ≤ 8 ∧ S.size ≤ 722 ∧ (k ≤ F ∨ (F + N ≤ k ∧ F < k)) ∧ Hid (un S = outS L F N k) ∧ Below WX.heap.size WX wr) (fun _ iv _ => 8 - (intOf iv).toNat)
        case atStart => exact ⟨⟨#[]⟩, 0, rfl, rfl, by omega, by decide, .inl (by omega), Lib.hid (by rw [outS_zero]; rfl), Below.refl _ _⟩
        case round =>
          obtain ⟨S, k, rfl, rfl, hk, hS, hkf, hst, hnx⟩ := hrel
          have hwr : w.heap.size < wr.heap.size := Nat.lt_of_lt_of_le hszX hnx.size
          by_cases hlt : k < 8
          · by_cases hgap : 0 < n ∧ k = fr
            · skip
              have hf1 := Lib.hid (show F = fr ∧ N = n by have := HFN.out; omega)
              have hg1 : k ≤ fr := by omega
              have hg2 : fr ≤ k := by omega
              have hg3 : 0 < n := hgap.1
              clear hgap hkf
              have g1 : ((k : Int) == (fr : Int)) = true := by simp; omega
              have g2 : decide ((0 : Int) < (n : Int)) = true := decide_eq_true (by omega)
              have hnx2 : Hid (un (S ++ (⟨#[58, 58]⟩ : ByteArray)) = outS L F N (fr + n)) := Lib.hid (by
                have hf1 := hf1.out
                have e := outS_gap L F N (by omega)
                rw [show F + N = fr + n by omega] at e
                rw [un_append, hst.out, e, show k = F by omega]
                rfl)
              have hsz : (S ++ (⟨#[58, 58]⟩ : ByteArray)).size ≤ 722 := by rw [← length_un, hnx2.out]; exact HLEN.out _
              clear hst
              go_wp2
              all_goals (try (exfalso; omega))
              go_roundw
              case rel => exact ⟨_, fr + n, rfl, by go_num, by omega, hsz, .inr (by have := hf1.out; omega), hnx2, hnx⟩
              case measure => simp [intOf]; omega
            · have hk2 : k < F ∨ (F + N ≤ k ∧ F < k) := by have := HFN.out; omega
              have hkL : k < L.length := by have := HLL.out; omega
              have hstep0 := outS_step L F N k hkL hk2
              rw [← hst.out] at hstep0
              have hsepT : (0 < k ∧ k ≠ F + N) → ((k ≠ fr ∧ 0 < k ∧ n ≤ 0) ∨ (k ≤ fr ∧ fr ≤ k ∧ 0 < k ∧ n ≤ 0) ∨ (k ≠ fr ∧ 0 < k ∧ 0 < n ∧ k ≠ fr + n)) := by
                intro h
                have hFN' := HFN.out
                omega
              have hsepF : ¬ (0 < k ∧ k ≠ F + N) → ((k ≠ fr ∧ k ≤ 0) ∨ (k ≤ fr ∧ fr ≤ k ∧ k ≤ 0 ∧ n ≤ 0) ∨ (k ≠ fr ∧ 0 < k ∧ 0 < n ∧ k ≤ fr + n ∧ fr + n ≤ k)) := by
                intro h
                have hFN' := HFN.out
                omega
              have hkz : k < z.length := by have := HZA.out.1; omega
              have hLk : L[k] = grpT zs up z[k] := by
                have e := HAT.out k hkz (fun h => by cases h)
                rw [List.getElem?_eq_getElem hkL] at e
                exact Option.some.inj e
              rw [hLk] at hstep0
              have hx := HZA.out.2 z[k] (List.getElem_mem hkz)
              have qz := (HBZ.out.below HBZ.out.lt hnx).later k hkz
              obtain ⟨x, hxx⟩ : ∃ x, x = z[k] := ⟨_, rfl⟩
              rw [← hxx] at hstep0 hx
              simp only [← hxx] at qz
              have hlx : (grpT zs up x).length ≤ 4 := (grpT_len zs up x hx).2
              have HG := Lib.hid (fun W => law_group x zs up W hx hzs4)
              clear hxx hLk hkz hst
              by_cases hsep : 0 < k ∧ k ≠ F + N
              · have hcs := hsepT hsep
                rw [if_pos hsep] at hstep0
                have hstep := Lib.hid hstep0
                clear hsepT hsepF hstep0 hsep hk2 hkL
                rcases (by by_cases h : k = 6 <;> simp <;> omega : ((k : Int) == 6) = true ∨ ((k : Int) == 6) = false) with g6 | g6
                all_goals
                  rcases hcs with ⟨d1, d2, d3⟩ | ⟨d1, d2, d3, d4⟩ | ⟨d1, d2, d3, d4⟩
                  all_goals (try (exfalso; have := hn3.out; omega))
                  all_goals
                    (first | have g1 : ((k : Int) == (fr : Int)) = false := by simp; omega | have g1 : ((k : Int) == (fr : Int)) = true := by simp; omega)
                    (try have g2 : decide ((0 : Int) < (n : Int)) = false := decide_eq_false (by omega))
                    (try have g2 : decide ((0 : Int) < (n : Int)) = true := decide_eq_true (by omega))
                    (first | have g3 : decide ((0 : Int) < (k : Int)) = true := decide_eq_true (by omega) | have g3 : decide ((0 : Int) < (k : Int)) = false := decide_eq_false (by omega))
                    (try have g4 : ((n : Int) == 0) = true := by simp; omega)
                    (try have g4 : ((n : Int) == 0) = false := by simp; omega)
                    (try have g5 : ((k : Int) != (fr : Int) + (n : Int)) = true := by simp; omega)
                    (try have g5 : ((k : Int) != (fr : Int) + (n : Int)) = false := by simp; omega)
                    have hnx2 : Hid (un (S ++ (⟨#[58]⟩ : ByteArray) ++ mk (grpT zs up x)) = outS L F N (k + 1)) := Lib.hid (by rw [un_append, un_append, un_mk, List.append_assoc, hstep.out]; rfl)
                    have hsz : (S ++ (⟨#[58]⟩ : ByteArray) ++ mk (grpT zs up x)).size ≤ 722 := by rw [← length_un, hnx2.out]; exact HLEN.out (k + 1)
                    clear hstep
                    go_wp2_with fail
                    all_goals (try (exfalso; omega))
                    refine wp_region_later wr (by kernel_rfl) (by kernel_rfl) (Below.refl _ _) ?_
                    repeat (go_big_quiet_step (fail))
                    go_big_quiet_step (exact Calls.later_same (M3.out _))
                    repeat (go_big_quiet_step (fail))
                    go_big_quiet_step (exact Calls.later_same (HG.out _))
                    repeat (go_big_quiet_step (fail))
                    refine wpQuiet_nil ?_
                    intro w7 hw'
                    obtain ⟨⟨w9, hb7⟩, rfl⟩ := hw'
                    go_wp2
                    all_goals (try (exfalso; omega))
                    go_roundw
                    case rel => exact ⟨_, k + 1, rfl, by go_num, by omega, hsz, by omega, hnx2, hnx.trans (hb7.mono hnx.size)⟩
                    case measure => simp [intOf]; omega
              · have hcs := hsepF hsep
                rw [if_neg hsep] at hstep0
                have hstep := Lib.hid hstep0
                clear hsepT hsepF hstep0 hsep hk2 hkL
                rcases (by by_cases h : k = 6 <;> simp <;> omega : ((k : Int) == 6) = true ∨ ((k : Int) == 6) = false) with g6 | g6
                all_goals
                  rcases hcs with ⟨d1, d2⟩ | ⟨d1, d2, d3, d4⟩ | ⟨d1, d2, d3, d4, d5⟩
                  all_goals (try (exfalso; have := hn3.out; omega))
                  all_goals
                    (first | have g1 : ((k : Int) == (fr : Int)) = false := by simp; omega | have g1 : ((k : Int) == (fr : Int)) = true := by simp; omega)
                    (try have g2 : decide ((0 : Int) < (n : Int)) = false := decide_eq_false (by omega))
                    (try have g2 : decide ((0 : Int) < (n : Int)) = true := decide_eq_true (by omega))
                    (first | have g3 : decide ((0 : Int) < (k : Int)) = true := decide_eq_true (by omega) | have g3 : decide ((0 : Int) < (k : Int)) = false := decide_eq_false (by omega))
                    (try have g4 : ((n : Int) == 0) = true := by simp; omega)
                    (try have g4 : ((n : Int) == 0) = false := by simp; omega)
                    (try have g5 : ((k : Int) != (fr : Int) + (n : Int)) = true := by simp; omega)
                    (try have g5 : ((k : Int) != (fr : Int) + (n : Int)) = false := by simp; omega)
                    have hnx2 : Hid (un (S ++ mk (grpT zs up x)) = outS L F N (k + 1)) := Lib.hid (by rw [un_append, un_mk, hstep.out]; rfl)
                    have hsz : (S ++ mk (grpT zs up x)).size ≤ 722 := by rw [← length_un, hnx2.out]; exact HLEN.out (k + 1)
                    clear hstep
                    go_wp2_with fail
                    all_goals (try (exfalso; omega))
                    refine wp_region_later wr (by kernel_rfl) (by kernel_rfl) (Below.refl _ _) ?_
                    repeat (go_big_quiet_step (fail))
                    go_big_quiet_step (exact Calls.later_same (M3.out _))
                    repeat (go_big_quiet_step (fail))
                    go_big_quiet_step (exact Calls.later_same (HG.out _))
                    repeat (go_big_quiet_step (fail))
                    refine wpQuiet_nil ?_
                    intro w7 hw'
                    obtain ⟨⟨w9, hb7⟩, rfl⟩ := hw'
                    go_wp2
                    all_goals (try (exfalso; omega))
                    go_roundw
                    case rel => exact ⟨_, k + 1, rfl, by go_num, by omega, hsz, by omega, hnx2, hnx.trans (hb7.mono hnx.size)⟩
                    case measure => simp [intOf]; omega
          · skip
            have hun : Hid (un S = outS L F N 8) := Lib.hid (by rw [hst.out, show k = 8 by omega])
            have hsz : S.size ≤ 722 := hS
            have hbq := hallX.trans (hnx.mono hallX.size)
            have hzq := HBZ.out.below HBZ.out.lt hnx
            clear hst
            have CP := Lib.hid (HPS.out S (by first | omega | (have := hsz; omega)) hun.out)
            have BQ := HB.out.below hbq
            clear hun
            go_wp2_with fail
            all_goals (try (exfalso; omega))
            refine (CP.out _ BQ).mono ?_; rintro e w8 ⟨rfl, hx⟩
            obtain ⟨W8, hW8⟩ : ∃ W8, W8 = w8.alloc (.cells #[.int .u16 (c0 : Int), .int .u16 (c1 : Int), .int .u16 (c2 : Int), .int .u16 (c3 : Int), .int .u16 (c4 : Int), .int .u16 (c5 : Int), .int .u16 (c6 : Int), .int .u16 (c7 : Int)] 39) := ⟨_, rfl⟩
            have hz8 := hzq.below hzq.lt hx
            have hb8 := hbq.trans (hx.mono hbq.size)
            have hb9 : Below w.heap.size w W8 := by rw [hW8]; exact hb8.alloc hb8.size _
            have ba8 : BlkN W8 w.heap.size 39 (gcells [c0, c1, c2, c3, c4, c5, c6, c7]).toArray := by rw [hW8, ← HZL.out]; exact hz8.alloc _
            have bb8 : BlkN W8 w8.heap.size 39 (gcells [c0, c1, c2, c3, c4, c5, c6, c7]).toArray := by rw [hW8]; exact BlkN.new _ _ _
            have B8 := HB.out.below hb9
            have HW8 := Lib.hid hW8.symm
            clear hx hz8 hb8 hW8 hbq hzq BQ CP HPS
            have pa0 : W8.cell? ⟨w.heap.size, 0, none⟩ = some (.int .u16 (c0 : Int)) := ba8.at 0 (by simp)
            have pa1 : W8.cell? ⟨w.heap.size, 1, none⟩ = some (.int .u16 (c1 : Int)) := ba8.at 1 (by simp)
            have pa2 : W8.cell? ⟨w.heap.size, 2, none⟩ = some (.int .u16 (c2 : Int)) := ba8.at 2 (by simp)
            have pa3 : W8.cell? ⟨w.heap.size, 3, none⟩ = some (.int .u16 (c3 : Int)) := ba8.at 3 (by simp)
            have pa4 : W8.cell? ⟨w.heap.size, 4, none⟩ = some (.int .u16 (c4 : Int)) := ba8.at 4 (by simp)
            have pa5 : W8.cell? ⟨w.heap.size, 5, none⟩ = some (.int .u16 (c5 : Int)) := ba8.at 5 (by simp)
            have pa6 : W8.cell? ⟨w.heap.size, 6, none⟩ = some (.int .u16 (c6 : Int)) := ba8.at 6 (by simp)
            have pa7 : W8.cell? ⟨w.heap.size, 7, none⟩ = some (.int .u16 (c7 : Int)) := ba8.at 7 (by simp)
            have pb0 : W8.cell? ⟨w8.heap.size, 0, none⟩ = some (.int .u16 (c0 : Int)) := bb8.at 0 (by simp)
            have pb1 : W8.cell? ⟨w8.heap.size, 1, none⟩ = some (.int .u16 (c1 : Int)) := bb8.at 1 (by simp)
            have pb2 : W8.cell? ⟨w8.heap.size, 2, none⟩ = some (.int .u16 (c2 : Int)) := bb8.at 2 (by simp)
            have pb3 : W8.cell? ⟨w8.heap.size, 3, none⟩ = some (.int .u16 (c3 : Int)) := bb8.at 3 (by simp)
            have pb4 : W8.cell? ⟨w8.heap.size, 4, none⟩ = some (.int .u16 (c4 : Int)) := bb8.at 4 (by simp)
            have pb5 : W8.cell? ⟨w8.heap.size, 5, none⟩ = some (.int .u16 (c5 : Int)) := bb8.at 5 (by simp)
            have pb6 : W8.cell? ⟨w8.heap.size, 6, none⟩ = some (.int .u16 (c6 : Int)) := bb8.at 6 (by simp)
            have pb7 : W8.cell? ⟨w8.heap.size, 7, none⟩ = some (.int .u16 (c7 : Int)) := bb8.at 7 (by simp)
            clear ba8 bb8
            go_wp2_with (rw [HW8.out])
            refine (AW.out _ B8).mono ?_; rintro e w10 ⟨rfl, hx⟩
            go_wp2_with fail
            go_ret
            exact ⟨rfl, hb9.trans (hx.mono hb9.size)⟩
      · skip
        have g1 : decide ((i : Int) < (fr : Int) + (n0 : Int)) = true := decide_eq_true (by have := hn3.out; omega)
        have g2 : decide ((i : Int) < 8) = false := decide_eq_false (by have := hn3.out; omega)
        go_wp2
        all_goals (try (exfalso; omega))
        clear g1
        clear g2
        go_loopw [11, 12] (fun sv iv wr => ∃ (S : ByteArray) (k : Nat), sv = .string S ∧ iv = .int .i64 k ∧ k ≤ 8 ∧ S.size ≤ 722 ∧ (k ≤ F ∨ (F + N ≤ k ∧ F < k)) ∧ Hid (un S = outS L F N k) ∧ Below WX.heap.size WX wr) (fun _ iv _ => 8 - (intOf iv).toNat)
        case atStart => exact ⟨⟨#[]⟩, 0, rfl, rfl, by omega, by decide, .inl (by omega), Lib.hid (by rw [outS_zero]; rfl), Below.refl _ _⟩
        case round =>
          obtain ⟨S, k, rfl, rfl, hk, hS, hkf, hst, hnx⟩ := hrel
          have hwr : w.heap.size < wr.heap.size := Nat.lt_of_lt_of_le hszX hnx.size
          by_cases hlt : k < 8
          · by_cases hgap : 0 < n ∧ k = fr
            · skip
              have hf1 := Lib.hid (show F = fr ∧ N = n by have := HFN.out; omega)
              have hg1 : k ≤ fr := by omega
              have hg2 : fr ≤ k := by omega
              have hg3 : 0 < n := hgap.1
              clear hgap hkf
              have g1 : ((k : Int) == (fr : Int)) = true := by simp; omega
              have g2 : decide ((0 : Int) < (n : Int)) = true := decide_eq_true (by omega)
              have hnx2 : Hid (un (S ++ (⟨#[58, 58]⟩ : ByteArray)) = outS L F N (fr + n)) := Lib.hid (by
                have hf1 := hf1.out
                have e := outS_gap L F N (by omega)
                rw [show F + N = fr + n by omega] at e
                rw [un_append, hst.out, e, show k = F by omega]
                rfl)
              have hsz : (S ++ (⟨#[58, 58]⟩ : ByteArray)).size ≤ 722 := by rw [← length_un, hnx2.out]; exact HLEN.out _
              clear hst
              go_wp2
              all_goals (try (exfalso; omega))
              go_roundw
              case rel => exact ⟨_, fr + n, rfl, by go_num, by omega, hsz, .inr (by have := hf1.out; omega), hnx2, hnx⟩
              case measure => simp [intOf]; omega
            · have hk2 : k < F ∨ (F + N ≤ k ∧ F < k) := by have := HFN.out; omega
              have hkL : k < L.length := by have := HLL.out; omega
              have hstep0 := outS_step L F N k hkL hk2
              rw [← hst.out] at hstep0
              have hsepT : (0 < k ∧ k ≠ F + N) → ((k ≠ fr ∧ 0 < k ∧ n ≤ 0) ∨ (k ≤ fr ∧ fr ≤ k ∧ 0 < k ∧ n ≤ 0) ∨ (k ≠ fr ∧ 0 < k ∧ 0 < n ∧ k ≠ fr + n)) := by
                intro h
                have hFN' := HFN.out
                omega
              have hsepF : ¬ (0 < k ∧ k ≠ F + N) → ((k ≠ fr ∧ k ≤ 0) ∨ (k ≤ fr ∧ fr ≤ k ∧ k ≤ 0 ∧ n ≤ 0) ∨ (k ≠ fr ∧ 0 < k ∧ 0 < n ∧ k ≤ fr + n ∧ fr + n ≤ k)) := by
                intro h
                have hFN' := HFN.out
                omega
              have hkz : k < z.length := by have := HZA.out.1; omega
              have hLk : L[k] = grpT zs up z[k] := by
                have e := HAT.out k hkz (fun h => by cases h)
                rw [List.getElem?_eq_getElem hkL] at e
                exact Option.some.inj e
              rw [hLk] at hstep0
              have hx := HZA.out.2 z[k] (List.getElem_mem hkz)
              have qz := (HBZ.out.below HBZ.out.lt hnx).later k hkz
              obtain ⟨x, hxx⟩ : ∃ x, x = z[k] := ⟨_, rfl⟩
              rw [← hxx] at hstep0 hx
              simp only [← hxx] at qz
              have hlx : (grpT zs up x).length ≤ 4 := (grpT_len zs up x hx).2
              have HG := Lib.hid (fun W => law_group x zs up W hx hzs4)
              clear hxx hLk hkz hst
              by_cases hsep : 0 < k ∧ k ≠ F + N
              · have hcs := hsepT hsep
                rw [if_pos hsep] at hstep0
                have hstep := Lib.hid hstep0
                clear hsepT hsepF hstep0 hsep hk2 hkL
                rcases (by by_cases h : k = 6 <;> simp <;> omega : ((k : Int) == 6) = true ∨ ((k : Int) == 6) = false) with g6 | g6
                all_goals
                  rcases hcs with ⟨d1, d2, d3⟩ | ⟨d1, d2, d3, d4⟩ | ⟨d1, d2, d3, d4⟩
                  all_goals (try (exfalso; have := hn3.out; omega))
                  all_goals
                    (first | have g1 : ((k : Int) == (fr : Int)) = false := by simp; omega | have g1 : ((k : Int) == (fr : Int)) = true := by simp; omega)
                    (try have g2 : decide ((0 : Int) < (n : Int)) = false := decide_eq_false (by omega))
                    (try have g2 : decide ((0 : Int) < (n : Int)) = true := decide_eq_true (by omega))
                    (first | have g3 : decide ((0 : Int) < (k : Int)) = true := decide_eq_true (by omega) | have g3 : decide ((0 : Int) < (k : Int)) = false := decide_eq_false (by omega))
                    (try have g4 : ((n : Int) == 0) = true := by simp; omega)
                    (try have g4 : ((n : Int) == 0) = false := by simp; omega)
                    (try have g5 : ((k : Int) != (fr : Int) + (n : Int)) = true := by simp; omega)
                    (try have g5 : ((k : Int) != (fr : Int) + (n : Int)) = false := by simp; omega)
                    have hnx2 : Hid (un (S ++ (⟨#[58]⟩ : ByteArray) ++ mk (grpT zs up x)) = outS L F N (k + 1)) := Lib.hid (by rw [un_append, un_append, un_mk, List.append_assoc, hstep.out]; rfl)
                    have hsz : (S ++ (⟨#[58]⟩ : ByteArray) ++ mk (grpT zs up x)).size ≤ 722 := by rw [← length_un, hnx2.out]; exact HLEN.out (k + 1)
                    clear hstep
                    go_wp2_with fail
                    all_goals (try (exfalso; omega))
                    refine wp_region_later wr (by kernel_rfl) (by kernel_rfl) (Below.refl _ _) ?_
                    repeat (go_big_quiet_step (fail))
                    go_big_quiet_step (exact Calls.later_same (M3.out _))
                    repeat (go_big_quiet_step (fail))
                    go_big_quiet_step (exact Calls.later_same (HG.out _))
                    repeat (go_big_quiet_step (fail))
                    refine wpQuiet_nil ?_
                    intro w7 hw'
                    obtain ⟨⟨w9, hb7⟩, rfl⟩ := hw'
                    go_wp2
                    all_goals (try (exfalso; omega))
                    go_roundw
                    case rel => exact ⟨_, k + 1, rfl, by go_num, by omega, hsz, by omega, hnx2, hnx.trans (hb7.mono hnx.size)⟩
                    case measure => simp [intOf]; omega
              · have hcs := hsepF hsep
                rw [if_neg hsep] at hstep0
                have hstep := Lib.hid hstep0
                clear hsepT hsepF hstep0 hsep hk2 hkL
                rcases (by by_cases h : k = 6 <;> simp <;> omega : ((k : Int) == 6) = true ∨ ((k : Int) == 6) = false) with g6 | g6
                all_goals
                  rcases hcs with ⟨d1, d2⟩ | ⟨d1, d2, d3, d4⟩ | ⟨d1, d2, d3, d4, d5⟩
                  all_goals (try (exfalso; have := hn3.out; omega))
                  all_goals
                    (first | have g1 : ((k : Int) == (fr : Int)) = false := by simp; omega | have g1 : ((k : Int) == (fr : Int)) = true := by simp; omega)
                    (try have g2 : decide ((0 : Int) < (n : Int)) = false := decide_eq_false (by omega))
                    (try have g2 : decide ((0 : Int) < (n : Int)) = true := decide_eq_true (by omega))
                    (first | have g3 : decide ((0 : Int) < (k : Int)) = true := decide_eq_true (by omega) | have g3 : decide ((0 : Int) < (k : Int)) = false := decide_eq_false (by omega))
                    (try have g4 : ((n : Int) == 0) = true := by simp; omega)
                    (try have g4 : ((n : Int) == 0) = false := by simp; omega)
                    (try have g5 : ((k : Int) != (fr : Int) + (n : Int)) = true := by simp; omega)
                    (try have g5 : ((k : Int) != (fr : Int) + (n : Int)) = false := by simp; omega)
                    have hnx2 : Hid (un (S ++ mk (grpT zs up x)) = outS L F N (k + 1)) := Lib.hid (by rw [un_append, un_mk, hstep.out]; rfl)
                    have hsz : (S ++ mk (grpT zs up x)).size ≤ 722 := by rw [← length_un, hnx2.out]; exact HLEN.out (k + 1)
                    clear hstep
                    go_wp2_with fail
                    all_goals (try (exfalso; omega))
                    refine wp_region_later wr (by kernel_rfl) (by kernel_rfl) (Below.refl _ _) ?_
                    repeat (go_big_quiet_step (fail))
                    go_big_quiet_step (exact Calls.later_same (M3.out _))
                    repeat (go_big_quiet_step (fail))
                    go_big_quiet_step (exact Calls.later_same (HG.out _))
                    repeat (go_big_quiet_step (fail))
                    refine wpQuiet_nil ?_
                    intro w7 hw'
                    obtain ⟨⟨w9, hb7⟩, rfl⟩ := hw'
                    go_wp2
                    all_goals (try (exfalso; omega))
                    go_roundw
                    case rel => exact ⟨_, k + 1, rfl, by go_num, by omega, hsz, by omega, hnx2, hnx.trans (hb7.mono hnx.size)⟩
                    case measure => simp [intOf]; omega
          · skip
            have hun : Hid (un S = outS L F N 8) := Lib.hid (by rw [hst.out, show k = 8 by omega])
            have hsz : S.size ≤ 722 := hS
            have hbq := hallX.trans (hnx.mono hallX.size)
            have hzq := HBZ.out.below HBZ.out.lt hnx
            clear hst
            have CP := Lib.hid (HPS.out S (by first | omega | (have := hsz; omega)) hun.out)
            have BQ := HB.out.below hbq
            clear hun
            go_wp2_with fail
            all_goals (try (exfalso; omega))
            refine (CP.out _ BQ).mono ?_; rintro e w8 ⟨rfl, hx⟩
            obtain ⟨W8, hW8⟩ : ∃ W8, W8 = w8.alloc (.cells #[.int .u16 (c0 : Int), .int .u16 (c1 : Int), .int .u16 (c2 : Int), .int .u16 (c3 : Int), .int .u16 (c4 : Int), .int .u16 (c5 : Int), .int .u16 (c6 : Int), .int .u16 (c7 : Int)] 39) := ⟨_, rfl⟩
            have hz8 := hzq.below hzq.lt hx
            have hb8 := hbq.trans (hx.mono hbq.size)
            have hb9 : Below w.heap.size w W8 := by rw [hW8]; exact hb8.alloc hb8.size _
            have ba8 : BlkN W8 w.heap.size 39 (gcells [c0, c1, c2, c3, c4, c5, c6, c7]).toArray := by rw [hW8, ← HZL.out]; exact hz8.alloc _
            have bb8 : BlkN W8 w8.heap.size 39 (gcells [c0, c1, c2, c3, c4, c5, c6, c7]).toArray := by rw [hW8]; exact BlkN.new _ _ _
            have B8 := HB.out.below hb9
            have HW8 := Lib.hid hW8.symm
            clear hx hz8 hb8 hW8 hbq hzq BQ CP HPS
            have pa0 : W8.cell? ⟨w.heap.size, 0, none⟩ = some (.int .u16 (c0 : Int)) := ba8.at 0 (by simp)
            have pa1 : W8.cell? ⟨w.heap.size, 1, none⟩ = some (.int .u16 (c1 : Int)) := ba8.at 1 (by simp)
            have pa2 : W8.cell? ⟨w.heap.size, 2, none⟩ = some (.int .u16 (c2 : Int)) := ba8.at 2 (by simp)
            have pa3 : W8.cell? ⟨w.heap.size, 3, none⟩ = some (.int .u16 (c3 : Int)) := ba8.at 3 (by simp)
            have pa4 : W8.cell? ⟨w.heap.size, 4, none⟩ = some (.int .u16 (c4 : Int)) := ba8.at 4 (by simp)
            have pa5 : W8.cell? ⟨w.heap.size, 5, none⟩ = some (.int .u16 (c5 : Int)) := ba8.at 5 (by simp)
            have pa6 : W8.cell? ⟨w.heap.size, 6, none⟩ = some (.int .u16 (c6 : Int)) := ba8.at 6 (by simp)
            have pa7 : W8.cell? ⟨w.heap.size, 7, none⟩ = some (.int .u16 (c7 : Int)) := ba8.at 7 (by simp)
            have pb0 : W8.cell? ⟨w8.heap.size, 0, none⟩ = some (.int .u16 (c0 : Int)) := bb8.at 0 (by simp)
            have pb1 : W8.cell? ⟨w8.heap.size, 1, none⟩ = some (.int .u16 (c1 : Int)) := bb8.at 1 (by simp)
            have pb2 : W8.cell? ⟨w8.heap.size, 2, none⟩ = some (.int .u16 (c2 : Int)) := bb8.at 2 (by simp)
            have pb3 : W8.cell? ⟨w8.heap.size, 3, none⟩ = some (.int .u16 (c3 : Int)) := bb8.at 3 (by simp)
            have pb4 : W8.cell? ⟨w8.heap.size, 4, none⟩ = some (.int .u16 (c4 : Int)) := bb8.at 4 (by simp)
            have pb5 : W8.cell? ⟨w8.heap.size, 5, none⟩ = some (.int .u16 (c5 : Int)) := bb8.at 5 (by simp)
            have pb6 : W8.cell? ⟨w8.heap.size, 6, none⟩ = some (.int .u16 (c6 : Int)) := bb8.at 6 (by simp)
            have pb7 : W8.cell? ⟨w8.heap.size, 7, none⟩ = some (.int .u16 (c7 : Int)) := bb8.at 7 (by simp)
            clear ba8 bb8
            go_wp2_with (rw [HW8.out])
            refine (AW.out _ B8).mono ?_; rintro e w10 ⟨rfl, hx⟩
            go_wp2_with fail
            go_ret
            exact ⟨rfl, hb9.trans (hx.mono hb9.size)⟩
end Go.Proofs.YtblcgicgbindlaaDoor
