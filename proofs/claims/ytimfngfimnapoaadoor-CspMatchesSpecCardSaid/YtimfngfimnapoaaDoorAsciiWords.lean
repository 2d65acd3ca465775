/- The walks of Words and Digits (program and reference), and of the helpers Short and Texts. Conditions: the strings' lengths are bounded. -/
import Derived.Test.YtimfngfimnapoaaDoorAsciiText
namespace Go.Proofs.YtimfngfimnapoaaDoor
open Go.RowKit Hs
set_option linter.unusedSimpArgs false
set_option linter.unusedVariables false

set_option maxHeartbeats 1500000 in
theorem ascii_words (s : ByteArray) (w : World) (hs : s.size ≤ 100000000) : Calls Tryd.prog 22 #[.string s] w fun e w' => ∃ v, e = .returned v ∧ w'.ownsRow w.heap.size 9 1 v (words (un s)).length (scells (words (un s))) ∧ (words (un s)).length ≤ s.size + 1 ∧ Below w.heap.size w w' := by
  obtain ⟨iS0, iS⟩ := info_parts infoStr
  go_enter Tryd.func22, Tryd.ntmps22
  go_wp2
  go_loopw [3, 4, 5] (fun v f i wr => ∃ (k fr : Nat) (D : List Bs), i = .int .i64 k ∧ f = .int .i64 fr ∧ fr ≤ k ∧ k ≤ s.size + 1 ∧ D.length ≤ k ∧ wr.ownsRow w.heap.size 9 1 v D.length (scells D) ∧ Below w.heap.size w wr ∧ Hid (WordsTo (un s) D fr k))
    (fun _ _ i _ => s.size + 1 - (intOf i).toNat)
  case atStart => exact ⟨0, 0, [], rfl, rfl, by omega, by omega, by simp, World.ownsRow_nil _ _ _ _, Below.refl _ _, WordsTo.start _⟩
  case round =>
    obtain ⟨k, fr, D, rfl, rfl, hfk, hk, hD, hown, hnx, hwt⟩ := hrel
    have hsize := hnx.size
    by_cases hlt : k < s.size
    · cases hb : isSpace (s[k]'hlt)
      · have hch := Lib.hid (hwt.out.char hfk (by rw [length_un]; omega) hb)
        clear hwt
        go_wp2_with (go_at_call 28; refine (ascii_isSpace _ _ rfl _).mono ?_; rintro e w' ⟨rfl, rfl⟩)
        go_roundw
        case rel => exact ⟨k + 1, fr, D, by go_num, rfl, by omega, by omega, by omega, hown, hnx, hch⟩
        case measure => simp [intOf]; omega
      · have hb' : ∀ hk' : k < (un s).length, isSpace (un s)[k] = true := fun _ => hb
        have hcut := Lib.hid (hwt.out.cut hfk (by rw [length_un]; omega) hb')
        clear hwt hb'
        by_cases hgt : fr < k
        · have ex := Lib.hid (extract_seg s fr k)
          go_wp2_with (first | (at_builtin; refine wpList_append_own _ rfl (.tmp 26) (.tmp 31) 22 rfl (w.heap.size) 9 iS0 (.string ByteArray.empty) 1 16 Tryd.underlying22 iS.1 iS.2.1 iS.2.2.1 iS.2.2.2 rfl (by decide) _ _ _ rfl (hown.alloc _) ⟨wr.heap.size, 0, none⟩ 1 1 [_] rfl rfl (cell_one_new _ _ _) (by intro u hu; simp at hu; subst hu; rfl) (by unfold maxLen; omega) (by omega) (by simp; omega) ?_; intro v1 w1 hown1 hgrow1 hnil1) | (go_at_call 28; refine (ascii_isSpace _ _ rfl _).mono ?_; rintro e w' ⟨rfl, rfl⟩))
          go_roundw
          case rel =>
            refine ⟨k + 1, k + 1, D ++ [seg (un s) fr k], by go_num, by go_num, by omega, by omega, by simp; omega, ?_, (hnx.alloc (by omega) _).grown hgrow1 (by simp; omega) (fun j hj => (hown.lt j hj).1), ?_⟩
            · have e := hown1
              rw [ex.out] at e
              rw [scells_append, List.length_append]
              exact e
            · have e := hcut.out
              rw [if_pos hgt] at e
              exact e
          case measure => simp [intOf]; omega
        · go_wp2_with (go_at_call 28; refine (ascii_isSpace _ _ rfl _).mono ?_; rintro e w' ⟨rfl, rfl⟩)
          go_roundw
          case rel =>
            refine ⟨k + 1, k + 1, D, by go_num, by go_num, by omega, by omega, by omega, hown, hnx, ?_⟩
            have e := hcut.out
            rw [if_neg hgt, List.append_nil] at e
            exact e
          case measure => simp [intOf]; omega
    · by_cases he : k = s.size
      · have he' : (k : Int) ≤ (s.size : Int) := by omega
        have hlt' : ¬ ((k : Int) < (s.size : Int)) := by omega
        have HE := Lib.hid he
        clear he
        have hcut := Lib.hid (hwt.out.cut hfk (by rw [length_un]; omega) (fun hk' => absurd hk' (by rw [length_un]; omega)))
        clear hwt
        by_cases hgt : fr < k
        · have ex := Lib.hid (extract_seg s fr k)
          go_wp2_with (first | (at_builtin; refine wpList_append_own _ rfl (.tmp 26) (.tmp 31) 22 rfl (w.heap.size) 9 iS0 (.string ByteArray.empty) 1 16 Tryd.underlying22 iS.1 iS.2.1 iS.2.2.1 iS.2.2.2 rfl (by decide) _ _ _ rfl (hown.alloc _) ⟨wr.heap.size, 0, none⟩ 1 1 [_] rfl rfl (cell_one_new _ _ _) (by intro u hu; simp at hu; subst hu; rfl) (by unfold maxLen; omega) (by omega) (by simp; omega) ?_; intro v1 w1 hown1 hgrow1 hnil1) | (go_at_call 28; refine (ascii_isSpace _ _ rfl _).mono ?_; rintro e w' ⟨rfl, rfl⟩))
          go_roundw
          case rel =>
            refine ⟨k + 1, k + 1, D ++ [seg (un s) fr k], by go_num, by go_num, by omega, by omega, by simp; omega, ?_, (hnx.alloc (by omega) _).grown hgrow1 (by simp; omega) (fun j hj => (hown.lt j hj).1), ?_⟩
            · have e := hown1
              rw [ex.out] at e
              rw [scells_append, List.length_append]
              exact e
            · have e := hcut.out
              rw [if_pos hgt] at e
              exact e
          case measure => simp [intOf]; omega
        · go_wp2_with (go_at_call 28; refine (ascii_isSpace _ _ rfl _).mono ?_; rintro e w' ⟨rfl, rfl⟩)
          go_roundw
          case rel =>
            refine ⟨k + 1, k + 1, D, by go_num, by go_num, by omega, by omega, by omega, hown, hnx, ?_⟩
            have e := hcut.out
            rw [if_neg hgt, List.append_nil] at e
            exact e
          case measure => simp [intOf]; omega
      · obtain rfl : k = s.size + 1 := by omega
        have hfin : Hid (D = words (un s)) := hwt.out.2 (by rw [length_un])
        clear hwt he
        go_wp2
        go_ret
        have e := hfin.out
        subst e
        exact ⟨_, rfl, hown, hD, hnx⟩

set_option maxHeartbeats 1500000 in
theorem ref01_words (s : ByteArray) (w : World) (hs : s.size ≤ 100000000) : Calls Tryd.prog 26 #[.string s] w fun e w' => ∃ v, e = .returned v ∧ w'.ownsRow w.heap.size 9 1 v (words (un s)).length (scells (words (un s))) ∧ (words (un s)).length ≤ s.size + 1 ∧ Below w.heap.size w w' := by
  obtain ⟨iS0, iS⟩ := info_parts infoStr
  go_enter Tryd.func26, Tryd.ntmps26
  go_wp2
  go_loopw [3, 4, 5] (fun v f i wr => ∃ (k fr : Nat) (D : List Bs), i = .int .i64 k ∧ f = .int .i64 fr ∧ fr ≤ k ∧ k ≤ s.size + 1 ∧ D.length ≤ k ∧ wr.ownsRow w.heap.size 9 1 v D.length (scells D) ∧ Below w.heap.size w wr ∧ Hid (WordsTo (un s) D fr k))
    (fun _ _ i _ => s.size + 1 - (intOf i).toNat)
  case atStart => exact ⟨0, 0, [], rfl, rfl, by omega, by omega, by simp, World.ownsRow_nil _ _ _ _, Below.refl _ _, WordsTo.start _⟩
  case round =>
    obtain ⟨k, fr, D, rfl, rfl, hfk, hk, hD, hown, hnx, hwt⟩ := hrel
    have hsize := hnx.size
    by_cases hlt : k < s.size
    · cases hb : isSpace (s[k]'hlt)
      · have hch := Lib.hid (hwt.out.char hfk (by rw [length_un]; omega) hb)
        clear hwt
        go_wp2_with (go_at_call 29; refine (ref01_isSpace _ _ rfl _).mono ?_; rintro e w' ⟨rfl, rfl⟩)
        go_roundw
        case rel => exact ⟨k + 1, fr, D, by go_num, rfl, by omega, by omega, by omega, hown, hnx, hch⟩
        case measure => simp [intOf]; omega
      · have hb' : ∀ hk' : k < (un s).length, isSpace (un s)[k] = true := fun _ => hb
        have hcut := Lib.hid (hwt.out.cut hfk (by rw [length_un]; omega) hb')
        clear hwt hb'
        by_cases hgt : fr < k
        · have ex := Lib.hid (extract_seg s fr k)
          go_wp2_with (first | (at_builtin; refine wpList_append_own _ rfl (.tmp 26) (.tmp 31) 22 rfl (w.heap.size) 9 iS0 (.string ByteArray.empty) 1 16 Tryd.underlying22 iS.1 iS.2.1 iS.2.2.1 iS.2.2.2 rfl (by decide) _ _ _ rfl (hown.alloc _) ⟨wr.heap.size, 0, none⟩ 1 1 [_] rfl rfl (cell_one_new _ _ _) (by intro u hu; simp at hu; subst hu; rfl) (by unfold maxLen; omega) (by omega) (by simp; omega) ?_; intro v1 w1 hown1 hgrow1 hnil1) | (go_at_call 29; refine (ref01_isSpace _ _ rfl _).mono ?_; rintro e w' ⟨rfl, rfl⟩))
          go_roundw
          case rel =>
            refine ⟨k + 1, k + 1, D ++ [seg (un s) fr k], by go_num, by go_num, by omega, by omega, by simp; omega, ?_, (hnx.alloc (by omega) _).grown hgrow1 (by simp; omega) (fun j hj => (hown.lt j hj).1), ?_⟩
            · have e := hown1
              rw [ex.out] at e
              rw [scells_append, List.length_append]
              exact e
            · have e := hcut.out
              rw [if_pos hgt] at e
              exact e
          case measure => simp [intOf]; omega
        · go_wp2_with (go_at_call 29; refine (ref01_isSpace _ _ rfl _).mono ?_; rintro e w' ⟨rfl, rfl⟩)
          go_roundw
          case rel =>
            refine ⟨k + 1, k + 1, D, by go_num, by go_num, by omega, by omega, by omega, hown, hnx, ?_⟩
            have e := hcut.out
            rw [if_neg hgt, List.append_nil] at e
            exact e
          case measure => simp [intOf]; omega
    · by_cases he : k = s.size
      · have he' : (k : Int) ≤ (s.size : Int) := by omega
        have hlt' : ¬ ((k : Int) < (s.size : Int)) := by omega
        have HE := Lib.hid he
        clear he
        have hcut := Lib.hid (hwt.out.cut hfk (by rw [length_un]; omega) (fun hk' => absurd hk' (by rw [length_un]; omega)))
        clear hwt
        by_cases hgt : fr < k
        · have ex := Lib.hid (extract_seg s fr k)
          go_wp2_with (first | (at_builtin; refine wpList_append_own _ rfl (.tmp 26) (.tmp 31) 22 rfl (w.heap.size) 9 iS0 (.string ByteArray.empty) 1 16 Tryd.underlying22 iS.1 iS.2.1 iS.2.2.1 iS.2.2.2 rfl (by decide) _ _ _ rfl (hown.alloc _) ⟨wr.heap.size, 0, none⟩ 1 1 [_] rfl rfl (cell_one_new _ _ _) (by intro u hu; simp at hu; subst hu; rfl) (by unfold maxLen; omega) (by omega) (by simp; omega) ?_; intro v1 w1 hown1 hgrow1 hnil1) | (go_at_call 29; refine (ref01_isSpace _ _ rfl _).mono ?_; rintro e w' ⟨rfl, rfl⟩))
          go_roundw
          case rel =>
            refine ⟨k + 1, k + 1, D ++ [seg (un s) fr k], by go_num, by go_num, by omega, by omega, by simp; omega, ?_, (hnx.alloc (by omega) _).grown hgrow1 (by simp; omega) (fun j hj => (hown.lt j hj).1), ?_⟩
            · have e := hown1
              rw [ex.out] at e
              rw [scells_append, List.length_append]
              exact e
            · have e := hcut.out
              rw [if_pos hgt] at e
              exact e
          case measure => simp [intOf]; omega
        · go_wp2_with (go_at_call 29; refine (ref01_isSpace _ _ rfl _).mono ?_; rintro e w' ⟨rfl, rfl⟩)
          go_roundw
          case rel =>
            refine ⟨k + 1, k + 1, D, by go_num, by go_num, by omega, by omega, by omega, hown, hnx, ?_⟩
            have e := hcut.out
            rw [if_neg hgt, List.append_nil] at e
            exact e
          case measure => simp [intOf]; omega
      · obtain rfl : k = s.size + 1 := by omega
        have hfin : Hid (D = words (un s)) := hwt.out.2 (by rw [length_un])
        clear hwt he
        go_wp2
        go_ret
        have e := hfin.out
        subst e
        exact ⟨_, rfl, hown, hD, hnx⟩



set_option maxHeartbeats 800000 in
theorem keep_short (n : Int) (v : Value) (l : List Bs) (w : World) (hv : Strs w v l) (hs : ∀ t ∈ l, t.length ≤ maxLen) : Calls Tryd.prog 16 #[.int .i64 n, v] w fun e w' => e = .returned (.bool (l.all fun t => decide ((t.length : Int) ≤ n))) ∧ w = w' := by
  obtain ⟨a, cap, rfl, hn, hm, hc⟩ := hv.open
  unfold maxLen at hm
  have HC := Lib.hid hc
  have HS := Lib.hid hs
  clear hc hs hv
  go_enter Tryd.func16, Tryd.ntmps16
  go_wp2
  go_loop [5] (fun i => ∃ k : Nat, i = .int .i64 k ∧ k ≤ l.length ∧ Hid ((l.all fun t => decide ((t.length : Int) ≤ n)) = ((l.drop k).all fun t => decide ((t.length : Int) ≤ n)))) (fun i => l.length - (intOf i).toNat)
  case atStart => exact ⟨0, rfl, by omega, rfl⟩
  case round =>
    obtain ⟨k, rfl, hk, ha⟩ := hrel
    by_cases hlt : k < l.length
    · obtain ⟨b, off, rfl, _, hcell⟩ := HC.out (by omega)
      have hk' := hcell k hlt
      clear hcell
      have hsz : (mk l[k]).size ≤ 9223372036854775807 := by have := HS.out l[k] (List.getElem_mem hlt); rw [size_mk]; simpa [maxLen] using this
      obtain ⟨t, ht⟩ : ∃ t, t = l[k] := ⟨_, rfl⟩
      rw [← ht] at hk' hsz
      have hd : Hid ((l.drop k).all (fun t => decide ((t.length : Int) ≤ n)) = (decide ((t.length : Int) ≤ n) && (l.drop (k + 1)).all fun t => decide ((t.length : Int) ≤ n))) := by
        rw [ht, List.drop_eq_getElem_cons hlt, List.all_cons]; rfl
      have hz : (mk t).size = t.length := size_mk t
      clear ht
      go_wp2
      · go_ret
        refine ⟨ret_bool ?_, rfl⟩
        rw [ha.out, hd.out, decide_eq_false (by omega)]; rfl
      · go_round
        case rel =>
          refine ⟨k + 1, by go_num, by omega, ?_⟩
          have e1 := ha.out
          rw [hd.out, decide_eq_true (by omega), Bool.true_and] at e1
          exact e1
        case measure => simp [intOf]; omega
    · obtain rfl : k = l.length := by omega
      have hfin : Hid ((l.all fun t => decide ((t.length : Int) ≤ n)) = true) := by
        have e1 := ha.out
        rw [List.drop_length] at e1
        exact e1
      go_wp2
      go_ret
      exact ⟨ret_bool hfin.out.symm, rfl⟩

theorem take_eq_step (l m : List Bs) (k : Nat) (h1 : k < l.length) (h2 : k < m.length) (h : l.take k = m.take k) : (l[k] = m[k] → l.take (k + 1) = m.take (k + 1)) ∧ (l[k] ≠ m[k] → l ≠ m) := by
  refine ⟨fun e => ?_, fun e he => e (by subst he; rfl)⟩
  rw [List.take_succ_eq_append_getElem h1, List.take_succ_eq_append_getElem h2, h, e]
set_option maxHeartbeats 1000000 in
theorem keep_texts (v u : Value) (l m : List Bs) (w : World) (hv : Strs w v l) (hu : Strs w u m) : Calls Tryd.prog 15 #[v, u] w fun e w' => e = .returned (.bool (decide (l = m))) ∧ Below w.heap.size w w' := by
  obtain ⟨a, cap, rfl, hn, hm, hc⟩ := hv.open
  obtain ⟨a2, cap2, rfl, hn2, hm2, hc2⟩ := hu.open
  unfold maxLen at hm hm2
  have HC := Lib.hid hc
  have HC2 := Lib.hid hc2
  clear hc hc2 hv hu
  by_cases hll : l.length = m.length
  · have hl1 : ((l.length : Int) != (m.length : Int)) = false := by simp [hll]
    have hl2 : m.length ≤ l.length := by omega
    have hl3 : l.length ≤ m.length := by omega
    clear hll
    go_enter Tryd.func15, Tryd.ntmps15
    go_wp2
    go_loopw [5] (fun i wr => ∃ k : Nat, i = .int .i64 k ∧ k ≤ l.length ∧ Below w.heap.size w wr ∧ Hid (l.take k = m.take k)) (fun i _ => l.length - (intOf i).toNat)
    case atStart => exact ⟨0, rfl, by omega, Below.refl _ _, rfl⟩
    case round =>
      obtain ⟨k, rfl, hk, hnx, ht⟩ := hrel
      by_cases hlt : k < l.length
      · obtain ⟨b, off, rfl, hb1, hcell⟩ := HC.out (by omega)
        obtain ⟨b2, off2, rfl, hb2, hcell2⟩ := HC2.out (by omega)
        have c1 := (hnx.cell (p := ⟨b, off + k, none⟩) hb1).trans (hcell k hlt)
        have c2 := (hnx.cell (p := ⟨b2, off2 + k, none⟩) hb2).trans (hcell2 k (by omega))
        clear hcell hcell2
        have hst := take_eq_step l m k hlt (by omega) ht.out
        have HST := Lib.hid hst
        clear hst
        obtain ⟨x, hx⟩ : ∃ x, x = l[k] := ⟨_, rfl⟩
        obtain ⟨y, hy⟩ : ∃ y, y = m[k]'(by omega) := ⟨_, rfl⟩
        rw [← hx] at c1
        rw [← hy] at c2
        have HX := Lib.hid hx
        have HY := Lib.hid hy
        clear hx hy
        by_cases hxy : x = y
        · have he : ((mk x).toList == (mk y).toList) = true := by rw [hxy]; simp
          have HXY := Lib.hid hxy
          clear hxy
          go_wp2
          go_quiet (fail)
          go_wp2
          go_roundw
          case rel =>
            refine ⟨k + 1, by go_num, by omega, by first | exact hnx | exact below_drewN hnx _, ?_⟩
            exact HST.out.1 (by rw [← HX.out, ← HY.out]; exact HXY.out)
          case measure => simp [intOf]; omega
        · have he : ((mk x).toList == (mk y).toList) = false := by simp [toList_un, hxy]
          have HXY := Lib.hid hxy
          clear hxy
          go_wp2
          go_quiet (fail)
          go_wp2
          go_ret
          exact ⟨ret_bool (bfalse (HST.out.2 (by rw [← HX.out, ← HY.out]; exact HXY.out))), by first | exact hnx | exact below_drewN hnx _⟩
      · obtain rfl : k = l.length := by omega
        have hfin : Hid (l = m) := by
          have e := ht.out
          rw [List.take_length, List.take_of_length_le (by omega)] at e
          exact e
        clear ht
        go_wp2
        go_ret
        exact ⟨ret_bool (btrue hfin.out), hnx⟩
  · have hl1 : ((l.length : Int) != (m.length : Int)) = true := by simp; omega
    have hne : l ≠ m := fun e => hll (by rw [e])
    have HNE := Lib.hid hne
    clear hll hne
    go_enter Tryd.func15, Tryd.ntmps15
    go_wp2
    go_ret
    exact ⟨ret_bool (bfalse HNE.out), Below.refl _ _⟩
end Go.Proofs.YtimfngfimnapoaaDoor
