/- The walk of Parse of the layer sts (program). Conditions: the text's length is bounded. -/
import Derived.Test.YtjdkmidajhbefaaDoorStsMap
import Derived.Test.YtjdkmidajhbefaaDoorDirB
import Derived.Test.YtjdkmidajhbefaaDoorDirK
import Derived.Test.YtjdkmidajhbefaaDoorSeconds
import Derived.Test.YtjdkmidajhbefaaDoorBlkTwo
namespace Go.Proofs.YtjdkmidajhbefaaDoor
open Go.RowKit Go.Maps Hs
set_option linter.unusedSimpArgs false
set_option linter.unusedVariables false

theorem polSize : (Tryd.prog.info? 23).map (·.size) = some 2 := by kernel_rfl
/-- A policy as a value. -/
def polVal (p : Int × Bool) : Value := .agg #[.int .i64 p.1, .bool p.2]
theorem stsP_err (l : Bs) (h : (parseD l).2 ≠ 0) : stsP l = ((0, false), (parseD l).2) := by unfold stsP stsR; rw [if_neg h]
theorem stsP_ok (l : Bs) (h : (parseD l).2 = 0) : stsP l = stsL (parseD l).1 := by unfold stsP stsR; rw [if_pos h]

set_option maxHeartbeats 4000000 in
theorem sts_parse (s : ByteArray) (w : World) (hs : s.size ≤ 100000000) : Calls Tryd.prog 7 #[.string s] w fun e w' => e = .returned (.tuple #[polVal (stsP (un s)).1, .int .i64 (stsP (un s)).2]) ∧ Below w.heap.size w w' := by
  have hbare := Lib.hid (parseD_bareD (un s))
  have hbd := Lib.hid (parseD_bound (un s))
  by_cases he : (parseD (un s)).2 = 0
  · have hP := Lib.hid (stsP_ok (un s) he)
    go_enter Tryd.func7, Tryd.ntmps7
    go_wp2_with fail
    refine (d_parse s _ hs).mono ?_; rintro e w1 ⟨v1, rfl, hown1, hb1⟩
    rw [he]
    have r1 := (Blk2.new w 23 (.int .i64 0) (.bool false)).below hb1
    have B1 := (((Below.refl w.heap.size w).alloc (Nat.le_refl _) _).trans (hb1.mono (by simp)))
    have hd1 := Dirs.owned hown1
    generalize (parseD (un s)).1 = L at *
    have hL32 := hbd.out.1
    clear hb1 hown1 he
    obtain ⟨ao, cap, rfl, hc1, hc2, hc⟩ := hd1.open
    unfold maxLen at hc2
    have HC := Lib.hid hc
    clear hc hd1
    have hmm := @run_makeMap Tryd.prog
    go_wp2_with fail
    have hm0 := World.ownsMap_made w1 Tryd.prog 9 dirElem
    go_loopw [29] (fun iv wr => ∃ k : Nat, iv = .int .i64 k ∧ k ≤ L.length ∧ wr.ownsMap Tryd.prog 9 dirElem w1.heap.size k (mapD (L.take k)) ∧ Hid ((namesD (L.take k)).Nodup) ∧ Below w1.heap.size w1 wr) (fun iv _ => L.length - (intOf iv).toNat)
    case atStart => exact ⟨0, rfl, by omega, hm0, Lib.hid (by simp [namesD]), (Below.refl _ _).alloc (Nat.le_refl _) _⟩
    case round =>
      obtain ⟨k, rfl, hk, hown, hnd, hnx⟩ := hrel
      have hsz := hnx.size
      by_cases hlt : k < L.length
      · obtain ⟨b, off, rfl, hb1, hcell⟩ := HC.out (by omega)
        obtain ⟨x0, x1, x2⟩ := hcell k hlt
        have c0 := (hnx.cell (p := ⟨b, off + k * 3, none⟩) hb1).trans x0
        have c1 := (hnx.cell (p := ⟨b, off + k * 3 + 1, none⟩) hb1).trans x1
        have c2 := (hnx.cell (p := ⟨b, off + k * 3 + 2, none⟩) hb1).trans x2
        have hszd := hbd.out.2 L[k] (List.getElem_mem hlt)
        have hdup := Lib.hid (dup_at L k hlt)
        have hstep := Lib.hid (nodup_step L k hlt hnd.out)
        have hmap : Hid (mapD (L.take (k + 1)) = (mapD (L.take k)).put (.string L[k].1) (dd L[k])) := Lib.hid (by rw [List.take_succ_eq_append_getElem hlt, mapD_snoc])
        clear hcell x0 x1 x2
        obtain ⟨x, hx⟩ : ∃ x, x = L[k] := ⟨_, rfl⟩
        rw [← hx] at c0 c1 c2 hszd hdup hstep hmap
        clear hx
        obtain ⟨n, z, t⟩ := x
        simp only at c0 c1 c2 hszd hdup hstep
        have hzm : (mk n).size ≤ 4096 := by rw [size_mk]; exact hszd.1
        obtain ⟨⟨y0, y1, y2⟩, hy⟩ : ∃ y, dirOf (findD (L.take k) (un (mk n))) = y := ⟨_, rfl⟩
        obtain ⟨ok, hok⟩ : ∃ y, (findD (L.take k) (un (mk n))).isSome = y := ⟨_, rfl⟩
        have hok' := hok
        rw [un_mk] at hok'
        have HY := Lib.hid hy
        have HO := Lib.hid hok
        have HO' := Lib.hid hok'
        have HM := Lib.hid (dirElem_mk (n, z, t))
        have HK : Hid (keyOf Tryd.prog 9 (.string (mk n)) = some (.string n)) := Lib.hid (by rw [WideMaps.keyOf_string_mk Tryd.underlying9 (by unfold maxLen; omega)]; exact congrArg some (congrArg Lit.string (un_mk n)))
        clear hy hok hok' hszd
        cases ok
        · go_wp2_with (first
            | (at_lookup; refine wpList_lookup_dir rfl _ _ rfl w1.heap.size k (L.take k) rfl (hown.alloc _) hnd.out (mk n) rfl (by unfold maxLen; omega) (y0, y1, y2) false HY.out HO.out ?_)
            | (at_mapUpdate; refine wpList_mapUpdate_own _ rfl _ _ _ 35 rfl 9 37 law_key Tryd.underlying35 dirElem w1.heap.size k (mapD (L.take k)) rfl ((hown.alloc _).alloc _) (by unfold maxLen; omega) _ _ (.string n) rfl rfl HK.out (dd (n, z, t)) [] HM.out ?_; intro w5 hown5 hgrow5))
          go_roundw
          case rel =>
            refine ⟨k + 1, by go_num, by omega, ?_, Lib.hid (hstep.out HO'.out), ((hnx.alloc (by omega) _).alloc (by simp; omega) _).grown hgrow5 (by simp; omega) (fun b hb => by cases hb; exact Nat.le_refl _)⟩
            rw [hmap.out]
            exact hown5
          case measure => simp [intOf]; omega
        · have hfin := Lib.hid (hP.out.trans (stsL_dup L (hdup.out HO'.out)))
          have r2 := r1.below hnx
          have f0 := r2.f0; have f1 := r2.f1
          have p0 := r2.c0; have p1 := r2.c1
          have hne : w.heap.size ≠ wr.heap.size := by have := r2.lt; omega
          have hpl := r2.lt
          go_wp2_with (first
            | (at_lookup; refine wpList_lookup_dir rfl _ _ rfl w1.heap.size k (L.take k) rfl (hown.alloc _) hnd.out (mk n) rfl (by unfold maxLen; omega) (y0, y1, y2) true HY.out HO.out ?_))
          refine bodyPost_ret (results_ct rfl _ _ w.heap.size 23 _ _ rfl ((((r2.set0 _).set1 _).alloc _).alloc _) Tryd.underlying23 rfl polSize) rfl ?_
          exact ⟨by rw [hfin.out]; rfl, ((((B1.trans (hnx.mono B1.size)).setCell (by simp) _).setCell (by simp) _).alloc (by have := B1.size; simp; omega) _).alloc (by have := B1.size; simp; omega) _⟩
      · obtain rfl : k = L.length := by omega
        rw [List.take_length] at hown hnd
        have hPL := Lib.hid (hP.out.trans (stsL_ok L hnd.out))
        have r2 := r1.below hnx
        have B2 := B1.trans (hnx.mono B1.size)
        have hbA := Lib.hid (findD_bare L ageN hbare.out)
        obtain ⟨⟨a1, a2, a3⟩, ha⟩ : ∃ y, dirOf (findD L ageN) = y := ⟨_, rfl⟩
        obtain ⟨ai, hai⟩ : ∃ y, (findD L ageN).isSome = y := ⟨_, rfl⟩
        obtain ⟨⟨b1, b2, b3⟩, hb⟩ : ∃ y, dirOf (findD L subN) = y := ⟨_, rfl⟩
        obtain ⟨bi, hbi⟩ : ∃ y, (findD L subN).isSome = y := ⟨_, rfl⟩
        have hsz2 : a2.length ≤ 4096 := by
          unfold dirOf at ha
          cases hf : findD L ageN with
          | none => rw [hf] at ha; simp at ha; rw [ha.2.1]; simp
          | some d =>
            rw [hf] at ha
            have := (hbd.out.2 d (List.mem_of_find?_eq_some hf)).2
            simp at ha
            rw [ha] at this
            exact this
        have hbs : bi = false → b3 = false := by
          intro h
          rw [h] at hbi
          unfold dirOf at hb
          cases hf : findD L subN with
          | none => rw [hf] at hb; simp at hb; exact hb.2.2
          | some d => rw [hf] at hbi; cases hbi
        rw [ha, hb, hai, hbi] at hPL
        rw [ha] at hbA
        have HA := Lib.hid ha; have HAI := Lib.hid hai; have HB := Lib.hid hb; have HBI := Lib.hid hbi
        have hs2 : (mk a2).size ≤ 4096 := by rw [size_mk]; exact hsz2
        have hsp : Hid (∀ W : World, Calls Tryd.prog 11 #[.string (mk a2)] W fun e w' => e = .returned (.tuple #[.int .i64 (secR a2).1, .bool (secR a2).2]) ∧ W = w') := Lib.hid fun W => by
          have := s_parse (mk a2) W (by omega)
          rw [un_mk] at this
          exact this
        obtain ⟨ok, hok⟩ : ∃ y, (secR a2).2 = y := ⟨_, rfl⟩
        obtain ⟨sv, hsv⟩ : ∃ y, (secR a2).1 = y := ⟨_, rfl⟩
        have hnok : a3 = false → ok = false := by
          intro h
          have e := hbA.out h
          simp only at e
          rw [← hok, e]; rfl
        rw [hok, hsv] at hPL hsp
        clear ha hai hb hbi hok hsv hbA hsz2
        go_wp2_with (first
          | (at_lookup; refine wpList_lookup_dir rfl _ _ rfl w1.heap.size L.length L rfl hown hnd.out ⟨#[109, 97, 120, 45, 97, 103, 101]⟩ rfl (by simp [maxLen, ByteArray.size]) (a1, a2, a3) ai HA.out HAI.out ?_)
          | (at_lookup; refine wpList_lookup_dir rfl _ _ rfl w1.heap.size L.length L rfl (hown.alloc _) hnd.out ⟨#[105, 110, 99, 108, 117, 100, 101, 115, 117, 98, 100, 111, 109, 97, 105, 110, 115]⟩ rfl (by simp [maxLen, ByteArray.size]) (b1, b2, b3) bi HB.out HBI.out ?_))
        refine (hsp.out _).mono ?_; rintro e w' ⟨rfl, rfl⟩
        have f0 := r2.f0; have f1 := r2.f1
        have p0 := r2.c0; have p1 := r2.c1
        have hne : w.heap.size ≠ wr.heap.size := by have := r2.lt; omega
        have hpl := r2.lt
        have hB1s := B2.size
        have hcase : (ai = true ∧ a3 = false ∧ ok = false) ∨ (ai = true ∧ a3 = true ∧ ok = false) ∨ (ai = true ∧ a3 = true ∧ ok = true) ∨ ai = false := by
          cases ai
          · exact .inr (.inr (.inr rfl))
          · cases a3
            · exact .inl ⟨rfl, rfl, hnok rfl⟩
            · cases ok
              · exact .inr (.inl ⟨rfl, rfl, rfl⟩)
              · exact .inr (.inr (.inl ⟨rfl, rfl, rfl⟩))
        have hcase2 : (bi = false ∧ b3 = false) ∨ (bi = true ∧ b3 = false) ∨ (bi = true ∧ b3 = true) := by
          cases bi
          · exact .inl ⟨rfl, hbs rfl⟩
          · cases b3
            · exact .inr (.inl ⟨rfl, rfl⟩)
            · exact .inr (.inr ⟨rfl, rfl⟩)
        clear hnok hbs HA HAI HB HBI hown hsp
        rcases hcase with ⟨rfl, rfl, rfl⟩ | ⟨rfl, rfl, rfl⟩ | ⟨rfl, rfl, rfl⟩ | rfl <;> rcases hcase2 with ⟨rfl, rfl⟩ | ⟨rfl, rfl⟩ | ⟨rfl, rfl⟩
        all_goals
          go_wp2_with fail
          refine bodyPost_ret (results_ct rfl _ _ w.heap.size 23 _ _ rfl ((((r2.set0 _).set1 _).alloc _).alloc _) Tryd.underlying23 rfl polSize) rfl ?_
          exact ⟨by rw [hPL.out]; rfl, (((B2.setCell (by simp) _).setCell (by simp) _).alloc (by simp; omega) _).alloc (by simp; omega) _⟩
  · have hP := Lib.hid (stsP_err (un s) he)
    go_enter Tryd.func7, Tryd.ntmps7
    go_wp2_with fail
    refine (d_parse s _ hs).mono ?_; rintro e w1 ⟨v1, rfl, hown1, hb1⟩
    have r1 := (Blk2.new w 23 (.int .i64 0) (.bool false)).below hb1
    have B1 := (((Below.refl w.heap.size w).alloc (Nat.le_refl _) _).trans (hb1.mono (by simp)))
    obtain ⟨z, hz⟩ : ∃ z, z = (parseD (un s)).2 := ⟨_, rfl⟩
    rw [← hz] at hP he ⊢
    clear hz hb1 hown1
    have c0 := r1.c0; have c1 := r1.c1; have f0 := r1.f0; have f1 := r1.f1
    go_wp2_with fail
    refine bodyPost_ret (results_ct rfl _ _ w.heap.size 23 _ _ rfl ((r1.set0 _).set1 _) Tryd.underlying23 rfl polSize) rfl ?_
    exact ⟨by rw [hP.out]; rfl, (B1.setCell (by simp) _).setCell (by simp) _⟩
end Go.Proofs.YtjdkmidajhbefaaDoor
