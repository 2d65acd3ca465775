/- The walk of Decode of Punycode of the program. Conditions: the text's length is bounded. -/
import Derived.Test.YtjbciamhhfcdoaaGreatDoorSub11
import Derived.Test.YtjbciamhhfcdoaaGreatDoorSub07
import Derived.Test.YtjbciamhhfcdoaaGreatDoorSub12
namespace Go.Proofs.YtjbciamhhfcdoaaGreatDoor
open Go.RowKit Hs
set_option linter.unusedSimpArgs false
set_option linter.unusedVariables false
theorem run_eq_nil (v : Value) : True := trivial

set_option maxRecDepth 20000 in
set_option maxHeartbeats 16000000 in
theorem py_decode (s : ByteArray) (w : World) (hs : s.size ≤ 100000000) : Calls Tryz.prog 183 #[.string s] w fun e w' => (∃ v c, e = .returned (.tuple #[v, .int .i64 c]) ∧ ((c = 0 ∧ ∃ pts : List Nat, decV (un s) = some pts ∧ w'.ownsRow w.heap.size 3 1 v pts.length (ncells pts)) ∨ (c ≠ 0 ∧ v = .slice none 0 0 ∧ decV (un s) = none))) ∧ Below w.heap.size w w' := by
  obtain ⟨iN0, iN⟩ := info_parts infoInt
  have hlen : (un s).length = s.size := length_un s
  have hli := fun W => Tryz.strings_LastIndexByte s 45 (by omega) W
  have hdash : Lib.lastIndexByte s 45 = dashI (un s) := by rw [dashI_eq]; exact lastIndexByte_eq s 45
  obtain ⟨l, hl⟩ : ∃ l, l = un s := ⟨_, rfl⟩
  have hdef : Hid (decV l = if 1024 < l.length then none else if l.any (fun b => decide (128 ≤ b.toNat)) = true then none else if 256 < (cutD l).1.length then none else decL (cutD l).2 128 0 72 true ((cutD l).1.map UInt8.toNat)) := Lib.hid rfl
  rw [← hl] at hlen hdash ⊢
  simp only [hdash] at hli
  have HLI := Lib.hid hli
  have HL := Lib.hid hl
  have HLEN := Lib.hid hlen
  have HDB := Lib.hid (dashI_bounds l)
  clear hl hli hdash
  obtain ⟨n, hn⟩ : ∃ n, n = s.size := ⟨_, rfl⟩
  rw [← hn] at hs hlen
  have HN := Lib.hid hn
  have hsn : (s.size : Int) = (n : Int) := by rw [hn]
  clear hn hlen
  by_cases hlong : 1024 < n
  · have g1 : decide ((1024 : Int) < (n : Int)) = true := decide_eq_true (by omega)
    have hend : Hid (decV l = none) := Lib.hid (by rw [hdef.out, if_pos (by rw [HLEN.out, ← HN.out]; exact hlong)])
    clear hdef
    go_enter Tryz.func183, Tryz.ntmps183
    go_wp2
    all_goals (try (exfalso; omega))
    go_ret2
    exact ⟨⟨_, _, rfl, .inr ⟨by decide, rfl, hend.out⟩⟩, Below.refl _ _⟩
  · have g1 : decide ((1024 : Int) < (n : Int)) = false := decide_eq_false (by omega)
    have hdef2 := Lib.hid (hdef.out.trans (if_neg (by rw [HLEN.out, ← HN.out]; exact hlong)))
    clear hdef
    go_enter Tryz.func183, Tryz.ntmps183
    go_wp2
    all_goals (try (exfalso; omega))
    go_loop [14] (fun iv => ∃ k : Nat, iv = .int .i64 k ∧ k ≤ n ∧ Hid (l.any (fun b => decide (128 ≤ b.toNat)) = (l.drop k).any (fun b => decide (128 ≤ b.toNat)))) (fun iv => n - (intOf iv).toNat)
    case atStart => exact ⟨0, rfl, by omega, Lib.hid (by rw [List.drop_zero])⟩
    case round =>
      obtain ⟨k, rfl, hk, han⟩ := hrel
      by_cases hlt : k < n
      · have hks : k < s.size := by rw [← HN.out]; exact hlt
        have hkl : k < l.length := by rw [HLEN.out]; exact hks
        have hx : l[k] = s[k] := by
          have := HL.out
          subst this
          exact getElem_un s k hks
        obtain ⟨b, hb⟩ : ∃ b, b = s[k] := ⟨_, rfl⟩
        rw [← hb] at hx
        have hb256 := b.toNat_lt
        have cs : (s[k].toNat : Int) = (b.toNat : Int) := by rw [hb]
        have hst := any_take_drop l (fun b => decide (128 ≤ b.toNat)) k hkl
        have hdr := drop_any l (fun b => decide (128 ≤ b.toNat)) k hkl
        rw [hx] at hst hdr
        have HS := Lib.hid hst
        have HD := Lib.hid hdr
        clear hst hdr hx hb hkl
        obtain ⟨x, hx⟩ : ∃ x, x = b.toNat := ⟨_, rfl⟩
        rw [← hx] at cs hb256
        by_cases h128 : 128 ≤ x
        · have g2 : decide ((128 : Int) ≤ (x : Int)) = true := decide_eq_true (by omega)
          have hend : Hid (decV l = none) := Lib.hid (by rw [hdef2.out, han.out, HD.out, if_pos (by simp [← hx, h128])])
          clear hdef2 HS HD han hx
          go_wp2
          all_goals (try (exfalso; omega))
          go_ret2
          exact ⟨⟨_, _, rfl, .inr ⟨by decide, rfl, hend.out⟩⟩, Below.refl _ _⟩
        · have g2 : decide ((128 : Int) ≤ (x : Int)) = false := decide_eq_false (by omega)
          have han2 : Hid (l.any (fun b => decide (128 ≤ b.toNat)) = (l.drop (k + 1)).any (fun b => decide (128 ≤ b.toNat))) := Lib.hid (by rw [han.out]; exact HS.out (by rw [← hx]; simp; omega))
          clear hdef2 HS HD han hx
          go_wp2
          all_goals (try (exfalso; omega))
          go_round
          case rel => exact ⟨k + 1, by go_num, by omega, han2⟩
          case measure => simp [intOf]; omega
      · have hln : l.length ≤ k := by rw [HLEN.out, ← HN.out]; omega
        have hdef3 := hdef2.out.trans (if_neg (by rw [han.out, List.drop_of_length_le hln]; simp))
        clear hdef2 han
        obtain ⟨d, hd⟩ : ∃ d, d = dashI l := ⟨_, rfl⟩
        have hdb := HDB.out
        rw [← hd] at hdb
        have hlenN : l.length = n := by rw [HLEN.out, ← HN.out]
        rw [hlenN] at hdb
        have hc : cutD l = if 0 < d then (l.take d.toNat, l.drop (d.toNat + 1)) else ([], l) := by rw [hd]; rfl
        have hli2 := HLI.out
        rw [← hd] at hli2
        have HLI2 := Lib.hid hli2
        have HDEF3 := Lib.hid hdef3
        clear hd hli2 HLI hln HDB hdef3
        obtain ⟨g, hg⟩ : ∃ g, g = w.heap.size := ⟨_, rfl⟩
        have hnew : BlkL (w.alloc (.cells #[.string s, .slice none 0 0, .int .i64 128, .int .i64 0, .int .i64 72, .bool false] 220)) w.heap.size 220 [.string s, .slice none 0 0, .int .i64 128, .int .i64 0, .int .i64 72, .bool false] := BlkL.new w 220 _
        have hbel0 : Below w.heap.size w (w.alloc (.cells #[.string s, .slice none 0 0, .int .i64 128, .int .i64 0, .int .i64 72, .bool false] 220)) := (Below.refl _ _).alloc (Nat.le_refl _) _
        have hsz0 : (w.alloc (.cells #[.string s, .slice none 0 0, .int .i64 128, .int .i64 0, .int .i64 72, .bool false] 220)).heap.size = g + 1 := by rw [hg]; simp
        obtain ⟨w0, hw0⟩ : ∃ w0, w0 = w.alloc (.cells #[.string s, .slice none 0 0, .int .i64 128, .int .i64 0, .int .i64 72, .bool false] 220) := ⟨_, rfl⟩
        rw [← hw0, ← hg] at hnew hbel0
        rw [← hw0] at hsz0
        have HW0 := Lib.hid hw0
        have HG := Lib.hid hg
        have HNEW := Lib.hid hnew
        have HBEL0 := Lib.hid hbel0
        have HSZ0 := Lib.hid hsz0
        clear hg hw0 hnew hbel0 hsz0
        go_wp2_with fail
        all_goals (try (exfalso; omega))
        rw [← HW0.out, ← HG.out]
        refine (HLI2.out _).mono ?_; rintro e w2 ⟨rfl, rfl⟩
        go_upto_if 28 with fail
        all_goals (try (exfalso; omega))
        go_cut [] (fun wx => ∃ v, BlkL wx g 220 [.string (mk (cutD l).2), v, .int .i64 128, .int .i64 0, .int .i64 72, .bool false] ∧ wx.ownsRow (g + 1) 3 1 v (cutD l).1.length (ncells ((cutD l).1.map UInt8.toNat)) ∧ Below g w wx)
        case first =>
          rcases Int.lt_or_le 0 d with h0 | h0
          · have g2 : decide ((0 : Int) < d) = true := decide_eq_true h0
            rw [g2]
            obtain ⟨c, rfl⟩ : ∃ c : Nat, d = (c : Int) := ⟨d.toNat, by omega⟩
            have hc2 : cutD l = (l.take c, l.drop (c + 1)) := by rw [hc, if_pos h0]; rfl
            have HC2 := Lib.hid hc2
            clear hc hc2
            have hcn : c < n := by omega
            have g2n : decide (0 < c) = true := decide_eq_true (by omega)
            go_wp2
            all_goals (try (exfalso; omega))
            go_loopw [30] (fun iv wr => ∃ (j : Nat) (v : Value), iv = .int .i64 j ∧ j ≤ c ∧ BlkL wr g 220 [.string s, v, .int .i64 128, .int .i64 0, .int .i64 72, .bool false] ∧ wr.ownsRow (g + 1) 3 1 v j (ncells ((l.take j).map UInt8.toNat)) ∧ Below g w wr) (fun iv _ => c - (intOf iv).toNat)
            case atStart => exact ⟨0, .slice none 0 0, rfl, by omega, HNEW.out, World.ownsRow_nil _ _ _ _, HBEL0.out⟩
            case round =>
              obtain ⟨j, v, rfl, hj, hb, hown, hnx⟩ := hrel
              obtain ⟨a, cp, rfl⟩ := own_sliceN hown
              by_cases hlt : j < c
              · have hks : j < s.size := by rw [← HN.out]; omega
                have hkl : j < l.length := by rw [HLEN.out]; exact hks
                have hx : l[j] = s[j] := by
                  have := HL.out
                  subst this
                  exact getElem_un s j hks
                have hms := mapn_snoc l j hkl
                rw [hx] at hms
                have hb256 := (s[j]).toNat_lt
                obtain ⟨x, hx2⟩ : ∃ x, x = (s[j]).toNat := ⟨_, rfl⟩
                have cs : (s[j].toNat : Int) = (x : Int) := by rw [hx2]
                rw [← hx2] at hb256 hms
                have HMS := Lib.hid hms
                clear hms hx hx2 hkl
                have hjI : (j : Int) < (s.size : Int) := by omega
                have hjI2 : (j : Int) < (n : Int) := by omega
                have hjI3 : (0 : Int) ≤ (j : Int) := by omega
                have hjI4 : ¬ ((n : Int) ≤ (j : Int)) := by omega
                have y1 := hb.c 1 _ rfl
                have z1 : ∀ o, (wr.alloc o).cell? ⟨g, 1, none⟩ = some (.slice a j cp) := fun o => (hb.alloc o).c 1 _ rfl
                have HBX := Lib.hid ((hb.alloc (.cells #[.int .i64 (IntKind.i64.wrap (x : Int))] 3)).drew)
                have HOX := Lib.hid ((hown.alloc (.cells #[.int .i64 (IntKind.i64.wrap (x : Int))] 3)).drew)
                have HSX : Hid (Nums (wr.alloc (.cells #[.int .i64 (IntKind.i64.wrap (x : Int))] 3)).drew (.slice (some ⟨wr.heap.size, 0, none⟩) 1 1) [x]) := Lib.hid (by
                  rw [show IntKind.i64.wrap (x : Int) = (x : Int) by rw [IntKind.wrap_i64]; omega]
                  exact (num_lit wr x 3).below (Below.refl _ _).drew)
                have HNX := Lib.hid ((hnx.alloc (by have := HSZ0.out; have := hb.lt; omega) (.cells #[.int .i64 (IntKind.i64.wrap (x : Int))] 3)).drew)
                have hgl := hb.lt
                have hne : some g ≠ (Value.slice a j cp).ownBlock := fun e => by have := (hown.lt g e.symm).1; omega
                have HROW := Lib.hid hown
                clear hb hown hnx
                go_wp2_with fail
                all_goals (try (exfalso; omega))
                go_region_law (first | (refine step_append_nums (by rfl) _ _ (by rfl) (g + 1) (.slice a j cp) j _ (by rfl) HOX.out _ (by rfl) [x] HSX.out (by simp; omega) (by simp; omega) ?_; intro vA wA hA gA; obtain ⟨a', c', rfl⟩ := own_sliceN hA; have hB' := HBX.out.grown gA hne; have u1 := hB'.c 1 _ rfl; have t1 := hB'.f 1; have hL' := HNX.out.grown gA (by simp; omega) (fun k hk => by have := (HROW.out.lt k hk).1; omega)))
                · have hF := hA.kept (gb_set wA g 1 (.slice a' (j + [x].length) c')) (own_far hA (Nat.lt_succ_self g))
                  have hFB := hB'.set 1 (by simp) (.slice a' (j + [x].length) c')
                  have hFL := hL'.setCell (p := ⟨g, 1, none⟩) (Nat.le_refl _) (.slice a' (j + [x].length) c')
                  rw [← HMS.out] at hF
                  have HF := Lib.hid hF
                  have HFB := Lib.hid hFB
                  have HFL := Lib.hid hFL
                  clear hF hFB hFL hA hB' hL' gA u1 t1 z1 y1
                  go_wp2
                  all_goals (try (exfalso; omega))
                  go_roundw
                  case rel =>
                    exact ⟨j + 1, _, by go_num, by omega, HFB.out, HF.out, HFL.out⟩
                  case measure => simp [intOf]; omega
                · have hF := hA.kept (gb_set wA g 1 (.slice a' (j + [x].length) c')) (own_far hA (Nat.lt_succ_self g))
                  have hFB := hB'.set 1 (by simp) (.slice a' (j + [x].length) c')
                  have hFL := hL'.setCell (p := ⟨g, 1, none⟩) (Nat.le_refl _) (.slice a' (j + [x].length) c')
                  rw [← HMS.out] at hF
                  have HF := Lib.hid hF
                  have HFB := Lib.hid hFB
                  have HFL := Lib.hid hFL
                  clear hF hFB hFL hA hB' hL' gA u1 t1 z1 y1
                  go_wp2
                  all_goals (try (exfalso; omega))
                  go_roundw
                  case rel =>
                    exact ⟨j + 1, _, by go_num, by omega, HFB.out, HF.out, HFL.out⟩
                  case measure => simp [intOf]; omega
                · have hF := hA.kept (gb_set wA g 1 (.slice a' (j + [x].length) c')) (own_far hA (Nat.lt_succ_self g))
                  have hFB := hB'.set 1 (by simp) (.slice a' (j + [x].length) c')
                  have hFL := hL'.setCell (p := ⟨g, 1, none⟩) (Nat.le_refl _) (.slice a' (j + [x].length) c')
                  rw [← HMS.out] at hF
                  have HF := Lib.hid hF
                  have HFB := Lib.hid hFB
                  have HFL := Lib.hid hFL
                  clear hF hFB hFL hA hB' hL' gA u1 t1 z1 y1
                  go_wp2
                  all_goals (try (exfalso; omega))
                  go_roundw
                  case rel =>
                    exact ⟨j + 1, _, by go_num, by omega, HFB.out, HF.out, HFL.out⟩
                  case measure => simp [intOf]; omega
              · obtain rfl : j = c := by omega
                have hex : s.extract (j + 1) n = mk (l.drop (j + 1)) := by
                  apply un_inj
                  rw [un_extract, un_mk, HL.out]
                  apply List.take_of_length_le
                  rw [List.length_drop, length_un, HN.out]
                  omega
                have y0 := hb.c 0 _ rfl
                have f0 := hb.f 0
                have hsN : s.size = n := HN.out.symm
                go_wp2
                all_goals (try (exfalso; omega))
                all_goals (go_meet; exact ⟨.slice a j cp, by rw [HC2.out]; exact hb.set 0 (by simp) _, by
                  rw [HC2.out]
                  have h9 := hown.kept (gb_set wr g 0 (.string (mk (l.drop (j + 1))))) (own_far hown (Nat.lt_succ_self g))
                  have h8 : (l.take j).length = j := by rw [List.length_take, hlenN]; omega
                  rw [h8]
                  exact h9, hnx.setCell (p := ⟨g, 0, none⟩) (Nat.le_refl _) _⟩)
          · have g2 : decide ((0 : Int) < d) = false := decide_eq_false (by omega)
            rw [g2]
            rw [if_neg (by omega)] at hc
            have hss : mk l = s := by rw [HL.out, mk_un]
            go_wp2
            all_goals (try (exfalso; omega))
            all_goals (go_meet; exact ⟨.slice none 0 0, by rw [hc]; simp only [hss]; exact HNEW.out, by rw [hc]; exact World.ownsRow_nil _ _ _ _, HBEL0.out⟩)
        case rest =>
          obtain ⟨v, hb, hown, hnx⟩ := hcut
          clear HNEW HBEL0 HSZ0 HLI2 hc hdb
          obtain ⟨R0, hR0⟩ : ∃ R0, R0 = (cutD l).2 := ⟨_, rfl⟩
          obtain ⟨P0, hP0⟩ : ∃ P0, P0 = (cutD l).1.map UInt8.toNat := ⟨_, rfl⟩
          have hdef4 := HDEF3.out
          have hPl : P0.length = (cutD l).1.length := by rw [hP0, List.length_map]
          have hRl : R0.length ≤ n := by have := cutD_len l; rw [hR0]; omega
          rw [← hPl, ← hR0, ← hP0] at hdef4
          rw [← hPl, ← hP0] at hown
          rw [← hR0] at hb
          have HDEF4 := Lib.hid hdef4
          clear hdef4 HDEF3 hR0 hP0 hPl
          obtain ⟨m, hm⟩ : ∃ m, m = P0.length := ⟨_, rfl⟩
          rw [← hm] at hown HDEF4
          obtain ⟨a, cp, rfl⟩ := own_sliceN hown
          have y1 := hb.c 1 _ rfl
          have HM := Lib.hid hm
          have HB := Lib.hid hb
          have HOWN := Lib.hid hown
          have HNX := Lib.hid hnx
          clear hm hb hown hnx
          by_cases h256 : 256 < m
          · have g2 : decide ((256 : Int) < (m : Int)) = true := decide_eq_true (by omega)
            have hend : Hid (decV l = none) := Lib.hid (by rw [HDEF4.out, if_pos h256])
            clear HDEF4
            go_wp2
            all_goals (try (exfalso; omega))
            go_ret2
            exact ⟨⟨_, _, rfl, .inr ⟨by decide, rfl, hend.out⟩⟩, by rw [← HG.out]; exact HNX.out⟩
          · have g2 : decide ((256 : Int) < (m : Int)) = false := decide_eq_false (by omega)
            have HDEF5 := Lib.hid (HDEF4.out.trans (if_neg h256))
            clear HDEF4
            go_wp2
            all_goals (try (exfalso; omega))
            go_loopg [] R0.length (fun mm wr => ∃ (l2 : Bs) (v : Value) (pts : List Nat) (nn ii bi : Nat) (st : Bool), mm = l2.length ∧ l2.length ≤ n ∧ nn ≤ 1114111 ∧ ii ≤ 257 ∧ bi ≤ 324 ∧ pts.length ≤ 256 ∧ BlkL wr g 220 [.string (mk l2), v, .int .i64 (nn : Int), .int .i64 (ii : Int), .int .i64 (bi : Int), .bool st] ∧ wr.ownsRow (g + 1) 3 1 v pts.length (ncells pts) ∧ Hid (decV l = decL l2 nn ii bi (!st) pts) ∧ Below g w wr)
            case atStart => exact ⟨R0, _, P0, 128, 0, 72, false, rfl, hRl, by omega, by omega, by omega, by rw [← HM.out]; omega, HB.out, by rw [← HM.out]; exact HOWN.out, HDEF5, HNX.out⟩
            case round =>
              clear HB HOWN HNX HDEF5 y1 HM g2 h256
              obtain ⟨l2, v, pts, nn, ii, bi, st, rfl, hl2, hnn, hii, hbi, hpl, hb, hown, hst, hnx⟩ := hrel
              have y0 := hb.c 0 _ rfl
              cases l2 with
              | nil =>
                have e0 : mk ([] : Bs) = ⟨#[]⟩ := rfl
                rw [e0] at y0
                have hend : Hid (decV l = some pts) := Lib.hid (hst.out.trans (decL_nil _ _ _ _ _))
                obtain ⟨a, cp, rfl⟩ := own_sliceN hown
                have y1 := hb.c 1 _ rfl
                clear hst e0
                go_wp2
                all_goals (try (exfalso; omega))
                go_ret2
                exact ⟨⟨_, _, rfl, .inl ⟨rfl, pts, hend.out, Go.Joins.ownsRow_le hown (by rw [← HG.out]; omega)⟩⟩, by rw [← HG.out]; exact hnx⟩
              | cons b r =>
                have hem : (mk (b :: r)).toList.isEmpty = false := by
                  rw [List.isEmpty_eq_false_iff]
                  intro h
                  rw [toList_mk'] at h
                  cases h
                have hstep := d_step g (b :: r) v pts nn ii bi st wr hb hown (by simp) (by omega) hnn hii hbi hpl
                have HSTEP := Lib.hid hstep
                have HNX := Lib.hid hnx
                have hl3 : (b :: r).length ≤ n := hl2
                obtain ⟨s2, hs2⟩ : ∃ s2, s2 = mk (b :: r) := ⟨_, rfl⟩
                rw [← hs2] at y0 hem
                have HRL := Lib.hid hl3
                clear hstep hb hown hnx hs2 hl2 hl3
                go_wp2_with fail
                all_goals (try (exfalso; omega))
                refine HSTEP.out.mono ?_; rintro e w9 ⟨⟨c, rfl, hres⟩, hb9⟩
                have HX := Lib.hid (HNX.out.trans hb9)
                rcases hres with ⟨rfl, l3, v3, pts3, nn3, ii3, bi3, hdl, hlt, hn3, hi3, hbi3, hp3, hB3, hO3⟩ | ⟨hc, hnone⟩
                · have HST3 := Lib.hid (hst.out.trans hdl)
                  have HB3 := Lib.hid hB3
                  have HO3 := Lib.hid hO3
                  have HLT := Lib.hid hlt
                  clear hdl hst hB3 hO3 hlt hb9 HNX HSTEP
                  go_wp2
                  all_goals (try (exfalso; omega))
                  go_roundg l3.length
                  case measure => exact HLT.out
                  case rel => exact ⟨l3, v3, pts3, nn3, ii3, bi3, true, rfl, by have := HLT.out; have := HRL.out; omega, hn3, hi3, hbi3, hp3, HB3.out, HO3.out, HST3, HX.out⟩
                · have hcb : (c != 0) = true := by simpa using hc
                  have hend : Hid (decV l = none) := Lib.hid (hst.out.trans hnone)
                  have HC := Lib.hid hc
                  clear hc hst hnone hb9 HNX HSTEP
                  go_wp2
                  all_goals (try (exfalso; omega))
                  go_ret2
                  exact ⟨⟨_, _, rfl, .inr ⟨HC.out, rfl, hend.out⟩⟩, by rw [← HG.out]; exact HX.out⟩
end Go.Proofs.YtjbciamhhfcdoaaGreatDoor
