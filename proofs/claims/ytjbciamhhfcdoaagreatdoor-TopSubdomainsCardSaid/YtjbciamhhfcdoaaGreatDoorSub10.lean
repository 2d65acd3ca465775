/- The walk of decoder.number of Punycode of the program. Conditions: the decoder's block is known whole; the numbers are bounded.
   slices.Insert at []int, one number, in one sentence: the row that the call owns with the number put in. Conditions: the row is short; the number lies in a block of its own. -/
import Derived.Test.YtjbciamhhfcdoaaGreatDoorSub08
import Derived.Test.YtjbciamhhfcdoaaGreatDoorSub09
import Derived.Test.YtjbciamhhfcdoaaGreatDoorSub06
import Derived.Deep.LoopGhost
import Derived.Test.YtjbciamhhfcdoaaGreatDoorRows
import Derived.Test.YtjbciamhhfcdoaaGreatDoorSub05
import Derived.Shelf.Spec.SlicesInsert
import Derived.Shelf.Spec.SlicesInsertGrow
namespace Go.Proofs.YtjbciamhhfcdoaaGreatDoor
open Go.RowKit Hs
set_option linter.unusedSimpArgs false
set_option linter.unusedVariables false

set_option maxRecDepth 20000 in
set_option maxHeartbeats 16000000 in
theorem d_number (g : Nat) (l : Bs) (v : Value) (nn ii bi : Nat) (st : Bool) (w : World) (hd : BlkL w g 220 [.string (mk l), v, .int .i64 (nn : Int), .int .i64 (ii : Int), .int .i64 (bi : Int), .bool st]) (hl : l.length ≤ 100000) (hii : ii ≤ 257) (hbi : bi ≤ 324) :
    Calls Tryz.prog 240 #[.pointer (some ⟨g, 0, none⟩)] w fun e w' => (∃ c, e = .returned (.int .i64 c) ∧ ((c = 0 ∧ ∃ p : Nat × Bs, numD l ii 1 0 bi = some p ∧ BlkL w' g 220 [.string (mk p.2), v, .int .i64 (nn : Int), .int .i64 (p.1 : Int), .int .i64 (bi : Int), .bool st]) ∨ (c ≠ 0 ∧ numD l ii 1 0 bi = none))) ∧ w.grownBy w' (some g) := by
  have hth := fun W => py_thresholds bi W
  have HTH := Lib.hid hth
  obtain ⟨N, hN⟩ : ∃ N, N = numD l ii 1 0 bi := ⟨_, rfl⟩
  have HN := Lib.hid hN
  rw [← hN]
  obtain ⟨z, hz⟩ : ∃ z, z = w.heap.size := ⟨_, rfl⟩
  obtain ⟨wB, hwB⟩ : ∃ wB, wB = w.alloc (.cells #[.int .i64 (bi : Int)] 3) := ⟨_, rfl⟩
  obtain ⟨wK, hwK⟩ : ∃ wK, wK = wB.alloc (.cells #[.int .i64 0] 3) := ⟨_, rfl⟩
  have hsB : wB.heap.size = z + 1 := by rw [hwB, hz]; simp
  have hsK : wK.heap.size = z + 2 := by rw [hwK]; simp; omega
  have hBB : Boxed wK z 3 (.int .i64 (bi : Int)) := by rw [hwK, hwB, hz]; exact (Boxed.new w _ _).alloc _
  have hBK : Boxed wK (z + 1) 3 (.int .i64 ((36 * 0 : Nat) : Int)) := by rw [hwK, ← hsB]; exact Boxed.new wB _ _
  have hdK : BlkL wK g 220 [.string (mk l), v, .int .i64 (nn : Int), .int .i64 (ii : Int), .int .i64 (bi : Int), .bool st] := by rw [hwK, hwB]; exact (hd.alloc _).alloc _
  have hgK : w.grownBy wK (some g) := by rw [hwK, hwB]; exact gb_alloc (gb_alloc (gb_refl _ _) _) _
  have hth2 : Hid (∀ (e : Ending) (w' : World), e = .returned (.func (.func 258) #[] #[.pointer (some ⟨w.heap.size + 1, 0, none⟩), .pointer (some ⟨w.heap.size, 0, none⟩)]) ∧ w' = (w.alloc (.cells #[.int .i64 (bi : Int)] 3)).alloc (.cells #[.int .i64 0] 3) →
      e = .returned (.func (.func 258) #[] #[.pointer (some ⟨z + 1, 0, none⟩), .pointer (some ⟨z, 0, none⟩)]) ∧ w' = wK) := Lib.hid (by rintro e w' ⟨rfl, rfl⟩; rw [hwK, hwB, hz]; exact ⟨rfl, rfl⟩)
  have hgz : g < z := by rw [hz]; exact hd.lt
  have c4 := hd.c 4 _ rfl
  have HZ := Lib.hid hz
  have HGK := Lib.hid hgK
  have HDK := Lib.hid hdK
  have HBB := Lib.hid hBB
  have HBK := Lib.hid hBK
  clear hN hz hwB hwK hd hsB hth hgK hdK hBB hBK
  go_enter Tryz.func240, Tryz.ntmps240
  go_wp2_with fail
  refine (HTH.out _).mono ?_; rintro e w2 hew; obtain ⟨rfl, rfl⟩ := hth2.out _ _ hew; clear hew hth2 c4
  go_wp2
  all_goals (try (exfalso; omega))
  go_loopg [4] l.length (fun m wv wr => ∃ (r : Bs) (w2 k2 i2 : Nat), m = r.length ∧ wv = .int .i64 w2 ∧ w2 ≤ 1099511627776 ∧ k2 + r.length ≤ l.length ∧ ii ≤ i2 ∧ i2 ≤ 1099511627776 ∧ BlkL wr g 220 [.string (mk r), v, .int .i64 (nn : Int), .int .i64 (i2 : Int), .int .i64 (bi : Int), .bool st] ∧ Boxed wr (z + 1) 3 (.int .i64 ((36 * k2 : Nat) : Int)) ∧ Boxed wr z 3 (.int .i64 (bi : Int)) ∧ Hid (N = numD r i2 w2 k2 bi) ∧ w.grownBy wr (some g))
  case atStart => exact ⟨l, 1, 0, ii, rfl, rfl, by omega, by omega, by omega, by omega, HDK.out, HBK.out, HBB.out, HN, HGK.out⟩
  case round =>
    obtain ⟨r, w2, k2, i2, rfl, rfl, hw2, hk2, hi1, hi2, hd, hbK, hbB, hnum, hgr⟩ := hrel
    have c0 := hd.c 0 _ rfl
    have c3 := hd.c 3 _ rfl
    have f0 := hd.f 0
    have f3 := hd.f 3
    have HD := Lib.hid hd
    have HGR := Lib.hid hgr
    have HBK2 := Lib.hid hbK
    have HBB2 := Lib.hid hbB
    clear hd hgr hbK hbB HGK HDK HBB HBK
    cases r with
    | nil =>
      have hend : Hid (N = none) := Lib.hid hnum.out
      have e0 : mk ([] : Bs) = ⟨#[]⟩ := rfl
      rw [e0] at c0
      clear hnum e0
      go_wp2
      all_goals (try (exfalso; omega))
      go_ret
      exact ⟨⟨_, rfl, .inr ⟨by decide, hend.out⟩⟩, HGR.out⟩
    | cons b r =>
      have hk3 : k2 + (r.length + 1) ≤ l.length := hk2
      have hval := fun W => py_value b W
      have hpI : pvI b = if pv b = 99 then -1 else (pv b : Int) := rfl
      have hplt := @pv_lt b
      have hszn : (mk (b :: r)).size = r.length + 1 := by rw [size_mk]; rfl
      have h0 : 0 < (mk (b :: r)).size := by omega
      have hb0 : (mk (b :: r))[0] = b := by
        rw [← getElem_un (mk (b :: r)) 0 h0]
        simp
      have hex : (mk (b :: r)).extract 1 (r.length + 1) = mk r := by
        apply un_inj
        rw [un_extract, un_mk, un_mk]
        simp
      have hem : (mk (b :: r)).toList.isEmpty = false := by
        rw [List.isEmpty_eq_false_iff]
        intro h
        rw [toList_mk'] at h
        cases h
      obtain ⟨s, hs⟩ : ∃ s, s = mk (b :: r) := ⟨_, rfl⟩
      rw [← hs] at c0 hszn hem hex
      have cs : (s[0].toNat : Int) = (b.toNat : Int) := by subst hs; rw [hb0]
      have hszI : (s.size : Int) = (r.length : Int) + 1 := by rw [hszn]; rfl
      have HD2 := HD.out
      rw [← hs] at HD2
      have HD3 := Lib.hid HD2
      have hs1 : 1 ≤ s.size := by omega
      clear HD HD2 hs hb0 h0
      obtain ⟨pI, hp⟩ : ∃ pI, pI = pvI b := ⟨_, rfl⟩
      rw [← hp] at hpI
      simp only [← hp] at hval
      have HVAL := Lib.hid hval
      clear hval hp
      by_cases h99 : pv b = 99
      · rw [if_pos h99] at hpI
        subst hpI
        have hend : Hid (N = none) := Lib.hid (hnum.out.trans (numD_bad h99))
        clear hnum hplt h99
        go_wp2_with fail
        all_goals (try (exfalso; omega))
        refine (HVAL.out _).mono ?_; rintro e w9 ⟨rfl, rfl⟩
        go_wp2
        all_goals (try (exfalso; omega))
        go_ret
        exact ⟨⟨_, rfl, .inr ⟨by decide, hend.out⟩⟩, HGR.out⟩
      · rw [if_neg h99] at hpI
        have hp36 := hplt h99
        have h99b : pv b ≠ 99 := h99
        obtain ⟨x, hx⟩ : ∃ x, x = pv b := ⟨_, rfl⟩
        rw [← hx] at hpI hp36
        subst hpI
        obtain ⟨M, hM⟩ : ∃ M, M = x * w2 := ⟨_, rfl⟩
        have hMb : M ≤ 38482906972160 := by
          rw [hM]
          exact Nat.le_trans (Nat.mul_le_mul (show x ≤ 35 by omega) hw2) (by decide)
        have hmul : (x : Int) * (w2 : Int) = (M : Int) := by rw [hM]; rfl
        have hMx : pv b * w2 = M := by rw [← hx, hM]
        have HX := Lib.hid hx
        have HM := Lib.hid hMx
        have H99 := Lib.hid h99b
        have b1 : BlkL (wr.setCell ⟨g, 0, none⟩ (.string (mk r))) g 220 [.string (mk r), v, .int .i64 (nn : Int), .int .i64 (i2 : Int), .int .i64 (bi : Int), .bool st] := HD3.out.set 0 (by simp) (.string (mk r))
        have b2 : BlkL ((wr.setCell ⟨g, 0, none⟩ (.string (mk r))).setCell ⟨g, 3, none⟩ (.int .i64 ((i2 : Int) + (M : Int)))) g 220 [.string (mk r), v, .int .i64 (nn : Int), .int .i64 ((i2 : Int) + (M : Int)), .int .i64 (bi : Int), .bool st] := b1.set 3 (by simp) (.int .i64 ((i2 : Int) + (M : Int)))
        have c3b := b1.c 3 _ rfl
        have f3b := b1.f 3
        have c3c := b2.c 3 _ rfl
        have HDa := Lib.hid b2
        have HGRa := Lib.hid (gb_trans (gb_trans HGR.out (gb_set _ g 0 (.string (mk r)))) (gb_set _ g 3 (.int .i64 ((i2 : Int) + (M : Int)))))
        have hbKa := (HBK2.out.kept (gb_set _ g 0 (.string (mk r))) (by intro e; cases e; omega)).kept (gb_set _ g 3 (.int .i64 ((i2 : Int) + (M : Int)))) (by intro e; cases e; omega)
        have hbBa := (HBB2.out.kept (gb_set _ g 0 (.string (mk r))) (by intro e; cases e; omega)).kept (gb_set _ g 3 (.int .i64 ((i2 : Int) + (M : Int)))) (by intro e; cases e; omega)
        clear b1 b2 HD3 HGR HBK2 HBB2 hx hM hMx h99b hplt h99
        have hcast : ((i2 + M : Nat) : Int) = (i2 : Int) + (M : Int) := by omega
        by_cases hfar : 1099511627776 < i2 + M
        · have g5 : decide ((1099511627776 : Int) < (i2 : Int) + (M : Int)) = true := decide_eq_true (by omega)
          have hend : Hid (N = none) := Lib.hid (hnum.out.trans (numD_far H99.out (by rw [HM.out]; exact hfar)))
          clear hnum hbKa hbBa hcast
          go_wp2_with fail
          all_goals (try (exfalso; omega))
          refine (HVAL.out _).mono ?_; rintro e w9 ⟨rfl, rfl⟩
          go_wp2
          all_goals (try (exfalso; omega))
          go_ret
          exact ⟨⟨_, rfl, .inr ⟨by decide, hend.out⟩⟩, HGRa.out⟩
        · have g5 : decide ((1099511627776 : Int) < (i2 : Int) + (M : Int)) = false := decide_eq_false (by omega)
          have hfar2 : ¬ 1099511627776 < i2 + pv b * w2 := by rw [HM.out]; exact hfar
          have htb := thr_bounds k2 bi
          have hk2b : k2 ≤ 100000 := by omega
          have hnext := py_next (z + 1) z k2 bi _ (by omega) (by omega) hbKa hbBa (by omega)
          obtain ⟨t, ht⟩ : ∃ t, t = thr k2 bi := ⟨_, rfl⟩
          rw [← ht] at htb hnext
          have HNEXT := Lib.hid hnext
          have HBKb := Lib.hid (hbKa.set (.int .i64 ((36 * (k2 + 1) : Nat) : Int)))
          have HBBb := Lib.hid (hbBa.other (B' := z + 1) (by omega) (.int .i64 ((36 * (k2 + 1) : Nat) : Int)))
          have HDb := Lib.hid (HDa.out.other (p := z + 1) (by omega) 0 (.int .i64 ((36 * (k2 + 1) : Nat) : Int)))
          have HGRb := Lib.hid (gb_new HGRa.out (b := z + 1) (by rw [← HZ.out]; omega) 0 (.int .i64 ((36 * (k2 + 1) : Nat) : Int)))
          clear hnext hbKa hbBa HDa HGRa
          by_cases hxt : x < t
          · have g6 : decide ((x : Int) < (t : Int)) = true := decide_eq_true (by omega)
            have hsome := hnum.out.trans (numD_end H99.out hfar2 (by rw [← ht, ← HX.out]; exact hxt))
            rw [HM.out] at hsome
            have HSOME := Lib.hid hsome
            clear hnum hsome ht hfar2 H99 HX HM HBKb HBBb
            go_wp2_with fail
            all_goals (try (exfalso; omega))
            refine (HVAL.out _).mono ?_; rintro e w9 ⟨rfl, rfl⟩
            go_wp2_with fail
            all_goals (try (exfalso; omega))
            refine (HNEXT.out).mono ?_; rintro e w8 ⟨rfl, rfl⟩
            go_wp2
            all_goals (try (exfalso; omega))
            go_ret
            exact ⟨⟨_, rfl, .inl ⟨rfl, _, HSOME.out, by rw [hcast]; exact HDb.out⟩⟩, HGRb.out⟩
          · have g6 : decide ((x : Int) < (t : Int)) = false := decide_eq_false (by omega)
            obtain ⟨Z, hZ⟩ : ∃ Z, Z = w2 * (36 - t) := ⟨_, rfl⟩
            have hZb : Z ≤ 39582418599936 := by
              rw [hZ]
              exact Nat.le_trans (Nat.mul_le_mul hw2 (show 36 - t ≤ 36 by omega)) (by decide)
            have hzm : (w2 : Int) * (36 - (t : Int)) = (Z : Int) := by rw [hZ, show (36 : Int) - (t : Int) = ((36 - t : Nat) : Int) by omega]; rfl
            by_cases hzw : 1099511627776 < Z
            · have g7 : decide ((1099511627776 : Int) < (Z : Int)) = true := decide_eq_true (by omega)
              have hend : Hid (N = none) := Lib.hid (hnum.out.trans (numD_wide H99.out hfar2 (by rw [← ht, ← HX.out]; exact hxt) (by rw [← ht, ← hZ]; exact hzw)))
              clear hnum ht hfar2 H99 HX HM hZ HBKb HBBb HDb hcast
              go_wp2_with fail
              all_goals (try (exfalso; omega))
              refine (HVAL.out _).mono ?_; rintro e w9 ⟨rfl, rfl⟩
              go_wp2_with fail
              all_goals (try (exfalso; omega))
              refine (HNEXT.out).mono ?_; rintro e w8 ⟨rfl, rfl⟩
              go_wp2
              all_goals (try (exfalso; omega))
              go_ret
              exact ⟨⟨_, rfl, .inr ⟨by decide, hend.out⟩⟩, HGRb.out⟩
            · have g7 : decide ((1099511627776 : Int) < (Z : Int)) = false := decide_eq_false (by omega)
              have hmore := hnum.out.trans (numD_more H99.out hfar2 (by rw [← ht, ← HX.out]; exact hxt) (by rw [← ht, ← hZ]; exact hzw))
              rw [HM.out, ← ht, ← hZ] at hmore
              have HMORE := Lib.hid hmore
              have HCAST := Lib.hid hcast
              clear hnum hmore ht hfar2 H99 HX HM hZ hcast
              go_wp2_with fail
              all_goals (try (exfalso; omega))
              refine (HVAL.out _).mono ?_; rintro e w9 ⟨rfl, rfl⟩
              go_wp2_with fail
              all_goals (try (exfalso; omega))
              refine (HNEXT.out).mono ?_; rintro e w8 ⟨rfl, rfl⟩
              go_wp2
              all_goals (try (exfalso; omega))
              go_roundg r.length
              case measure => simp
              case rel => exact ⟨r, Z, k2 + 1, i2 + M, rfl, by go_num, by omega, by omega, by omega, by omega, by rw [HCAST.out]; exact HDb.out, HBKb.out, HBBb.out, HMORE, HGRb.out⟩
end Go.Proofs.YtjbciamhhfcdoaaGreatDoor
namespace Hs
open Go Go.RowKit
set_option linter.unusedVariables false
set_option linter.unusedSimpArgs false
theorem BlkL.setCells {g : Nat} {T : TypeId} : ∀ (vs : List Value) (o : Nat) (w : World) (l : List Value), BlkL w g T l → o + vs.length ≤ l.length → BlkL (w.setCells g o vs) g T (l.take o ++ vs ++ l.drop (o + vs.length))
  | [], o, w, l, h, hl => by
    simp only [World.setCells, List.length_nil, Nat.add_zero, List.append_nil, List.take_append_drop]
    exact h
  | v :: r, o, w, l, h, hl => by
    simp only [List.length_cons] at hl
    have h1 := BlkL.setCells r (o + 1) _ _ (h.set o (by omega) v) (by rw [List.length_set]; omega)
    have e1 : (l.set o v).take (o + 1) = l.take o ++ [v] := by
      rw [List.take_succ_eq_append_getElem (by rw [List.length_set]; omega), List.take_set_of_le (Nat.le_refl o)]
      simp
    have e2 : (l.set o v).drop (o + 1 + r.length) = l.drop (o + (r.length + 1)) := by
      rw [List.drop_set_of_lt (by omega)]
      congr 1
      omega
    rw [e1, e2] at h1
    simp only [World.setCells, List.length_cons]
    have e3 : l.take o ++ v :: r = l.take o ++ [v] ++ r := by simp
    rw [e3]
    exact h1
theorem gb_setCells (g : Nat) : ∀ (vs : List Value) (o : Nat) (w : World), w.grownBy (w.setCells g o vs) (some g)
  | [], o, w => gb_refl _ _
  | v :: r, o, w => gb_trans (gb_set w g o v) (gb_setCells g r (o + 1) _)
theorem gb_cells_new {a : World} {row : Option Nat} {b : Nat} (hb : a.heap.size ≤ b) : ∀ (vs : List Value) (o : Nat) (w : World), a.grownBy w row → a.grownBy (w.setCells b o vs) row
  | [], o, w, h => h
  | v :: r, o, w, h => gb_cells_new hb r (o + 1) _ (gb_new h hb o v)
theorem zeroCells_n (x : Int) (n : Nat) : Builtin.zeroCells (Value.int .i64 x).cells n = Array.replicate n (Value.int .i64 x) := by
  apply Array.ext
  · rw [size_zeroCells, Array.size_replicate]
    show n * 1 = n
    omega
  · intro j h1 h2
    simp [Builtin.zeroCells, Value.cells, Nat.mod_one]
theorem toArray_app (a b : List Value) (n : Nat) (v : Value) : (a ++ b).toArray ++ Array.replicate n v = (a ++ b ++ List.replicate n v).toArray := by simp
/-- A list that is put into, tail first. -/
theorem ins_list1 (L D : List Value) (x : Value) (i n : Nat) (hL : n + 1 ≤ L.length) (hi : i ≤ n) (hD : D.length = n - i) :
    ((L.take (i + 1) ++ D ++ L.drop (i + 1 + D.length)).take i ++ [x] ++ (L.take (i + 1) ++ D ++ L.drop (i + 1 + D.length)).drop (i + 1)).take (n + 1) = L.take i ++ [x] ++ D := by
  have h1 : (L.take (i + 1)).length = i + 1 := by rw [List.length_take]; omega
  have e1 : (L.take (i + 1) ++ D ++ L.drop (i + 1 + D.length)).take i = L.take i := by
    rw [List.append_assoc, List.take_append_of_le_length (by omega), List.take_take, Nat.min_eq_left (by omega)]
  have e2 : (L.take (i + 1) ++ D ++ L.drop (i + 1 + D.length)).drop (i + 1) = D ++ L.drop (i + 1 + D.length) := by
    rw [List.append_assoc, List.drop_append_of_le_length (by omega), List.drop_of_length_le (by omega), List.nil_append]
  rw [e1, e2, ← List.append_assoc, List.take_append_of_le_length (by simp; omega), List.take_of_length_le (by simp; omega)]
theorem ins_list2 (L D : List Value) (x : Value) (i n : Nat) (hL : n + 1 ≤ L.length) (hi : i ≤ n) (hD : D.length = n - i) :
    ((L.take i ++ [x] ++ L.drop (i + 1)).take (i + 1) ++ D ++ (L.take i ++ [x] ++ L.drop (i + 1)).drop (i + 1 + D.length)).take (n + 1) = L.take i ++ [x] ++ D := by
  have h1 : (L.take i ++ [x]).length = i + 1 := by simp; omega
  have e1 : (L.take i ++ [x] ++ L.drop (i + 1)).take (i + 1) = L.take i ++ [x] := by
    rw [List.take_append_of_le_length (by omega), List.take_of_length_le (by omega)]
  rw [e1, List.take_append_of_le_length (by simp; omega), List.take_of_length_le (by simp; omega)]
theorem ncells_put (l : List Nat) (i x : Nat) : ncells (putIn l i x) = (ncells l).take i ++ [.int .i64 (x : Int)] ++ (ncells l).drop i := by
  unfold ncells putIn
  rw [List.map_append, List.map_cons, List.map_take, List.map_drop]
  simp
end Hs
namespace Go.Proofs.YtjbciamhhfcdoaaGreatDoor
open Go.RowKit Hs Go.Shelf
set_option linter.unusedSimpArgs false
set_option linter.unusedVariables false
def ins_ren : Go.Shelf.Ren := ⟨fun | 21 => 241 | 27 => 256 | 28 => 257 | 35 => 267 | 39 => 270 | n => n, fun | 0 => 0 | 3 => 3 | 4 => 4 | 22 => 140 | n => n, fun | n => n⟩
theorem lays_ins : Go.Proofs.Lays2.n21 Tryz.prog ins_ren := {
  mixed := by kernel_rfl
  f21 := Tryz.func241.trans (congrArg some (by kernel_rfl))
  f27 := Tryz.func256.trans (congrArg some (by kernel_rfl))
  f28 := Tryz.func257.trans (congrArg some (by kernel_rfl))
  f35 := Tryz.func267.trans (congrArg some (by kernel_rfl))
  f39 := Tryz.func270.trans (congrArg some (by kernel_rfl))
  t0 := Tryz.underlying0
  a0 := Tryz.isAgg0
  z0 := Tryz.sizeOf0
  v0 := Tryz.zeroValue0
  t3 := Tryz.underlying3
  a3 := Tryz.isAgg3
  z3 := Tryz.sizeOf3
  v3 := Tryz.zeroValue3
  t4 := Tryz.underlying4
  a4 := Tryz.isAgg4
  z4 := Tryz.sizeOf4
  v4 := Tryz.zeroValue4
  t22 := Tryz.underlying140
  a22 := Tryz.isAgg140
  z22 := Tryz.sizeOf140
  v22 := Tryz.zeroValue140
  i3 := by kernel_rfl }
theorem ins_nums (v : Value) (l : List Nat) (i x base vb : Nat) (w : World) (hown : w.ownsRow base 3 1 v l.length (ncells l)) (hb : base ≤ w.heap.size) (hi : i ≤ l.length) (hl : l.length ≤ 100000)
    (hx : BlkL w vb 3 [.int .i64 (x : Int)]) (hne : v.ownBlock ≠ some vb) :
    Calls Tryz.prog 241 #[v, .int .i64 (i : Int), .slice (some ⟨vb, 0, none⟩) 1 1] w fun e w' => (∃ v', e = .returned v' ∧ w'.ownsRow base 3 1 v' (l.length + 1) (ncells (putIn l i x))) ∧ w.grownBy w' v.ownBlock := by
  have hvs : ∀ j u, [Value.int .i64 (x : Int)][j]? = some u → w.cell? ⟨vb, 0 + j, none⟩ = some u := fun j u hj => by rw [Nat.zero_add]; exact hx.c j u hj
  have h1v : ∀ u ∈ [Value.int .i64 (x : Int)], u.oneCell' = true := by intro u hu; simp at hu; subst hu; rfl
  have hcl : (ncells l).length = l.length := length_ncells l
  have hpl : (ncells (putIn l i x)).length = l.length + 1 := by rw [length_ncells, length_putIn]
  rcases hown.2 with ⟨rfl, h0⟩ | ⟨g, cap, cur, rfl, hbg, hg, hnc, hcm, hcs, ht⟩
  · have hl0 : l = [] := List.eq_nil_of_length_eq_zero h0
    subst hl0
    obtain rfl : i = 0 := by simpa using hi
    refine (Any2.slices_Insert_int_end_grow lays_ins none 0 0 vb 0 1 1 [] [.int .i64 (x : Int)] w (by omega) (by omega) (by omega) (by omega) rfl rfl (fun _ => rfl) (by intro a ha; cases ha) hvs h1v).mono ?_
    rintro e w' ⟨rfl, rfl⟩
    refine ⟨⟨_, rfl, by simp [ncells, putIn], .inr ⟨w.heap.size, _, _, rfl, hb, heap_alloc_new w.drew _, grownCap_ge _ _ _ _, grownCap_le_maxLen _ _ _ _ (by simp [maxLen]), ?_, ?_⟩⟩, gb_alloc (gb_drew (gb_refl w _)) _⟩
    · have h9 := grownCap_ge w (0 + 1) 0 (ins_ren.t 3)
      rw [Array.size_append, zeroCells_n, Array.size_replicate]
      simp only [List.nil_append, List.size_toArray, List.length_cons, List.length_nil]
      omega
    · simp [zeroCells_n, ncells, putIn]
  · have hL : cur.toList.length = cap := by simpa using hcs
    have hLt : cur.toList.take l.length = ncells l := by simpa using ht
    have hBL : BlkL w g 3 cur.toList := by unfold BlkL; simpa using hg
    have hgv : g ≠ vb := by intro e; exact hne (by rw [e]; rfl)
    have hcsx : ∀ j u, (ncells l)[j]? = some u → w.cell? ⟨g, 0 + j, none⟩ = some u := by
      intro j u hj
      rw [Nat.zero_add]
      refine hBL.c j u ?_
      rw [← hLt, List.getElem?_take] at hj
      split at hj
      · exact hj
      · cases hj
    have hcell : ∀ j, j < cap → (w.cell? ⟨g, j, none⟩).isSome = true := by
      intro j hj
      rw [hBL.c j cur.toList[j] (List.getElem?_eq_getElem (by omega))]
      rfl
    have hcell0 : ∀ j, j < cap → (w.cell? ⟨g, 0 + j, none⟩).isSome = true := by intro j hj; rw [Nat.zero_add]; exact hcell j hj
    by_cases hroom : l.length + 1 ≤ cap
    · rcases Nat.lt_or_ge i l.length with hin | hin
      · refine (Any2.slices_Insert_int_shift lays_ins g 0 l.length cap i vb 0 1 1 (ncells l) [.int .i64 (x : Int)] w hin (by omega) hroom (by unfold maxLen at hcm; omega) (fun e => hgv e.symm) hcl rfl hcsx (fun j hj => hcell0 j (by omega)) (fun j hj => hBL.f _) hvs (ncells_one l) h1v 3 3 1 cap (by have h9 := hx; unfold BlkL at h9; simp [World.shape?, h9]) (by simp [World.shape?, hg, hcs]) (by omega) (hx.f _) (hx.f _)).mono ?_
        rintro e w' ⟨rfl, rfl⟩
        have hD : ((ncells l).drop i).length = l.length - i := by rw [List.length_drop, hcl]
        have b1 := BlkL.setCells ((ncells l).drop i) (0 + (i + 1)) w.drew cur.toList hBL (by rw [hD]; omega)
        have b2 := BlkL.setCells [.int .i64 (x : Int)] (0 + i) _ _ b1 (by simp; omega)
        simp only [Nat.zero_add] at b2 ⊢
        refine ⟨⟨_, rfl, hpl.trans (by omega), .inr ⟨g, cap, _, rfl, hbg, b2, hroom, hcm, by simp; omega, ?_⟩⟩, gb_trans (gb_trans (gb_drew (gb_refl w _)) (gb_setCells g _ _ _)) (gb_setCells g _ _ _)⟩
        have h8 := ins_list1 cur.toList ((ncells l).drop i) (.int .i64 (x : Int)) i l.length (by omega) hi hD
        have h7 : cur.toList.take i = (ncells l).take i := by rw [← hLt, List.take_take, Nat.min_eq_left hi]
        rw [Nat.mul_one, ncells_put, ← h7]
        exact h8
      · obtain rfl : i = l.length := by omega
        refine (Any2.slices_Insert_int_end_room lays_ins g 0 l.length cap vb 0 1 1 [.int .i64 (x : Int)] w (by omega) hroom (by unfold maxLen at hcm; omega) rfl (fun j hj => by rw [Nat.zero_add]; exact hcell _ (by omega)) (fun j hj => hBL.f _) hvs h1v).mono ?_
        rintro e w' ⟨rfl, rfl⟩
        have b1 := BlkL.setCells [.int .i64 (x : Int)] (0 + l.length) w cur.toList hBL (by simp; omega)
        rw [Nat.zero_add] at b1
        refine ⟨⟨_, rfl, hpl.trans (by omega), .inr ⟨g, cap, _, rfl, hbg, by rw [Nat.zero_add]; exact b1, hroom, hcm, by simp; omega, ?_⟩⟩, gb_setCells g _ _ _⟩
        rw [Nat.mul_one, ncells_put, hLt, List.take_of_length_le (by omega : (ncells l).length ≤ l.length), List.drop_of_length_le (by omega : (ncells l).length ≤ l.length), List.append_nil]
        simp only [List.toList_toArray]
        rw [List.take_append_of_le_length (by simp), List.take_of_length_le (by simp)]
    · rcases Nat.lt_or_ge i l.length with hin | hin
      · refine (Any2.slices_Insert_int_grow lays_ins g 0 l.length cap i vb 0 1 1 (ncells l) [.int .i64 (x : Int)] w hin (by omega) hnc (by omega) (by omega) hcl rfl hcsx hvs (ncells_one l) h1v).mono ?_
        rintro e w' ⟨rfl, rfl⟩
        have hD : ((ncells l).drop i).length = l.length - i := by rw [List.length_drop, hcl]
        have hA : ((ncells l).take i).length = i := by rw [List.length_take, hcl]; omega
        have hge := grownCap_ge w (l.length + 1) cap (ins_ren.t 3)
        have hle := grownCap_le_maxLen w (l.length + 1) cap (ins_ren.t 3) (by unfold maxLen; omega)
        obtain ⟨C, hC⟩ : ∃ C, C = grownCap w (l.length + 1) cap (ins_ren.t 3) := ⟨_, rfl⟩
        rw [← hC] at hge hle ⊢
        rw [zeroCells_n, zeroCells_n]
        obtain ⟨Z, hZ⟩ : ∃ Z : List Value, Z = (ncells l).take i ++ List.replicate (l.length + 1 - i) (.int .i64 0) ++ List.replicate (C - (l.length + 1)) (.int .i64 0) := ⟨_, rfl⟩
        have hZa : ((ncells l).take i).toArray ++ Array.replicate (l.length + 1 - i) (Value.int .i64 0) ++ Array.replicate (C - (l.length + 1)) (Value.int .i64 0) = Z.toArray := by rw [hZ]; simp
        rw [hZa]
        have hZl : Z.length = C := by rw [hZ]; simp [hA]; omega
        have hZt : Z.take i = (ncells l).take i := by rw [hZ, List.append_assoc, List.take_append_of_le_length (by omega), List.take_of_length_le (by omega)]
        have b0 : BlkL (w.alloc (.cells Z.toArray (ins_ren.t 3))).drew w.heap.size 3 Z := (BlkL.new w 3 Z).drew
        have b1 := BlkL.setCells [.int .i64 (x : Int)] i _ _ b0 (by simp; omega)
        have b2 := BlkL.setCells ((ncells l).drop i) (i + 1) _ _ b1.drew (by simp; omega)
        refine ⟨⟨_, rfl, hpl.trans (by omega), .inr ⟨w.heap.size, C, _, rfl, hb, b2, hge, hle, by simp; omega, ?_⟩⟩, gb_cells_new (Nat.le_refl _) _ _ _ (gb_drew (gb_cells_new (Nat.le_refl _) _ _ _ (gb_drew (gb_alloc (gb_refl w _) _))))⟩
        have h8 := ins_list2 Z ((ncells l).drop i) (.int .i64 (x : Int)) i l.length (by omega) hi hD
        rw [Nat.mul_one, ncells_put, ← hZt]
        exact h8
      · obtain rfl : i = l.length := by omega
        refine (Any2.slices_Insert_int_end_grow lays_ins (some ⟨g, 0, none⟩) l.length cap vb 0 1 1 (ncells l) [.int .i64 (x : Int)] w (by omega) hnc (by omega) (by omega) hcl rfl (by intro h; cases h) (by intro a ha j u hj; cases ha; rw [nadd_none]; exact hcsx j u hj) hvs h1v).mono ?_
        rintro e w' ⟨rfl, rfl⟩
        have hge := grownCap_ge w (l.length + 1) cap (ins_ren.t 3)
        have hle := grownCap_le_maxLen w (l.length + 1) cap (ins_ren.t 3) (by unfold maxLen; omega)
        refine ⟨⟨_, rfl, hpl.trans (by omega), .inr ⟨w.heap.size, _, _, rfl, hb, heap_alloc_new w.drew _, hge, hle, ?_, ?_⟩⟩, gb_alloc (gb_drew (gb_refl w _)) _⟩
        · rw [Array.size_append, zeroCells_n, Array.size_replicate]
          simp
          omega
        · rw [zeroCells_n, ncells_put, Nat.mul_one, List.take_of_length_le (by omega : (ncells l).length ≤ l.length), List.drop_of_length_le (by omega : (ncells l).length ≤ l.length), List.append_nil, toArray_app]
          simp only [List.toList_toArray]
          rw [List.take_append_of_le_length (by simp), List.take_of_length_le (by simp)]
end Go.Proofs.YtjbciamhhfcdoaaGreatDoor
