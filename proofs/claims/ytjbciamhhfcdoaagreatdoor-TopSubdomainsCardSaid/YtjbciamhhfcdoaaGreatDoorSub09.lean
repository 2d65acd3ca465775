/- The walks of the small functions of Punycode of the program. Conditions: none.
   The walks of the thresholds and the digits of a number of Punycode of the program. Conditions: none. -/
import Derived.Test.YtjbciamhhfcdoaaGreatDoorRows
import Derived.Test.YtjbciamhhfcdoaaGreatDoorSub01
import Derived.Test.YtjbciamhhfcdoaaGreatDoorSub02
import Derived.Test.YtjbciamhhfcdoaaGreatDoorSub04
import Derived.RangeFuncBox
import Derived.RangeFuncNested
namespace Go.Proofs.YtjbciamhhfcdoaaGreatDoor
open Go.RowKit Hs
set_option linter.unusedSimpArgs false
set_option linter.unusedVariables false

theorem py_value (b : UInt8) (w : World) : Calls Tryz.prog 255 #[.int .u8 (b.toNat : Int)] w fun e w' => e = .returned (.int .i64 (pvI b)) ∧ w = w' := by
  have hc := pv_cases b
  have hb := b.toNat_lt
  have hv : Hid (pvI b = if pv b = 99 then -1 else (pv b : Int)) := Lib.hid rfl
  obtain ⟨x, hx⟩ : ∃ x, x = b.toNat := ⟨_, rfl⟩
  rw [← hx] at hc hb ⊢
  obtain ⟨v, hvv⟩ : ∃ v, v = pv b := ⟨_, rfl⟩
  rw [← hvv] at hc hv
  clear hx hvv
  rcases hc with ⟨h1, h2, h3⟩ | ⟨h1, h2, h3⟩ | ⟨h1, h2, h3⟩ | ⟨h1, h2, h3, h4⟩
  · have hr := Lib.hid (show pvI b = (x : Int) - 97 by rw [hv.out, if_neg (by omega)]; omega)
    clear hv h3
    go_enter Tryz.func255, Tryz.ntmps255
    go_wp2
    all_goals (try (exfalso; omega))
    go_ret
    rw [hr.out]
    exact ⟨rfl, rfl⟩
  · have hr := Lib.hid (show pvI b = (x : Int) - 65 by rw [hv.out, if_neg (by omega)]; omega)
    clear hv h3
    go_enter Tryz.func255, Tryz.ntmps255
    go_wp2
    all_goals (try (exfalso; omega))
    go_ret
    rw [hr.out]
    exact ⟨rfl, rfl⟩
  · have hr := Lib.hid (show pvI b = (x : Int) - 48 + 26 by rw [hv.out, if_neg (by omega)]; omega)
    clear hv h3
    go_enter Tryz.func255, Tryz.ntmps255
    go_wp2
    all_goals (try (exfalso; omega))
    go_ret
    rw [hr.out]
    exact ⟨rfl, rfl⟩
  · have hr := Lib.hid (show pvI b = -1 by rw [hv.out, if_pos (by omega)])
    clear hv h4
    go_enter Tryz.func255, Tryz.ntmps255
    go_wp2
    all_goals (try (exfalso; omega))
    all_goals
      go_ret
      rw [hr.out]
      exact ⟨rfl, rfl⟩
theorem py_digit (d : Nat) (w : World) (hd : d < 36) : Calls Tryz.prog 243 #[.int .i64 (d : Int)] w fun e w' => e = .returned (.int .u8 ((pd d).toNat : Int)) ∧ w = w' := by
  have hv := Lib.hid (pd_nat d hd)
  by_cases h : d < 26
  · have g1 : decide ((d : Int) < 26) = true := decide_eq_true (by omega)
    go_enter Tryz.func243, Tryz.ntmps243
    go_wp2
    all_goals (try (exfalso; omega))
    go_ret
    rw [hv.out, if_pos h]
    exact ⟨by go_num, rfl⟩
  · have g1 : decide ((d : Int) < 26) = false := decide_eq_false (by omega)
    go_enter Tryz.func243, Tryz.ntmps243
    go_wp2
    all_goals (try (exfalso; omega))
    go_ret
    rw [hv.out, if_neg h]
    exact ⟨by go_num, rfl⟩
theorem py_point (n : Nat) (w : World) (hn : n ≤ 1152921504606846976) : Calls Tryz.prog 217 #[.int .i64 (n : Int)] w fun e w' => e = .returned (.bool (ptOk n)) ∧ w = w' := by
  have hv : Hid (ptOk n = decide (n ≤ 1114111 ∧ (n < 55296 ∨ 57343 < n))) := Lib.hid rfl
  have hc : (n ≤ 1114111 ∧ n < 55296) ∨ (n ≤ 1114111 ∧ 55296 ≤ n ∧ n ≤ 57343) ∨ (n ≤ 1114111 ∧ 57343 < n) ∨ 1114111 < n := by omega
  have g0 : decide ((0 : Int) ≤ (n : Int)) = true := decide_eq_true (by omega)
  rcases hc with ⟨h1, h2⟩ | ⟨h1, h2, h3⟩ | ⟨h1, h2⟩ | h1
  · have g1 : decide ((n : Int) ≤ 1114111) = true := decide_eq_true (by omega)
    have g2 : decide ((n : Int) < 55296) = true := decide_eq_true (by omega)
    go_enter Tryz.func217, Tryz.ntmps217
    go_wp2
    all_goals (try (exfalso; omega))
    go_ret
    rw [hv.out, decide_eq_true (by omega)]
    exact ⟨rfl, rfl⟩
  · have g1 : decide ((n : Int) ≤ 1114111) = true := decide_eq_true (by omega)
    have g2 : decide ((n : Int) < 55296) = false := decide_eq_false (by omega)
    have g3 : decide ((57343 : Int) < (n : Int)) = false := decide_eq_false (by omega)
    go_enter Tryz.func217, Tryz.ntmps217
    go_wp2
    all_goals (try (exfalso; omega))
    go_ret
    rw [hv.out, decide_eq_false (by omega)]
    exact ⟨rfl, rfl⟩
  · have g1 : decide ((n : Int) ≤ 1114111) = true := decide_eq_true (by omega)
    have g2 : decide ((n : Int) < 55296) = false := decide_eq_false (by omega)
    have g3 : decide ((57343 : Int) < (n : Int)) = true := decide_eq_true (by omega)
    go_enter Tryz.func217, Tryz.ntmps217
    go_wp2
    all_goals (try (exfalso; omega))
    go_ret
    rw [hv.out, decide_eq_true (by omega)]
    exact ⟨rfl, rfl⟩
  · have g1 : decide ((n : Int) ≤ 1114111) = false := decide_eq_false (by omega)
    go_enter Tryz.func217, Tryz.ntmps217
    go_wp2
    all_goals (try (exfalso; omega))
    go_ret
    rw [hv.out, decide_eq_false (by omega)]
    exact ⟨rfl, rfl⟩
set_option maxHeartbeats 1600000 in
theorem py_adapt (delta count : Nat) (first : Bool) (w : World) (hd : delta ≤ 1099511627776) (hc0 : 0 < count) (hc : count ≤ 1048576) : Calls Tryz.prog 219 #[.int .i64 (delta : Int), .int .i64 (count : Int), .bool first] w fun e w' => e = .returned (.int .i64 (adaptN delta count first)) ∧ w = w' := by
  have hv : Hid (adaptN delta count first = adaptL ((if first = true then delta / 700 else delta / 2) + (if first = true then delta / 700 else delta / 2) / count) 0) := Lib.hid rfl
  have h1 : (if first = true then delta / 700 else delta / 2) ≤ 549755813888 := by split <;> omega
  obtain ⟨d0, hd0⟩ : ∃ d0, d0 = (if first = true then delta / 700 else delta / 2) := ⟨_, rfl⟩
  rw [← hd0] at hv h1
  have h2 : d0 / count ≤ d0 := Nat.div_le_self _ _
  obtain ⟨q, hq⟩ : ∃ q, q = d0 / count := ⟨_, rfl⟩
  rw [← hq] at hv h2
  have hqi : (d0 : Int) / (count : Int) = (q : Int) := by rw [hq]; exact (Int.natCast_ediv d0 count).symm
  have hqt : (d0 : Int).tdiv (count : Int) = (q : Int) := by rw [Int.tdiv_eq_ediv_of_nonneg (by omega)]; exact hqi
  have hcz : ((count : Int) == 0) = false := by simp; omega
  have hcn : (count : Int) ≠ 0 := by omega
  have h35 : d0 + q < 456 * 35 ^ 8 := by
    have : (35 : Nat) ^ 8 = 2251875390625 := by decide
    omega
  have H35 := Lib.hid h35
  clear hq h35
  cases first
  all_goals
    simp only [if_true, Bool.false_eq_true, if_false] at hd0
    (first | have hdi : (delta : Int) / 700 = (d0 : Int) := by omega | have hdi : (delta : Int) / 2 = (d0 : Int) := by omega)
    (first | have hdt : (delta : Int).tdiv 700 = (d0 : Int) := by rw [Int.tdiv_eq_ediv_of_nonneg (by omega)]; exact hdi | have hdt : (delta : Int).tdiv 2 = (d0 : Int) := by rw [Int.tdiv_eq_ediv_of_nonneg (by omega)]; exact hdi)
    clear hd0
    go_enter Tryz.func219, Tryz.ntmps219
    go_wp2
    all_goals (try (exfalso; omega))
    go_loop [0, 7] (fun dv kv => ∃ e k : Nat, dv = .int .i64 e ∧ kv = .int .i64 k ∧ e ≤ 1099511627776 ∧ k ≤ 288 ∧ Hid (adaptL (d0 + q) 0 = adaptL e k) ∧ Hid (∃ j, e < 456 * 35 ^ j ∧ k + 36 * j ≤ 288)) (fun dv _ => (intOf dv).toNat)
    case atStart => exact ⟨d0 + q, 0, by go_num, rfl, by omega, by omega, Lib.hid rfl, Lib.hid ⟨8, H35.out, by omega⟩⟩
    case round =>
      obtain ⟨e, k, rfl, rfl, he, hk, hst, hj⟩ := hrel
      by_cases hlt : 455 < e
      · have g1 : decide ((455 : Int) < (e : Int)) = true := decide_eq_true (by omega)
        have hst2 : Hid (adaptL (d0 + q) 0 = adaptL (e / 35) (k + 36)) := Lib.hid (by rw [hst.out, adaptL_big hlt])
        have hj2 : Hid (∃ j, e / 35 < 456 * 35 ^ j ∧ k + 36 + 36 * j ≤ 288) := Lib.hid (by
          obtain ⟨j, h1, h2⟩ := hj.out
          cases j with
          | zero => simp at h1; omega
          | succ j => exact ⟨j, by rw [Nat.pow_succ, ← Nat.mul_assoc] at h1; exact Nat.div_lt_of_lt_mul (by rw [Nat.mul_comm]; exact h1), by omega⟩)
        have hk2 : k + 36 ≤ 288 := by obtain ⟨j, _, h⟩ := hj2.out; omega
        clear hst hj
        go_wp2
        all_goals (try (exfalso; omega))
        go_round
        case rel => exact ⟨e / 35, k + 36, by go_num, by go_num, by omega, hk2, hst2, hj2⟩
        case measure => simp [intOf]; omega
      · have g1 : decide ((455 : Int) < (e : Int)) = false := decide_eq_false (by omega)
        obtain ⟨r, hr⟩ : ∃ r, r = 36 * e / (e + 38) := ⟨_, rfl⟩
        have hfin : Hid (adaptN delta count _ = k + r) := Lib.hid (by rw [hv.out, hst.out, adaptL_small hlt, hr])
        have hri : 36 * (e : Int) / ((e : Int) + 38) = (r : Int) := by rw [hr]; push_cast; rfl
        have hrt : (36 * (e : Int)).tdiv ((e : Int) + 38) = (r : Int) := by rw [Int.tdiv_eq_ediv_of_nonneg (by omega)]; exact hri
        have hr36 : r ≤ 36 := by
          rw [hr]
          apply Nat.le_of_lt_succ
          rw [Nat.div_lt_iff_lt_mul (by omega)]
          omega
        have hez : (e : Int) + 38 ≠ 0 := by omega
        clear hst hj hr
        go_wp2
        all_goals (try (exfalso; omega))
        go_ret
        rw [hfin.out]
        exact ⟨by go_num, rfl⟩
end Go.Proofs.YtjbciamhhfcdoaaGreatDoor
namespace Go.Proofs.YtjbciamhhfcdoaaGreatDoor
open Go.RowKit Hs
set_option linter.unusedSimpArgs false
set_option linter.unusedVariables false

theorem py_next (K B j bias : Nat) (w : World) (hj : j ≤ 1000000000000) (hbi : bias ≤ 1000000000000) (hK : Boxed w K 3 (.int .i64 ((36 * j : Nat) : Int))) (hB : Boxed w B 3 (.int .i64 (bias : Int))) (hne : K ≠ B) :
    Calls Tryz.prog 258 #[.pointer (some ⟨K, 0, none⟩), .pointer (some ⟨B, 0, none⟩)] w fun e w' => e = .returned (.int .i64 (thr j bias)) ∧ w' = w.setCell ⟨K, 0, none⟩ (.int .i64 ((36 * (j + 1) : Nat) : Int)) := by
  have h1 := Lib.hid (show (thr j bias : Int) = max 1 (min 26 (36 * ((j : Int) + 1) - (bias : Int))) by unfold thr; omega)
  have cK := hK.cell
  have fK := hK.frozen
  have cB := hB.cell
  have cK2 := (hK.set (.int .i64 ((36 * (j + 1) : Nat) : Int))).cell
  have cB2 := (hB.other hne.symm (.int .i64 ((36 * (j + 1) : Nat) : Int))).cell
  obtain ⟨c, hc⟩ : ∃ c, c = 36 * j := ⟨_, rfl⟩
  have hc2 : 36 * (j + 1) = c + 36 := by omega
  rw [hc2] at cK2 cB2 ⊢
  rw [← hc] at cK
  rw [Int.natCast_add] at cK2 cB2 ⊢
  have hcb : c ≤ 36000000000000 := by omega
  have HC := Lib.hid hc
  clear hc hc2
  go_enter Tryz.func258, Tryz.ntmps258
  go_wp2
  all_goals (try (exfalso; omega))
  all_goals
    go_ret
    rw [h1.out]
    refine ⟨congrArg Ending.returned ?_, by first | rfl | (congr 1; go_num)⟩
    show Value.int .i64 _ = Value.int .i64 _
    have := HC.out
    congr 1
    omega

theorem py_thresholds (bias : Nat) (w : World) : Calls Tryz.prog 242 #[.int .i64 (bias : Int)] w fun e w' =>
    e = .returned (.func (.func 258) #[] #[.pointer (some ⟨w.heap.size + 1, 0, none⟩), .pointer (some ⟨w.heap.size, 0, none⟩)]) ∧ w' = (w.alloc (.cells #[.int .i64 (bias : Int)] 3)).alloc (.cells #[.int .i64 0] 3) := by
  go_enter Tryz.func242, Tryz.ntmps242
  go_wp2
  go_ret
  exact ⟨rfl, rfl⟩

theorem boxed_size {w w' : World} {B : Nat} {t : TypeId} {v : Value} (h : Boxed w' B t v) : B < w'.heap.size := h.lt

set_option maxRecDepth 20000 in
set_option maxHeartbeats 4000000 in
theorem py_number (v : Value) (n : Nat) (xs : List Value) (q bias base : Nat) (w : World) (hown : w.ownsRow base 5 1 v n xs) (hbase : base ≤ w.heap.size) (hn : n ≤ 1000000) (hq : q ≤ 900000000) (hbi : bias ≤ 1048576) :
    Calls Tryz.prog 218 #[v, .int .i64 (q : Int), .int .i64 (bias : Int)] w fun e w' => (∃ v', e = .returned v' ∧ w'.ownsRow base 5 1 v' (n + (encN q 0 bias).length) (xs ++ bcells (encN q 0 bias))) ∧ Below base w w' := by
  obtain ⟨iB0, iB⟩ := info_parts infoByte
  have hlen := encN_len 9 q 0 bias (by omega)
  obtain ⟨T, hT⟩ : ∃ T, T = encN q 0 bias := ⟨_, rfl⟩
  have HT := Lib.hid hT
  rw [← hT] at hlen ⊢
  clear hT
  have hth := fun W => py_thresholds bias W
  have HTH := Lib.hid hth
  clear hth
  obtain ⟨z, hz⟩ : ∃ z, z = w.heap.size := ⟨_, rfl⟩
  obtain ⟨wB, hwB⟩ : ∃ wB, wB = w.alloc (.cells #[.int .i64 (bias : Int)] 3) := ⟨_, rfl⟩
  obtain ⟨wK, hwK⟩ : ∃ wK, wK = wB.alloc (.cells #[.int .i64 0] 3) := ⟨_, rfl⟩
  have hsB : wB.heap.size = z + 1 := by rw [hwB, hz]; simp
  have hsK : wK.heap.size = z + 2 := by rw [hwK]; simp; omega
  have hBB : Boxed wK z 3 (.int .i64 (bias : Int)) := by rw [hwK, hwB, hz]; exact (Boxed.new w _ _).alloc _
  have hBK : Boxed wK (z + 1) 3 (.int .i64 ((36 * 0 : Nat) : Int)) := by rw [hwK, ← hsB]; exact Boxed.new wB _ _
  have hownK : wK.ownsRow base 5 1 v n xs := by rw [hwK, hwB]; exact (hown.alloc _).alloc _
  have hbelK : Below base w wK := by rw [hwK, hwB]; exact ((Below.refl base w).alloc hbase _).alloc (by simp; omega) _
  have hth2 : Hid (∀ (e : Ending) (w' : World), e = .returned (.func (.func 258) #[] #[.pointer (some ⟨w.heap.size + 1, 0, none⟩), .pointer (some ⟨w.heap.size, 0, none⟩)]) ∧ w' = (w.alloc (.cells #[.int .i64 (bias : Int)] 3)).alloc (.cells #[.int .i64 0] 3) →
      e = .returned (.func (.func 258) #[] #[.pointer (some ⟨z + 1, 0, none⟩), .pointer (some ⟨z, 0, none⟩)]) ∧ w' = wK) := Lib.hid (by rintro e w' ⟨rfl, rfl⟩; rw [hwK, hwB, hz]; exact ⟨rfl, rfl⟩)
  have hz1 : base ≤ z := by omega
  obtain ⟨a, c, rfl⟩ := own_sliceN hown
  clear hz hwB hwK hown hbase hsB
  go_enter Tryz.func218, Tryz.ntmps218
  go_wp2_with fail
  refine (HTH.out _).mono ?_; rintro e w2 hew; obtain ⟨rfl, rfl⟩ := hth2.out _ _ hew; clear hew hth2
  go_wp2
  all_goals (try (exfalso; omega))
  go_loopw [0, 1] (fun bv qv wr => ∃ (o5 : Bs) (q5 k5 : Nat), qv = .int .i64 q5 ∧ q5 + k5 ≤ 900000000 ∧ wr.ownsRow base 5 1 bv (n + o5.length) (xs ++ bcells o5) ∧ Hid (T = o5 ++ encN q5 k5 bias) ∧ Boxed wr (z + 1) 3 (.int .i64 ((36 * k5 : Nat) : Int)) ∧ Boxed wr z 3 (.int .i64 (bias : Int)) ∧ z + 2 ≤ wr.heap.size ∧ Below base w wr) (fun _ qv _ => (intOf qv).toNat)
  case atStart => exact ⟨[], q, 0, rfl, by omega, by simpa [bcells] using hownK, by simpa using HT, hBK, hBB, by omega, hbelK⟩
  case round =>
    obtain ⟨o5, q5, k5, rfl, hqk, hown, hst5, hbK, hbB, hzs, hnx⟩ := hrel
    have hol : o5.length ≤ 10 := by have := congrArg List.length hst5.out; rw [List.length_append] at this; omega
    have htb := thr_bounds k5 bias
    have hnext := py_next (z + 1) z k5 bias wr (by omega) (by omega) hbK hbB (by omega)
    have hES := @encN_small q5 k5 bias
    have hEB := @encN_big q5 k5 bias
    have hrow := hbK.not_row (e := 5) (by decide) hown
    have hown2 := hown.kept (grownBy_setCell' wr (z + 1) (.int .i64 ((36 * (k5 + 1) : Nat) : Int))) (.inr (fun e => hrow e.symm))
    have hbK2 := hbK.set (.int .i64 ((36 * (k5 + 1) : Nat) : Int))
    have hbB2 := hbB.other (B' := z + 1) (by omega) (.int .i64 ((36 * (k5 + 1) : Nat) : Int))
    have hnx2 := hnx.setCell (p := ⟨z + 1, 0, none⟩) (by show base ≤ z + 1; omega) (.int .i64 ((36 * (k5 + 1) : Nat) : Int))
    have hsz2 : (wr.setCell ⟨z + 1, 0, none⟩ (.int .i64 ((36 * (k5 + 1) : Nat) : Int))).heap.size = wr.heap.size := by simp [World.setCell]; try split <;> simp
    have HRK := Lib.hid (hbK2.not_row (e := 5) (by decide) hown2)
    have HRB := Lib.hid (hbB2.not_row (e := 5) (by decide) hown2)
    obtain ⟨wn, hwn⟩ : ∃ wn, wn = wr.setCell ⟨z + 1, 0, none⟩ (.int .i64 ((36 * (k5 + 1) : Nat) : Int)) := ⟨_, rfl⟩
    rw [← hwn] at hown2 hbK2 hbB2 hnx2 hnext hsz2
    obtain ⟨t, htt⟩ : ∃ t, t = thr k5 bias := ⟨_, rfl⟩
    rw [← htt] at htb hES hEB
    simp only [← htt] at hnext
    have HNEXT := Lib.hid hnext
    have hzs2 : z + 2 ≤ wn.heap.size := by omega
    obtain ⟨a, c, rfl⟩ := own_sliceN hown
    clear htt hnext hwn hbK hbB hown hnx hrow hsz2
    by_cases hqt : q5 < t
    · have g8 : decide ((q5 : Int) < (t : Int)) = true := decide_eq_true (by omega)
      have hfin := hES hqt
      have hdg := fun W => py_digit q5 W (by omega)
      have hT5e : Hid (T = o5 ++ [pd q5]) := Lib.hid (by rw [hst5.out, hfin])
      have HD := Lib.hid hdg
      clear hdg hfin hES hEB hst5
      go_wp2_with fail
      refine HNEXT.out.mono ?_; rintro e w9 ⟨rfl, rfl⟩
      go_wp2_with fail
      all_goals (try (exfalso; omega))
      refine (HD.out _).mono ?_; rintro e w8 ⟨rfl, rfl⟩
      go_wp2_with (first | (at_builtin; refine wpList_append_own _ rfl (.tmp 16) (.tmp 19) 32 rfl (base) 5 iB0 (.int .u8 0) 1 1 Tryz.underlying32 iB.1 iB.2.1 iB.2.2.1 iB.2.2.2 rfl (by decide) _ _ _ rfl (hown2.alloc _) ⟨w9.heap.size, 0, none⟩ 1 1 [_] rfl rfl (cell_one_new _ _ _) (by intro u hu; simp at hu; subst hu; rfl) (by unfold maxLen; omega) (by omega) (by simp; omega) ?_; intro v1 w3 hown1 hgrow1 hnil1))
      all_goals (try (exfalso; omega))
      go_ret
      refine ⟨⟨_, rfl, ?_⟩, (hnx2.alloc (by omega) _).grown hgrow1 (by simp; omega) (fun j hj => (hown2.lt j hj).1)⟩
      rw [hT5e.out, bcells_append, List.length_append, ← Nat.add_assoc, ← List.append_assoc]
      exact hown1
    · have g8 : decide ((q5 : Int) < (t : Int)) = false := decide_eq_false (by omega)
      have hbig := hEB hqt
      obtain ⟨r, hr⟩ : ∃ r, r = (q5 - t) % (36 - t) := ⟨_, rfl⟩
      obtain ⟨q6, hq6⟩ : ∃ q6, q6 = (q5 - t) / (36 - t) := ⟨_, rfl⟩
      rw [← hr, ← hq6] at hbig
      have hr36 : r < 36 - t := by rw [hr]; exact Nat.mod_lt _ (by omega)
      have hq6l : q6 ≤ q5 - t := by rw [hq6]; exact Nat.div_le_self _ _
      have e1 : ((q5 : Int) - (t : Int)) = ((q5 - t : Nat) : Int) := by omega
      have e2 : (36 : Int) - (t : Int) = ((36 - t : Nat) : Int) := by omega
      have hri : ((q5 : Int) - (t : Int)) % (36 - (t : Int)) = (r : Int) := by rw [e1, e2, hr]; rfl
      have hrt : ((q5 : Int) - (t : Int)).tmod (36 - (t : Int)) = (r : Int) := by rw [Int.tmod_eq_emod_of_nonneg (by omega)]; exact hri
      have hdi : ((q5 : Int) - (t : Int)) / (36 - (t : Int)) = (q6 : Int) := by rw [e1, e2, hq6]; rfl
      have hdt : ((q5 : Int) - (t : Int)).tdiv (36 - (t : Int)) = (q6 : Int) := by rw [Int.tdiv_eq_ediv_of_nonneg (by omega)]; exact hdi
      have hz36 : (36 : Int) - (t : Int) ≠ 0 := by omega
      have hdg := fun W => py_digit (t + r) W (by omega)
      simp only [Int.natCast_add] at hdg
      have HD := Lib.hid hdg
      have hst6 : Hid (T = (o5 ++ [pd (t + r)]) ++ encN q6 (k5 + 1) bias) := Lib.hid (by rw [hst5.out, hbig, List.append_assoc]; rfl)
      clear hdg hr hq6 e1 e2 hst5 hbig hES hEB
      go_wp2_with fail
      refine HNEXT.out.mono ?_; rintro e w9 ⟨rfl, rfl⟩
      go_wp2_with fail
      all_goals (try (exfalso; omega))
      refine (HD.out _).mono ?_; rintro e w8 ⟨rfl, rfl⟩
      go_wp2_with (first | (at_builtin; refine wpList_append_own _ rfl (.tmp 21) (.tmp 31) 32 rfl (base) 5 iB0 (.int .u8 0) 1 1 Tryz.underlying32 iB.1 iB.2.1 iB.2.2.1 iB.2.2.2 rfl (by decide) _ _ _ rfl (hown2.alloc _) ⟨w9.heap.size, 0, none⟩ 1 1 [_] rfl rfl (cell_one_new _ _ _) (by intro u hu; simp at hu; subst hu; rfl) (by unfold maxLen; omega) (by omega) (by simp; omega) ?_; intro v1 w3 hown1 hgrow1 hnil1))
      all_goals (try (exfalso; omega))
      go_roundw
      case rel =>
        refine ⟨o5 ++ [pd (t + r)], q6, k5 + 1, rfl, by omega, ?_, hst6, ?_, ?_, ?_, (hnx2.alloc (by omega) _).grown hgrow1 (by simp; omega) (fun j hj => (hown2.lt j hj).1)⟩
        · rw [bcells_append, List.length_append, ← Nat.add_assoc, ← List.append_assoc]
          exact hown1
        · exact (hbK2.alloc _).kept hgrow1 HRK.out
        · exact (hbB2.alloc _).kept hgrow1 HRB.out
        · have := hgrow1.size
          simp at this
          omega
      case measure => simp [intOf]; omega
end Go.Proofs.YtjbciamhhfcdoaaGreatDoor
