/- The walks of the small functions of Punycode of the reference. Conditions: none.
   The walks of the byte classes of the layer ascii (program and reference): each returns the plain function's answer and changes nothing. Conditions: none.
   The walks of the text functions of the layer ascii (program and reference): each returns the plain function's answer; memory that existed is unchanged. Conditions: the strings' lengths are bounded. -/
import Derived.Test.YtjbciamhhfcdoaaGreatDoorRows
import Derived.Test.YtjbciamhhfcdoaaGreatDoorSub01
import Derived.Test.YtjbciamhhfcdoaaGreatDoorSub02
namespace Go.Proofs.YtjbciamhhfcdoaaGreatDoor
open Go.RowKit Hs
set_option linter.unusedSimpArgs false
set_option linter.unusedVariables false

theorem r12_value (b : UInt8) (w : World) : Calls Tryz.prog 160 #[.int .u8 (b.toNat : Int)] w fun e w' => e = .returned (.int .i64 (pvI b)) ∧ w = w' := by
  have hc := pv_cases b
  have hb := b.toNat_lt
  have hv : Hid (pvI b = if pv b = 99 then -1 else (pv b : Int)) := Lib.hid rfl
  obtain ⟨x, hx⟩ : ∃ x, x = b.toNat := ⟨_, rfl⟩
  rw [← hx] at hc hb ⊢
  obtain ⟨v, hvv⟩ : ∃ v, v = pv b := ⟨_, rfl⟩
  rw [← hvv] at hc hv
  clear hx hvv
  rcases hc with ⟨h1, h2, h3⟩ | ⟨h1, h2, h3⟩ | ⟨h1, h2, h3⟩ | ⟨h1, h2, h3, h4⟩
  · have hr := Lib.hid (show pvI b = (x : Int) - 97 by rw [hv.out, if_neg (by omega)]; omega)
    clear hv h3
    go_enter Tryz.func160, Tryz.ntmps160
    go_wp2
    all_goals (try (exfalso; omega))
    go_ret
    rw [hr.out]
    exact ⟨rfl, rfl⟩
  · have hr := Lib.hid (show pvI b = (x : Int) - 65 by rw [hv.out, if_neg (by omega)]; omega)
    clear hv h3
    go_enter Tryz.func160, Tryz.ntmps160
    go_wp2
    all_goals (try (exfalso; omega))
    go_ret
    rw [hr.out]
    exact ⟨rfl, rfl⟩
  · have hr := Lib.hid (show pvI b = (x : Int) - 48 + 26 by rw [hv.out, if_neg (by omega)]; omega)
    clear hv h3
    go_enter Tryz.func160, Tryz.ntmps160
    go_wp2
    all_goals (try (exfalso; omega))
    go_ret
    rw [hr.out]
    exact ⟨rfl, rfl⟩
  · have hr := Lib.hid (show pvI b = -1 by rw [hv.out, if_pos (by omega)])
    clear hv h4
    go_enter Tryz.func160, Tryz.ntmps160
    go_wp2
    all_goals (try (exfalso; omega))
    all_goals
      go_ret
      rw [hr.out]
      exact ⟨rfl, rfl⟩
theorem r12_digit (d : Nat) (w : World) (hd : d < 36) : Calls Tryz.prog 164 #[.int .i64 (d : Int)] w fun e w' => e = .returned (.int .u8 ((pd d).toNat : Int)) ∧ w = w' := by
  have hv := Lib.hid (pd_nat d hd)
  by_cases h : d < 26
  · have g1 : decide ((d : Int) < 26) = true := decide_eq_true (by omega)
    go_enter Tryz.func164, Tryz.ntmps164
    go_wp2
    all_goals (try (exfalso; omega))
    go_ret
    rw [hv.out, if_pos h]
    exact ⟨by go_num, rfl⟩
  · have g1 : decide ((d : Int) < 26) = false := decide_eq_false (by omega)
    go_enter Tryz.func164, Tryz.ntmps164
    go_wp2
    all_goals (try (exfalso; omega))
    go_ret
    rw [hv.out, if_neg h]
    exact ⟨by go_num, rfl⟩
theorem r12_point (n : Nat) (w : World) (hn : n ≤ 1152921504606846976) : Calls Tryz.prog 163 #[.int .i64 (n : Int)] w fun e w' => e = .returned (.bool (ptOk n)) ∧ w = w' := by
  have hv : Hid (ptOk n = decide (n ≤ 1114111 ∧ (n < 55296 ∨ 57343 < n))) := Lib.hid rfl
  have hc : (n ≤ 1114111 ∧ n < 55296) ∨ (n ≤ 1114111 ∧ 55296 ≤ n ∧ n ≤ 57343) ∨ (n ≤ 1114111 ∧ 57343 < n) ∨ 1114111 < n := by omega
  have g0 : decide ((0 : Int) ≤ (n : Int)) = true := decide_eq_true (by omega)
  rcases hc with ⟨h1, h2⟩ | ⟨h1, h2, h3⟩ | ⟨h1, h2⟩ | h1
  · have g1 : decide ((n : Int) ≤ 1114111) = true := decide_eq_true (by omega)
    have g2 : decide ((n : Int) < 55296) = true := decide_eq_true (by omega)
    go_enter Tryz.func163, Tryz.ntmps163
    go_wp2
    all_goals (try (exfalso; omega))
    go_ret
    rw [hv.out, decide_eq_true (by omega)]
    exact ⟨rfl, rfl⟩
  · have g1 : decide ((n : Int) ≤ 1114111) = true := decide_eq_true (by omega)
    have g2 : decide ((n : Int) < 55296) = false := decide_eq_false (by omega)
    have g3 : decide ((57343 : Int) < (n : Int)) = false := decide_eq_false (by omega)
    go_enter Tryz.func163, Tryz.ntmps163
    go_wp2
    all_goals (try (exfalso; omega))
    go_ret
    rw [hv.out, decide_eq_false (by omega)]
    exact ⟨rfl, rfl⟩
  · have g1 : decide ((n : Int) ≤ 1114111) = true := decide_eq_true (by omega)
    have g2 : decide ((n : Int) < 55296) = false := decide_eq_false (by omega)
    have g3 : decide ((57343 : Int) < (n : Int)) = true := decide_eq_true (by omega)
    go_enter Tryz.func163, Tryz.ntmps163
    go_wp2
    all_goals (try (exfalso; omega))
    go_ret
    rw [hv.out, decide_eq_true (by omega)]
    exact ⟨rfl, rfl⟩
  · have g1 : decide ((n : Int) ≤ 1114111) = false := decide_eq_false (by omega)
    go_enter Tryz.func163, Tryz.ntmps163
    go_wp2
    all_goals (try (exfalso; omega))
    go_ret
    rw [hv.out, decide_eq_false (by omega)]
    exact ⟨rfl, rfl⟩
set_option maxHeartbeats 1600000 in
theorem r12_adapt (delta count : Nat) (first : Bool) (w : World) (hd : delta ≤ 1099511627776) (hc0 : 0 < count) (hc : count ≤ 1048576) : Calls Tryz.prog 162 #[.int .i64 (delta : Int), .int .i64 (count : Int), .bool first] w fun e w' => e = .returned (.int .i64 (adaptN delta count first)) ∧ w = w' := by
  have hv : Hid (adaptN delta count first = adaptL ((if first = true then delta / 700 else delta / 2) + (if first = true then delta / 700 else delta / 2) / count) 0) := Lib.hid rfl
  have h1 : (if first = true then delta / 700 else delta / 2) ≤ 549755813888 := by split <;> omega
  obtain ⟨d0, hd0⟩ : ∃ d0, d0 = (if first = true then delta / 700 else delta / 2) := ⟨_, rfl⟩
  rw [← hd0] at hv h1
  have h2 : d0 / count ≤ d0 := Nat.div_le_self _ _
  obtain ⟨q, hq⟩ : ∃ q, q = d0 / count := ⟨_, rfl⟩
  rw [← hq] at hv h2
  have hqi : (d0 : Int) / (count : Int) = (q : Int) := by rw [hq]; exact (Int.natCast_ediv d0 count).symm
  have hqt : (d0 : Int).tdiv (count : Int) = (q : Int) := by rw [Int.tdiv_eq_ediv_of_nonneg (by omega)]; exact hqi
  have hcz : ((count : Int) == 0) = false := by simp; omega
  have hcn : (count : Int) ≠ 0 := by omega
  have h35 : d0 + q < 456 * 35 ^ 8 := by
    have : (35 : Nat) ^ 8 = 2251875390625 := by decide
    omega
  have H35 := Lib.hid h35
  clear hq h35
  cases first
  all_goals
    simp only [if_true, Bool.false_eq_true, if_false] at hd0
    (first | have hdi : (delta : Int) / 700 = (d0 : Int) := by omega | have hdi : (delta : Int) / 2 = (d0 : Int) := by omega)
    (first | have hdt : (delta : Int).tdiv 700 = (d0 : Int) := by rw [Int.tdiv_eq_ediv_of_nonneg (by omega)]; exact hdi | have hdt : (delta : Int).tdiv 2 = (d0 : Int) := by rw [Int.tdiv_eq_ediv_of_nonneg (by omega)]; exact hdi)
    clear hd0
    go_enter Tryz.func162, Tryz.ntmps162
    go_wp2
    all_goals (try (exfalso; omega))
    go_loop [0, 7] (fun dv kv => ∃ e k : Nat, dv = .int .i64 e ∧ kv = .int .i64 k ∧ e ≤ 1099511627776 ∧ k ≤ 288 ∧ Hid (adaptL (d0 + q) 0 = adaptL e k) ∧ Hid (∃ j, e < 456 * 35 ^ j ∧ k + 36 * j ≤ 288)) (fun dv _ => (intOf dv).toNat)
    case atStart => exact ⟨d0 + q, 0, by go_num, rfl, by omega, by omega, Lib.hid rfl, Lib.hid ⟨8, H35.out, by omega⟩⟩
    case round =>
      obtain ⟨e, k, rfl, rfl, he, hk, hst, hj⟩ := hrel
      by_cases hlt : 455 < e
      · have g1 : decide ((455 : Int) < (e : Int)) = true := decide_eq_true (by omega)
        have hst2 : Hid (adaptL (d0 + q) 0 = adaptL (e / 35) (k + 36)) := Lib.hid (by rw [hst.out, adaptL_big hlt])
        have hj2 : Hid (∃ j, e / 35 < 456 * 35 ^ j ∧ k + 36 + 36 * j ≤ 288) := Lib.hid (by
          obtain ⟨j, h1, h2⟩ := hj.out
          cases j with
          | zero => simp at h1; omega
          | succ j => exact ⟨j, by rw [Nat.pow_succ, ← Nat.mul_assoc] at h1; exact Nat.div_lt_of_lt_mul (by rw [Nat.mul_comm]; exact h1), by omega⟩)
        have hk2 : k + 36 ≤ 288 := by obtain ⟨j, _, h⟩ := hj2.out; omega
        clear hst hj
        go_wp2
        all_goals (try (exfalso; omega))
        go_round
        case rel => exact ⟨e / 35, k + 36, by go_num, by go_num, by omega, hk2, hst2, hj2⟩
        case measure => simp [intOf]; omega
      · have g1 : decide ((455 : Int) < (e : Int)) = false := decide_eq_false (by omega)
        obtain ⟨r, hr⟩ : ∃ r, r = 36 * e / (e + 38) := ⟨_, rfl⟩
        have hfin : Hid (adaptN delta count _ = k + r) := Lib.hid (by rw [hv.out, hst.out, adaptL_small hlt, hr])
        have hri : 36 * (e : Int) / ((e : Int) + 38) = (r : Int) := by rw [hr]; push_cast; rfl
        have hrt : (36 * (e : Int)).tdiv ((e : Int) + 38) = (r : Int) := by rw [Int.tdiv_eq_ediv_of_nonneg (by omega)]; exact hri
        have hr36 : r ≤ 36 := by
          rw [hr]
          apply Nat.le_of_lt_succ
          rw [Nat.div_lt_iff_lt_mul (by omega)]
          omega
        have hez : (e : Int) + 38 ≠ 0 := by omega
        clear hst hj hr
        go_wp2
        all_goals (try (exfalso; omega))
        go_ret
        rw [hfin.out]
        exact ⟨by go_num, rfl⟩
end Go.Proofs.YtjbciamhhfcdoaaGreatDoor
namespace Go.Proofs.YtjbciamhhfcdoaaGreatDoor
open Go.RowKit Hs
set_option linter.unusedSimpArgs false


set_option maxHeartbeats 500000 in
theorem ascii_isBlank (b : UInt8) (n : Int) (h : n = (b.toNat : Int)) (w : World) : Calls Tryz.prog 221 #[.int .u8 n] w fun e w' => e = .returned (.bool (isBlank b)) ∧ w = w' := by
  subst h
  go_enter Tryz.func221, Tryz.ntmps221
  go_wp2
  all_goals
    go_ret
    refine ⟨ret_bool ?_, rfl⟩
    first | (refine btrue ?_; omega) | (refine bfalse ?_; omega) | (refine bdec ?_; omega) | (refine beqdec ?_; omega) | (refine bnedec ?_; omega)


set_option maxHeartbeats 500000 in
theorem ascii_isSpace (b : UInt8) (n : Int) (h : n = (b.toNat : Int)) (w : World) : Calls Tryz.prog 190 #[.int .u8 n] w fun e w' => e = .returned (.bool (isSpace b)) ∧ w = w' := by
  subst h
  go_enter Tryz.func190, Tryz.ntmps190
  go_wp2_with ((go_at_call 221; refine (ascii_isBlank b _ rfl _).mono ?_; rintro e w' ⟨rfl, rfl⟩))
  all_goals
    go_ret
    refine ⟨ret_bool ?_, rfl⟩
    (try simp only [isBlank, isDigit, beq_iff_eq, beq_eq_false_iff_ne, ne_eq, decide_eq_true_eq, decide_eq_false_iff_not] at *)
    first | (refine btrue ?_; omega) | (refine bfalse ?_; omega) | (refine bdec ?_; omega) | (refine beqdec ?_; omega) | (refine bnedec ?_; omega)



end Go.Proofs.YtjbciamhhfcdoaaGreatDoor
namespace Go.Proofs.YtjbciamhhfcdoaaGreatDoor
open Go.RowKit Hs
set_option linter.unusedSimpArgs false
set_option linter.unusedVariables false

theorem infoByte : (Tryz.prog.info? 5).map (fun i => (i.zero, i.size, i.bytes)) = some (some (.int .u8 0), 1, 1) := by kernel_rfl
theorem infoStr : (Tryz.prog.info? 9).map (fun i => (i.zero, i.size, i.bytes)) = some (some (.string ByteArray.empty), 1, 16) := by kernel_rfl

theorem lower_step (s : ByteArray) (k : Nat) (hk : k < s.size) (x : Int) (hx : (65 ≤ (s[k].toNat : Int) ∧ (s[k].toNat : Int) ≤ 90 ∧ x = (s[k].toNat : Int) + 32) ∨ (¬ (65 ≤ (s[k].toNat : Int) ∧ (s[k].toNat : Int) ≤ 90) ∧ x = (s[k].toNat : Int))) :
    bcells (lower ((un s).take k)) ++ [.int .u8 x] = bcells (lower ((un s).take (k + 1))) := by
  have e : x = ((lowB s[k]).toNat : Int) := by
    have h : (s[k] + 32).toNat = (s[k].toNat + 32) % 256 := UInt8.toNat_add s[k] 32
    rcases hx with ⟨h1, h2, rfl⟩ | ⟨h1, rfl⟩
    · have e : lowB s[k] = s[k] + 32 := by unfold lowB isUpper; rw [if_pos (by rw [decide_eq_true_eq]; omega)]
      rw [e, h]; omega
    · have e : lowB s[k] = s[k] := by unfold lowB isUpper; rw [if_neg (by rw [decide_eq_true_eq]; omega)]
      rw [e]
  subst e
  rw [lower_snoc (un s) k (by simpa using hk), bcells_append]
  rfl
theorem len_take_un (s : ByteArray) (k : Nat) (hk : k ≤ s.size) : (lower ((un s).take k)).length = k := by simp; omega


set_option maxHeartbeats 800000 in
theorem ascii_lower (s : ByteArray) (w : World) (hs : s.size ≤ 100000000) : Calls Tryz.prog 105 #[.string s] w fun e w' => e = .returned (.string (mk (lower (un s)))) ∧ Below w.heap.size w w' := by
  obtain ⟨iB0, iB⟩ := info_parts infoByte
  go_enter Tryz.func105, Tryz.ntmps105
  go_wp2_with (at_make; refine wpList_make_own _ rfl _ _ 32 rfl w.heap.size 5 iB0 (.int .u8 0) 1 Tryz.underlying32 iB.1 iB.2.1 iB.2.2.1 .i64 .i64 _ s.size rfl rfl (by omega) (by rw [iB.2.2.2]; omega) (by unfold maxLen; omega) (Nat.le_refl _) ?_; intro w0 hown0 hgrow0)
  go_loopw [3, 11] (fun v i wr => ∃ k : Nat, k ≤ s.size ∧ i = .int .i64 k ∧ wr.ownsRow w.heap.size 5 1 v k (bcells (lower ((un s).take k))) ∧ Below w.heap.size w wr)
    (fun _ i _ => s.size - (intOf i).toNat)
  case atStart => exact ⟨0, Nat.zero_le _, rfl, hown0, (Below.refl _ _).grown hgrow0 (Nat.le_refl _) (fun k h => by cases h)⟩
  case round =>
    obtain ⟨k, hk, rfl, hown, hnx⟩ := hrel
    have hsize := hnx.size
    by_cases hlt : k < s.size
    · go_wp2_with (at_builtin; refine wpList_append_own _ rfl (.tmp 25) (.tmp 27) 32 rfl (w.heap.size) 5 iB0 (.int .u8 0) 1 1 Tryz.underlying32 iB.1 iB.2.1 iB.2.2.1 iB.2.2.2 rfl (by decide) _ _ _ rfl (hown.alloc _) ⟨wr.heap.size, 0, none⟩ 1 1 [_] rfl rfl (cell_one_new _ _ _) (by intro u hu; simp at hu; subst hu; rfl) (by unfold maxLen; omega) (by omega) (by simp; omega) ?_; intro v1 w1 hown1 hgrow1 hnil1)
      all_goals
        go_roundw
        case rel =>
          refine ⟨k + 1, by omega, by go_num, ?_, (hnx.alloc (by omega) _).grown hgrow1 (by simp; omega) (fun j hj => (hown.lt j hj).1)⟩
          have e := hown1
          rw [lower_step s k hlt] at e
          · exact e
          · omega
        case measure => simp [intOf]; omega
    · obtain rfl : k = s.size := by omega
      rw [List.take_of_length_le (by simp)] at hown
      have hcv := string_of_row (P := Tryz.prog) (Row.owned hown) (src := 32) (dst := 9) Tryz.underlying32 Tryz.underlying5 Tryz.underlying9
      go_wp2
      go_ret
      exact ⟨rfl, hnx⟩

set_option maxHeartbeats 800000 in
theorem ref01_lower (s : ByteArray) (w : World) (hs : s.size ≤ 100000000) : Calls Tryz.prog 153 #[.string s] w fun e w' => e = .returned (.string (mk (lower (un s)))) ∧ Below w.heap.size w w' := by
  obtain ⟨iB0, iB⟩ := info_parts infoByte
  go_enter Tryz.func153, Tryz.ntmps153
  go_wp2
  go_loopw [3, 4] (fun v i wr => ∃ k : Nat, k ≤ s.size ∧ i = .int .i64 k ∧ wr.ownsRow w.heap.size 5 1 v k (bcells (lower ((un s).take k))) ∧ Below w.heap.size w wr)
    (fun _ i _ => s.size - (intOf i).toNat)
  case atStart => exact ⟨0, Nat.zero_le _, rfl, World.ownsRow_nil _ _ _ _, Below.refl _ _⟩
  case round =>
    obtain ⟨k, hk, rfl, hown, hnx⟩ := hrel
    have hsize := hnx.size
    by_cases hlt : k < s.size
    · go_wp2_with (at_builtin; refine wpList_append_own _ rfl (.tmp 23) (.tmp 25) 32 rfl (w.heap.size) 5 iB0 (.int .u8 0) 1 1 Tryz.underlying32 iB.1 iB.2.1 iB.2.2.1 iB.2.2.2 rfl (by decide) _ _ _ rfl (hown.alloc _) ⟨wr.heap.size, 0, none⟩ 1 1 [_] rfl rfl (cell_one_new _ _ _) (by intro u hu; simp at hu; subst hu; rfl) (by unfold maxLen; omega) (by omega) (by simp; omega) ?_; intro v1 w1 hown1 hgrow1 hnil1)
      all_goals
        go_roundw
        case rel =>
          refine ⟨k + 1, by omega, by go_num, ?_, (hnx.alloc (by omega) _).grown hgrow1 (by simp; omega) (fun j hj => (hown.lt j hj).1)⟩
          have e := hown1
          rw [lower_step s k hlt] at e
          · exact e
          · omega
        case measure => simp [intOf]; omega
    · obtain rfl : k = s.size := by omega
      rw [List.take_of_length_le (by simp)] at hown
      have hcv := string_of_row (P := Tryz.prog) (Row.owned hown) (src := 32) (dst := 9) Tryz.underlying32 Tryz.underlying5 Tryz.underlying9
      go_wp2
      go_ret
      exact ⟨rfl, hnx⟩




end Go.Proofs.YtjbciamhhfcdoaaGreatDoor
