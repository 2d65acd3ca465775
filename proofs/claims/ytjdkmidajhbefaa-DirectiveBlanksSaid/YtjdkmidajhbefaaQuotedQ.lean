/- The walks of the layer quoted (program and reference): they return the plain functions' answers. Conditions: strings are of bounded length. -/
import Derived.Test.YtjdkmidajhbefaaQuoted
import Derived.Test.YtjdkmidajhbefaaBuilder
namespace Go.Proofs.Ytjdkmidajhbefaa
open Go.RowKit Hs
set_option linter.unusedSimpArgs false
set_option linter.unusedVariables false

set_option maxHeartbeats 4000000 in
theorem q_quote (s : ByteArray) (w : World) (hs : s.size ≤ 10000000) : Calls Try.prog 24 #[.string s] w fun e w' => e = .returned (quval (quoteR (un s))) ∧ Below w.heap.size w w' := by
  go_enter Try.func24, Try.ntmps24
  go_wp2_with fail
  refine (b_writeByte w.heap.size w.heap.size [] 34 _ (Lib.fresh_isBuilder _ _ _) (by simp) (by simp)).mono ?_; rintro e w1 ⟨rfl, hbu1, hb1⟩
  have hb0 := ((Below.refl w.heap.size w).alloc (Nat.le_refl _) _).trans hb1
  go_wp2_with fail
  go_loopw [9] (fun kv wr => ∃ (k : Nat), kv = .int .i64 k ∧ k ≤ s.size ∧ Lib.IsBuilder 57 5 w.heap.size w.heap.size (Lib.byteCells (34 :: quoteBody ((un s).take k))) wr ∧ Below w.heap.size w wr ∧ Hid ((un s).all isTxt = ((un s).drop k).all isTxt)) (fun kv _ => s.size - (intOf kv).toNat)
  case atStart => exact ⟨0, rfl, by omega, .inr hbu1, hb0, rfl⟩
  case round =>
    clear hbu1 hb1 hb0
    obtain ⟨k, rfl, hk, hbu, hnx, hal⟩ := hrel
    have hsize := hnx.size
    have hql := length_quoteBody_take (un s) k
    by_cases hlt : k < s.size
    · have hlu : k < (un s).length := by rw [length_un]; exact hlt
      have hqs := Lib.hid (quoteBody_step (un s) k hlu)
      cases ht : isTxt (s[k]'hlt)
      · have hno : Hid (quoteR (un s) = ([], 4)) := quoteR_no _ (by rw [hal.out, all_drop_eq (un s) isTxt k hlu false ht]; rfl)
        go_wp2_with (go_at_call 39; refine (q_text _ _ rfl _).mono ?_; rintro e w' ⟨rfl, rfl⟩)
        go_ret2
        exact ⟨by rw [hno.out]; rfl, hnx⟩
      · have hal' : Hid ((un s).all isTxt = ((un s).drop (k + 1)).all isTxt) := by
          have e := hal.out
          rw [all_drop_eq (un s) isTxt k hlu true ht] at e
          exact e
        clear hal
        by_cases hsp : ((s[k]'hlt).toNat : Int) = 34 ∨ ((s[k]'hlt).toNat : Int) = 92
        · have he : Hid (escB (s[k]'hlt) = [92, s[k]'hlt]) := if_pos (by omega)
          have hbool : ((((s[k]'hlt).toNat : Int) == 34) = true) ∨ ((((s[k]'hlt).toNat : Int) == 34) = false ∧ (((s[k]'hlt).toNat : Int) == 92) = true) := by simp; omega
          clear hsp
          rcases hbool with hq1 | ⟨hq1, hq2⟩
          all_goals
            go_wp2_with (go_at_call 39; refine (q_text _ _ rfl _).mono ?_; rintro e w' ⟨rfl, rfl⟩)
            refine (b_writeByte w.heap.size w.heap.size _ 92 _ hbu (by simp [Lib.byteCells]; omega) (by omega)).mono ?_; rintro e w1 ⟨rfl, hbu1, hb1⟩
            go_wp2_with fail
            refine (b_writeByte w.heap.size w.heap.size _ _ _ (.inr hbu1) (by simp [Lib.byteCells]; omega) (by have := hb1.size; omega)).mono ?_; rintro e w2 ⟨rfl, hbu2, hb2⟩
            go_wp2_with fail
            go_roundw
            case rel =>
              refine ⟨k + 1, by go_num, by omega, ?_, (hnx.trans hb1).trans hb2, hal'⟩
              have e1 : quoteBody ((un s).take (k + 1)) = quoteBody ((un s).take k) ++ [92, s[k]'hlt] := hqs.out.trans (congrArg _ he.out)
              rw [e1]
              have e2 : Lib.byteCells (34 :: (quoteBody ((un s).take k) ++ [92, s[k]'hlt])) = Lib.byteCells (34 :: quoteBody ((un s).take k)) ++ [.int .u8 92] ++ [.int .u8 ((s[k]'hlt).toNat : Int)] := by simp [Lib.byteCells]
              rw [e2]
              exact .inr hbu2
            case measure => simp [intOf]; omega
        · have he : Hid (escB (s[k]'hlt) = [s[k]'hlt]) := if_neg (by omega)
          have h34 : ((s[k]'hlt).toNat : Int) ≠ 34 := by omega
          have h92 : ((s[k]'hlt).toNat : Int) ≠ 92 := by omega
          clear hsp
          go_wp2_with (go_at_call 39; refine (q_text _ _ rfl _).mono ?_; rintro e w' ⟨rfl, rfl⟩)
          all_goals (try (exfalso; omega))
          refine (b_writeByte w.heap.size w.heap.size _ _ _ hbu (by simp [Lib.byteCells]; omega) (by omega)).mono ?_; rintro e w1 ⟨rfl, hbu1, hb1⟩
          go_wp2_with fail
          go_roundw
          case rel =>
            refine ⟨k + 1, by go_num, by omega, ?_, hnx.trans hb1, hal'⟩
            have e1 : quoteBody ((un s).take (k + 1)) = quoteBody ((un s).take k) ++ [s[k]'hlt] := hqs.out.trans (congrArg _ he.out)
            rw [e1]
            have e2 : Lib.byteCells (34 :: (quoteBody ((un s).take k) ++ [s[k]'hlt])) = Lib.byteCells (34 :: quoteBody ((un s).take k)) ++ [.int .u8 ((s[k]'hlt).toNat : Int)] := by simp [Lib.byteCells]
            rw [e2]
            exact .inr hbu1
          case measure => simp [intOf]; omega
    · obtain rfl : k = s.size := by omega
      have hyes : Hid (quoteR (un s) = (quoteB (un s), 0)) := quoteR_yes _ (by rw [hal.out, List.drop_eq_nil_of_le (by rw [length_un]; exact Nat.le_refl _)]; rfl)
      have htk : (un s).take s.size = un s := List.take_of_length_le (by rw [length_un]; exact Nat.le_refl _)
      rw [htk] at hbu hql
      clear htk
      go_wp2_with fail
      refine (b_writeByte w.heap.size w.heap.size _ 34 _ hbu (by simp [Lib.byteCells]; omega) (by omega)).mono ?_; rintro e w1 ⟨rfl, hbu1, hb1⟩
      have hbu2 : Lib.IsBuilder 57 5 w.heap.size w.heap.size (Lib.byteCells (quoteB (un s))) w1 := by
        have e2 : Lib.byteCells (quoteB (un s)) = Lib.byteCells (34 :: quoteBody (un s)) ++ [.int .u8 34] := by simp [Lib.byteCells, quoteB]
        rw [e2]
        exact .inr hbu1
      go_wp2_with fail
      refine (Try.Builder_String_any w.heap.size w.heap.size (quoteB (un s)) _ hbu2 (by have := hb1.size; omega)).mono ?_; rintro e w2 ⟨rfl, hb2⟩
      go_wp2_with fail
      go_ret2
      exact ⟨by rw [hyes.out]; rfl, (hnx.trans hb1).trans hb2⟩

theorem r_value (s : ByteArray) (w : World) (hs : s.size ≤ 100000000) : Calls Try.prog 45 #[.string s] w fun e w' => e = .returned (.bool ((un s).all isTxt)) ∧ w = w' := by
  go_enter Try.func45, Try.ntmps45
  go_wp2
  go_loop [3] (fun i => ∃ k : Nat, i = .int .i64 k ∧ k ≤ s.size ∧ Hid ((un s).all isTxt = ((un s).drop k).all isTxt)) (fun i => s.size - (intOf i).toNat)
  case atStart => exact ⟨0, rfl, by omega, rfl⟩
  case round =>
    obtain ⟨k, rfl, hk, ha⟩ := hrel
    by_cases hlt : k < s.size
    · cases hb : isTxt (s[k]'hlt)
      · have hno : Hid (false = (un s).all isTxt) := by
          rw [ha.out, all_drop_eq (un s) isTxt k (by rw [length_un]; omega) false hb]; rfl
        go_wp2_with (go_at_call 42; refine (r_text _ _ rfl _).mono ?_; rintro e w' ⟨rfl, rfl⟩)
        go_ret
        exact ⟨ret_bool hno.out, rfl⟩
      · have hyes : Hid ((un s).all isTxt = ((un s).drop (k + 1)).all isTxt) := by
          have e := ha.out
          rw [all_drop_eq (un s) isTxt k (by rw [length_un]; omega) true hb] at e
          exact e
        go_wp2_with (go_at_call 42; refine (r_text _ _ rfl _).mono ?_; rintro e w' ⟨rfl, rfl⟩)
        go_round
        case rel => exact ⟨k + 1, by go_num, by omega, hyes⟩
        case measure => simp [intOf]; omega
    · obtain rfl : k = s.size := by omega
      have hfin : Hid (true = (un s).all isTxt) := by
        rw [ha.out, List.drop_eq_nil_of_le (by rw [length_un]; exact Nat.le_refl _)]; rfl
      clear ha
      go_wp2
      go_ret
      exact ⟨ret_bool hfin.out, rfl⟩

set_option maxHeartbeats 4000000 in
theorem r_quote (s : ByteArray) (w : World) (hs : s.size ≤ 10000000) : Calls Try.prog 25 #[.string s] w fun e w' => e = .returned (quval (quoteR (un s))) ∧ w = w' := by
  cases hv : (un s).all isTxt
  · have hno : Hid (quoteR (un s) = ([], 4)) := quoteR_no _ hv
    have HV := Lib.hid hv
    clear hv
    go_enter Try.func25, Try.ntmps25
    go_wp2_with fail
    refine (r_value s _ (by omega)).mono ?_; rintro e w' ⟨rfl, rfl⟩
    rw [HV.out]
    go_wp2_with fail
    go_ret2
    exact ⟨by rw [hno.out]; rfl, rfl⟩
  · have hyes : Hid (quoteR (un s) = (quoteB (un s), 0)) := quoteR_yes _ hv
    have HV := Lib.hid hv
    clear hv
    go_enter Try.func25, Try.ntmps25
    go_wp2_with fail
    refine (r_value s _ (by omega)).mono ?_; rintro e w' ⟨rfl, rfl⟩
    rw [HV.out]
    go_wp2_with fail
    go_loop [4, 5] (fun sv kv => ∃ k : Nat, kv = .int .i64 k ∧ k ≤ s.size ∧ sv = .string (mk (34 :: quoteBody ((un s).take k)))) (fun _ kv => s.size - (intOf kv).toNat)
    case atStart => exact ⟨0, rfl, by omega, rfl⟩
    case round =>
      obtain ⟨k, rfl, hk, rfl⟩ := hrel
      have hql := length_quoteBody_take (un s) k
      have hql2 : (mk (34 :: quoteBody ((un s).take k))).size ≤ 20000001 := by rw [size_mk, List.length_cons]; omega
      by_cases hlt : k < s.size
      · have hlu : k < (un s).length := by rw [length_un]; exact hlt
        have hqs := Lib.hid (quoteBody_step (un s) k hlu)
        have hone : (s.extract k (k + 1)).size ≤ 1 := by rw [ByteArray.size_extract]; omega
        have hex : Hid (un (s.extract k (k + 1)) = [s[k]'hlt]) := by rw [un_extract_seg, seg_one _ _ hlu]; rfl
        by_cases hsp : ((s[k]'hlt).toNat : Int) = 34 ∨ ((s[k]'hlt).toNat : Int) = 92
        · have he : Hid (escB (s[k]'hlt) = [92, s[k]'hlt]) := if_pos (by omega)
          rcases hsp with hsp | hsp
          all_goals
            go_wp2
            all_goals (try (exfalso; omega))
            go_round
            case rel =>
              refine ⟨k + 1, by go_num, by omega, ?_⟩
              have e1 : quoteBody ((un s).take (k + 1)) = quoteBody ((un s).take k) ++ [92, s[k]'hlt] := hqs.out.trans (congrArg _ he.out)
              rw [e1]
              refine congrArg Value.string (un_inj ?_)
              rw [un_append, un_append, un_mk, un_mk, hex.out]
              simp [un]
            case measure => simp [intOf]; omega
        · have he : Hid (escB (s[k]'hlt) = [s[k]'hlt]) := if_neg (by omega)
          have h34 : ((s[k]'hlt).toNat : Int) ≠ 34 := by omega
          have h92 : ((s[k]'hlt).toNat : Int) ≠ 92 := by omega
          clear hsp
          go_wp2
          all_goals (try (exfalso; omega))
          go_round
          case rel =>
            refine ⟨k + 1, by go_num, by omega, ?_⟩
            have e1 : quoteBody ((un s).take (k + 1)) = quoteBody ((un s).take k) ++ [s[k]'hlt] := hqs.out.trans (congrArg _ he.out)
            rw [e1]
            refine congrArg Value.string (un_inj ?_)
            rw [un_append, un_mk, un_mk, hex.out]
            rfl
          case measure => simp [intOf]; omega
      · obtain rfl : k = s.size := by omega
        go_wp2
        go_ret2
        refine ⟨?_, rfl⟩
        rw [hyes.out, List.take_of_length_le (by rw [length_un]; exact Nat.le_refl _)]
        refine congrArg (fun x => Ending.returned (.tuple #[.string x, .int .i64 0])) (un_inj ?_)
        rw [un_append, un_mk, un_mk]
        simp [quoteB, un]
end Go.Proofs.Ytjdkmidajhbefaa
