/- The walks of Words and Digits (program and reference), and of the helpers Short and Texts. Conditions: the strings' lengths are bounded. -/
import Derived.Test.YtjdkmidajhbefaaAsciiText
namespace Go.Proofs.Ytjdkmidajhbefaa
open Go.RowKit Hs
set_option linter.unusedSimpArgs false
set_option linter.unusedVariables false




set_option maxHeartbeats 1500000 in
theorem ref01_digits (s : ByteArray) (w : World) (hs : s.size ≤ 100000000) : Calls Try.prog 58 #[.string s] w fun e w' => e = .returned (.bool (digits (un s))) ∧ w = w' := by
  go_enter Try.func58, Try.ntmps58
  go_wp2
  go_loop [3] (fun i => ∃ k : Nat, i = .int .i64 k ∧ k ≤ s.size ∧ Hid ((un s).all isDigit = ((un s).drop k).all isDigit)) (fun i => s.size - (intOf i).toNat)
  case atStart => exact ⟨0, rfl, by omega, rfl⟩
  case round =>
    obtain ⟨k, rfl, hk, ha⟩ := hrel
    by_cases hlt : k < s.size
    · cases hb : isDigit (s[k]'hlt)
      · have hno : Hid (false = digits (un s)) := by
          have e1 := ha.out
          unfold digits
          rw [e1, all_drop_eq (un s) isDigit k (by rw [length_un]; omega) false hb]; simp [Hid]
        have hb2 := hb; simp only [isDigit, decide_eq_false_iff_not] at hb2
        go_wp2
        all_goals
          first
          | (go_ret
             exact ⟨ret_bool hno.out, rfl⟩)
          | (exfalso; omega)
      · have hyes : Hid ((un s).all isDigit = ((un s).drop (k + 1)).all isDigit) := by
          have e1 := ha.out
          rw [e1, all_drop_eq (un s) isDigit k (by rw [length_un]; omega) true hb]; simp [Hid]
        have hb2 := hb; simp only [isDigit, decide_eq_true_eq] at hb2
        go_wp2
        all_goals
          first
          | (exfalso; omega)
          | (go_round
             case rel => exact ⟨k + 1, by go_num, by omega, hyes⟩
             case measure => simp [intOf]; omega)
    · obtain rfl : k = s.size := by omega
      have hfin : Hid ((un s).all isDigit = true) := by
        have e1 := ha.out
        rw [List.drop_eq_nil_of_le (by rw [length_un]; omega)] at e1
        exact e1
      clear ha
      go_wp2
      go_ret
      exact ⟨ret_bool (by unfold digits; rw [hfin.out, toList_un]; simp), rfl⟩

set_option maxHeartbeats 800000 in
theorem keep_short (n : Int) (v : Value) (l : List Bs) (w : World) (hv : Strs w v l) (hs : ∀ t ∈ l, t.length ≤ maxLen) : Calls Try.prog 26 #[.int .i64 n, v] w fun e w' => e = .returned (.bool (l.all fun t => decide ((t.length : Int) ≤ n))) ∧ w = w' := by
  obtain ⟨a, cap, rfl, hn, hm, hc⟩ := hv.open
  unfold maxLen at hm
  have HC := Lib.hid hc
  have HS := Lib.hid hs
  clear hc hs hv
  go_enter Try.func26, Try.ntmps26
  go_wp2
  go_loop [5] (fun i => ∃ k : Nat, i = .int .i64 k ∧ k ≤ l.length ∧ Hid ((l.all fun t => decide ((t.length : Int) ≤ n)) = ((l.drop k).all fun t => decide ((t.length : Int) ≤ n)))) (fun i => l.length - (intOf i).toNat)
  case atStart => exact ⟨0, rfl, by omega, rfl⟩
  case round =>
    obtain ⟨k, rfl, hk, ha⟩ := hrel
    by_cases hlt : k < l.length
    · obtain ⟨b, off, rfl, _, hcell⟩ := HC.out (by omega)
      have hk' := hcell k hlt
      clear hcell
      have hsz : (mk l[k]).size ≤ 9223372036854775807 := by have := HS.out l[k] (List.getElem_mem hlt); rw [size_mk]; simpa [maxLen] using this
      obtain ⟨t, ht⟩ : ∃ t, t = l[k] := ⟨_, rfl⟩
      rw [← ht] at hk' hsz
      have hd : Hid ((l.drop k).all (fun t => decide ((t.length : Int) ≤ n)) = (decide ((t.length : Int) ≤ n) && (l.drop (k + 1)).all fun t => decide ((t.length : Int) ≤ n))) := by
        rw [ht, List.drop_eq_getElem_cons hlt, List.all_cons]; rfl
      have hz : (mk t).size = t.length := size_mk t
      clear ht
      go_wp2
      · go_ret
        refine ⟨ret_bool ?_, rfl⟩
        rw [ha.out, hd.out, decide_eq_false (by omega)]; rfl
      · go_round
        case rel =>
          refine ⟨k + 1, by go_num, by omega, ?_⟩
          have e1 := ha.out
          rw [hd.out, decide_eq_true (by omega), Bool.true_and] at e1
          exact e1
        case measure => simp [intOf]; omega
    · obtain rfl : k = l.length := by omega
      have hfin : Hid ((l.all fun t => decide ((t.length : Int) ≤ n)) = true) := by
        have e1 := ha.out
        rw [List.drop_length] at e1
        exact e1
      go_wp2
      go_ret
      exact ⟨ret_bool hfin.out.symm, rfl⟩

end Go.Proofs.Ytjdkmidajhbefaa
