/- The walks of Words and Digits (program and reference), and of the helpers Short and Texts. Conditions: the strings' lengths are bounded. -/
import Derived.Test.YtimfngfimnapoaaAsciiText
namespace Go.Proofs.Ytimfngfimnapoaa
open Go.RowKit Hs
set_option linter.unusedSimpArgs false
set_option linter.unusedVariables false





set_option maxHeartbeats 800000 in
theorem keep_short (n : Int) (v : Value) (l : List Bs) (w : World) (hv : Strs w v l) (hs : ∀ t ∈ l, t.length ≤ maxLen) : Calls Try.prog 33 #[.int .i64 n, v] w fun e w' => e = .returned (.bool (l.all fun t => decide ((t.length : Int) ≤ n))) ∧ w = w' := by
  obtain ⟨a, cap, rfl, hn, hm, hc⟩ := hv.open
  unfold maxLen at hm
  have HC := Lib.hid hc
  have HS := Lib.hid hs
  clear hc hs hv
  go_enter Try.func33, Try.ntmps33
  go_wp2
  go_loop [5] (fun i => ∃ k : Nat, i = .int .i64 k ∧ k ≤ l.length ∧ Hid ((l.all fun t => decide ((t.length : Int) ≤ n)) = ((l.drop k).all fun t => decide ((t.length : Int) ≤ n)))) (fun i => l.length - (intOf i).toNat)
  case atStart => exact ⟨0, rfl, by omega, rfl⟩
  case round =>
    obtain ⟨k, rfl, hk, ha⟩ := hrel
    by_cases hlt : k < l.length
    · obtain ⟨b, off, rfl, _, hcell⟩ := HC.out (by omega)
      have hk' := hcell k hlt
      clear hcell
      have hsz : (mk l[k]).size ≤ 9223372036854775807 := by have := HS.out l[k] (List.getElem_mem hlt); rw [size_mk]; simpa [maxLen] using this
      obtain ⟨t, ht⟩ : ∃ t, t = l[k] := ⟨_, rfl⟩
      rw [← ht] at hk' hsz
      have hd : Hid ((l.drop k).all (fun t => decide ((t.length : Int) ≤ n)) = (decide ((t.length : Int) ≤ n) && (l.drop (k + 1)).all fun t => decide ((t.length : Int) ≤ n))) := by
        rw [ht, List.drop_eq_getElem_cons hlt, List.all_cons]; rfl
      have hz : (mk t).size = t.length := size_mk t
      clear ht
      go_wp2
      · go_ret
        refine ⟨ret_bool ?_, rfl⟩
        rw [ha.out, hd.out, decide_eq_false (by omega)]; rfl
      · go_round
        case rel =>
          refine ⟨k + 1, by go_num, by omega, ?_⟩
          have e1 := ha.out
          rw [hd.out, decide_eq_true (by omega), Bool.true_and] at e1
          exact e1
        case measure => simp [intOf]; omega
    · obtain rfl : k = l.length := by omega
      have hfin : Hid ((l.all fun t => decide ((t.length : Int) ≤ n)) = true) := by
        have e1 := ha.out
        rw [List.drop_length] at e1
        exact e1
      go_wp2
      go_ret
      exact ⟨ret_bool hfin.out.symm, rfl⟩

theorem take_eq_step (l m : List Bs) (k : Nat) (h1 : k < l.length) (h2 : k < m.length) (h : l.take k = m.take k) : (l[k] = m[k] → l.take (k + 1) = m.take (k + 1)) ∧ (l[k] ≠ m[k] → l ≠ m) := by
  refine ⟨fun e => ?_, fun e he => e (by subst he; rfl)⟩
  rw [List.take_succ_eq_append_getElem h1, List.take_succ_eq_append_getElem h2, h, e]
set_option maxHeartbeats 1000000 in
theorem keep_texts (v u : Value) (l m : List Bs) (w : World) (hv : Strs w v l) (hu : Strs w u m) : Calls Try.prog 17 #[v, u] w fun e w' => e = .returned (.bool (decide (l = m))) ∧ Below w.heap.size w w' := by
  obtain ⟨a, cap, rfl, hn, hm, hc⟩ := hv.open
  obtain ⟨a2, cap2, rfl, hn2, hm2, hc2⟩ := hu.open
  unfold maxLen at hm hm2
  have HC := Lib.hid hc
  have HC2 := Lib.hid hc2
  clear hc hc2 hv hu
  by_cases hll : l.length = m.length
  · have hl1 : ((l.length : Int) != (m.length : Int)) = false := by simp [hll]
    have hl2 : m.length ≤ l.length := by omega
    have hl3 : l.length ≤ m.length := by omega
    clear hll
    go_enter Try.func17, Try.ntmps17
    go_wp2
    go_loopw [5] (fun i wr => ∃ k : Nat, i = .int .i64 k ∧ k ≤ l.length ∧ Below w.heap.size w wr ∧ Hid (l.take k = m.take k)) (fun i _ => l.length - (intOf i).toNat)
    case atStart => exact ⟨0, rfl, by omega, Below.refl _ _, rfl⟩
    case round =>
      obtain ⟨k, rfl, hk, hnx, ht⟩ := hrel
      by_cases hlt : k < l.length
      · obtain ⟨b, off, rfl, hb1, hcell⟩ := HC.out (by omega)
        obtain ⟨b2, off2, rfl, hb2, hcell2⟩ := HC2.out (by omega)
        have c1 := (hnx.cell (p := ⟨b, off + k, none⟩) hb1).trans (hcell k hlt)
        have c2 := (hnx.cell (p := ⟨b2, off2 + k, none⟩) hb2).trans (hcell2 k (by omega))
        clear hcell hcell2
        have hst := take_eq_step l m k hlt (by omega) ht.out
        have HST := Lib.hid hst
        clear hst
        obtain ⟨x, hx⟩ : ∃ x, x = l[k] := ⟨_, rfl⟩
        obtain ⟨y, hy⟩ : ∃ y, y = m[k]'(by omega) := ⟨_, rfl⟩
        rw [← hx] at c1
        rw [← hy] at c2
        have HX := Lib.hid hx
        have HY := Lib.hid hy
        clear hx hy
        by_cases hxy : x = y
        · have he : ((mk x).toList == (mk y).toList) = true := by rw [hxy]; simp
          have HXY := Lib.hid hxy
          clear hxy
          go_wp2
          go_quiet (fail)
          go_wp2
          go_roundw
          case rel =>
            refine ⟨k + 1, by go_num, by omega, by first | exact hnx | exact below_drewN hnx _, ?_⟩
            exact HST.out.1 (by rw [← HX.out, ← HY.out]; exact HXY.out)
          case measure => simp [intOf]; omega
        · have he : ((mk x).toList == (mk y).toList) = false := by simp [toList_un, hxy]
          have HXY := Lib.hid hxy
          clear hxy
          go_wp2
          go_quiet (fail)
          go_wp2
          go_ret
          exact ⟨ret_bool (bfalse (HST.out.2 (by rw [← HX.out, ← HY.out]; exact HXY.out))), by first | exact hnx | exact below_drewN hnx _⟩
      · obtain rfl : k = l.length := by omega
        have hfin : Hid (l = m) := by
          have e := ht.out
          rw [List.take_length, List.take_of_length_le (by omega)] at e
          exact e
        clear ht
        go_wp2
        go_ret
        exact ⟨ret_bool (btrue hfin.out), hnx⟩
  · have hl1 : ((l.length : Int) != (m.length : Int)) = true := by simp; omega
    have hne : l ≠ m := fun e => hll (by rw [e])
    have HNE := Lib.hid hne
    clear hll hne
    go_enter Try.func17, Try.ntmps17
    go_wp2
    go_ret
    exact ⟨ret_bool (bfalse HNE.out), Below.refl _ _⟩
end Go.Proofs.Ytimfngfimnapoaa
