/- The walk of small of layer 21 (fields). Conditions: none. -/
import Derived.Test.YtimfngfimnapoaaFieldsT
import Derived.Test.YtimfngfimnapoaaAsciiWords
namespace Go.Proofs.Ytimfngfimnapoaa
open Go.RowKit Hs
set_option linter.unusedSimpArgs false
set_option linter.unusedVariables false

/-- Whether a list of fields is small. -/
def smallF (l : List Fld) : Bool := decide (l.length ≤ 110) && l.all (fun d => decide (d.1.length ≤ 3000) && decide (d.2.length ≤ 3000))
theorem smallF_yes (l : List Fld) (h : smallF l = true) : l.length ≤ 110 ∧ ∀ d ∈ l, d.1.length ≤ 3000 ∧ d.2.length ≤ 3000 := by
  unfold smallF at h
  rw [Bool.and_eq_true, decide_eq_true_eq, List.all_eq_true] at h
  refine ⟨h.1, fun d hd => ?_⟩
  have := h.2 d hd
  rw [Bool.and_eq_true, decide_eq_true_eq, decide_eq_true_eq] at this
  omega

set_option maxHeartbeats 2000000 in
theorem l21_small (v : Value) (l : List Fld) (w : World) (hv : Flds w v l) (hs : ∀ d ∈ l, d.1.length ≤ maxLen ∧ d.2.length ≤ maxLen) : Calls Try.prog 14 #[v] w fun e w' => e = .returned (.bool (smallF l)) ∧ Below w.heap.size w w' := by
  obtain ⟨a, cap, rfl, hn, hm, hc⟩ := hv.open
  unfold maxLen at hm
  have HC := Lib.hid hc
  have HS := Lib.hid hs
  clear hc hv hs
  by_cases h40 : l.length ≤ 110
  · have hsm : Hid (smallF l = l.all (fun d => decide (d.1.length ≤ 3000) && decide (d.2.length ≤ 3000))) := Lib.hid (by unfold smallF; rw [decide_eq_true h40, Bool.true_and])
    go_enter Try.func14, Try.ntmps14
    go_wp2
    go_loopw [3] (fun i wr => ∃ k : Nat, i = .int .i64 k ∧ k ≤ l.length ∧ Below w.heap.size w wr ∧ Hid (smallF l = (l.drop k).all (fun d => decide (d.1.length ≤ 3000) && decide (d.2.length ≤ 3000)))) (fun i _ => l.length - (intOf i).toNat)
    case atStart => exact ⟨0, rfl, by omega, Below.refl _ _, hsm⟩
    case round =>
      obtain ⟨k, rfl, hk, hnx, ha⟩ := hrel
      by_cases hlt : k < l.length
      · obtain ⟨b, off, rfl, hb1, hcell⟩ := HC.out (by omega)
        obtain ⟨x0, x1⟩ := hcell k hlt
        have c0 := (hnx.cell (p := ⟨b, off + k * 2, none⟩) hb1).trans x0
        have c1 := (hnx.cell (p := ⟨b, off + k * 2 + 1, none⟩) hb1).trans x1
        have hsz := HS.out l[k] (List.getElem_mem hlt)
        have hst : Hid (smallF l = ((decide (l[k].1.length ≤ 3000) && decide (l[k].2.length ≤ 3000)) && (l.drop (k + 1)).all (fun d => decide (d.1.length ≤ 3000) && decide (d.2.length ≤ 3000)))) := by
          have e := ha.out
          rw [List.drop_eq_getElem_cons hlt, List.all_cons] at e
          exact e
        clear hcell x0 x1 ha
        obtain ⟨x, hx⟩ : ∃ x, x = l[k] := ⟨_, rfl⟩
        rw [← hx] at c0 c1 hsz hst
        clear hx
        obtain ⟨n, z⟩ := x
        simp only at c0 c1 hsz hst
        obtain ⟨bb, hbb⟩ : ∃ bb, bb = (decide (n.length ≤ 3000) && decide (z.length ≤ 3000)) := ⟨_, rfl⟩
        rw [← hbb] at hst
        have hsh : Hid (∀ (W' : World) (g : Nat), Strs W' (.slice (some ⟨g, 0, none⟩) 2 2) [n, z] → Calls Try.prog 33 #[.int .i64 3000, .slice (some ⟨g, 0, none⟩) 2 2] W' fun e w' => e = .returned (.bool bb) ∧ W' = w') := Lib.hid (fun W' g hstr => by
          have := keep_short 3000 _ [n, z] _ hstr (by
            intro t ht
            simp only [List.mem_cons, List.not_mem_nil, or_false] at ht
            rcases ht with rfl | rfl
            · exact hsz.1
            · exact hsz.2)
          have e : ([n, z].all fun t => decide ((t.length : Int) ≤ 3000)) = bb := by
            rw [hbb, Bool.eq_iff_iff]; simp; omega
          rw [e] at this
          exact this)
        clear hbb hsz
        cases bb
        · have hfin := Lib.hid (hst.out.trans (Bool.false_and _))
          clear hst
          go_wp2_with fail
          go_region_with (go_at_call 33; refine (hsh.out _ _ (by exact strs_lit wr [mk n, mk z] _ (by simp [maxLen]))).mono ?_; rintro e w' ⟨rfl, rfl⟩)
          all_goals
            go_wp2
            go_ret
            exact ⟨ret_bool hfin.out.symm, (hnx.alloc hnx.size _).drew⟩
        · have hst2 := Lib.hid (hst.out.trans (Bool.true_and _))
          clear hst
          go_wp2_with fail
          go_region_with (go_at_call 33; refine (hsh.out _ _ (by exact strs_lit wr [mk n, mk z] _ (by simp [maxLen]))).mono ?_; rintro e w' ⟨rfl, rfl⟩)
          all_goals
            go_wp2
            go_roundw
            case rel => exact ⟨k + 1, by go_num, by omega, (hnx.alloc hnx.size _).drew, hst2⟩
            case measure => simp [intOf]; omega
      · obtain rfl : k = l.length := by omega
        have hfin : Hid (smallF l = true) := by
          have e := ha.out
          rw [List.drop_length] at e
          exact e
        clear ha
        go_wp2
        go_ret
        exact ⟨ret_bool hfin.out.symm, hnx⟩
  · have hsm : Hid (smallF l = false) := Lib.hid (by unfold smallF; rw [decide_eq_false h40]; rfl)
    go_enter Try.func14, Try.ntmps14
    go_wp2
    go_ret
    exact ⟨ret_bool hsm.out.symm, Below.refl _ _⟩
end Go.Proofs.Ytimfngfimnapoaa
