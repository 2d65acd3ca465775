/- The walk of Format of the reference of the layer directive. Conditions: the texts' lengths are bounded. -/
import Derived.Test.YtjdkmidajhbefaaDirVr
namespace Go.Proofs.Ytjdkmidajhbefaa
open Go.RowKit Hs
set_option linter.unusedSimpArgs false
set_option linter.unusedVariables false

/-- The text of the first k directives. -/
def joinTo (l : List Dir) (k : Nat) : Bs := joinS ((l.take k).map dirText)
theorem joinTo_step (l : List Dir) (k : Nat) (h : k < l.length) : joinTo l (k + 1) = joinTo l k ++ ((if k = 0 then [] else [59, 32]) ++ dirText l[k]) := by
  unfold joinTo
  rw [List.take_succ_eq_append_getElem h, List.map_append, List.map_cons, List.map_nil, joinS_snoc]
  congr 2
  cases k with
  | zero => simp
  | succ k =>
    cases l with
    | nil => simp at h
    | cons d l => simp
theorem joinTo_len (l : List Dir) (k : Nat) (hk : k ≤ 32) (hs : ∀ d ∈ l, d.1.length ≤ 10000 ∧ d.2.1.length ≤ 10000) : (joinTo l k).length ≤ 1000000 := by
  have h1 : ∀ t ∈ (l.take k).map dirText, t.length ≤ 30003 := by
    intro t ht
    obtain ⟨d, hd, rfl⟩ := List.mem_map.1 ht
    have := length_dirText d
    have := hs d (List.mem_of_mem_take hd)
    omega
  have := length_joinS 30003 ((l.take k).map dirText) h1
  rw [List.length_map, List.length_take] at this
  unfold joinTo
  have h2 : min k l.length * (30003 + 2) ≤ 32 * (30003 + 2) := Nat.mul_le_mul_right _ (by omega)
  omega
theorem rvalid_one (l : List Dir) (h : validD l = true) : l.length ≤ 32 ∧ ∀ d ∈ l, d.2.1.all isTxt = true := by
  unfold validD at h
  rw [Bool.and_eq_true, decide_eq_true_eq, List.all_eq_true] at h
  refine ⟨h.2, fun d hd => ?_⟩
  have := h.1 d hd
  unfold validOne at this
  rw [Bool.and_eq_true] at this
  exact this.2
theorem rdirText_bare (n z : Bs) : dirText (n, z, false) = n := rfl
theorem rdirText_tok (n z : Bs) (h : tokenS z = true) : dirText (n, z, true) = n ++ (61 :: z) := by simp [dirText, valText, h]
theorem rdirText_quo (n z : Bs) (h : tokenS z = false) : dirText (n, z, true) = n ++ (61 :: quoteB z) := by simp [dirText, valText, h]

set_option maxHeartbeats 4000000 in
theorem r18_format_yes (v : Value) (l : List Dir) (w : World) (hv : Dirs w v l) (hs : ∀ d ∈ l, d.1.length ≤ 10000 ∧ d.2.1.length ≤ 10000) (hval : validD l = true) : Calls Try.prog 30 #[v] w fun e w' => e = .returned (.tuple #[.string (mk (formatD l).1), .int .i64 (formatD l).2]) ∧ Below w.heap.size w w' := by
  have hpv := r18_valid v l w hv hs
  rw [hval] at hpv
  have HPV := Lib.hid hpv
  obtain ⟨a, cap, rfl, hn, hm, hc⟩ := hv.open
  unfold maxLen at hm
  obtain ⟨hl32, hvo⟩ := rvalid_one l hval
  have hfm : Hid (formatD l = if 4096 < (textD l).length then ([], 3) else (textD l, 0)) := Lib.hid (if_pos hval)
  have HC := Lib.hid hc
  have HS := Lib.hid hs
  have HVO := Lib.hid hvo
  clear hc hv hs hpv hval hvo
  go_enter Try.func30, Try.ntmps30
  go_wp2_with fail
  refine HPV.out.mono ?_; rintro e w1 ⟨rfl, hb1⟩
  go_wp2
  go_loopw [4, 5] (fun o iv wr => ∃ k : Nat, iv = .int .i64 k ∧ k ≤ l.length ∧ o = .string (mk (joinTo l k)) ∧ Below w.heap.size w wr) (fun _ iv _ => l.length - (intOf iv).toNat)
  case atStart => exact ⟨0, rfl, by omega, rfl, hb1⟩
  case round =>
    obtain ⟨k, rfl, hk, rfl, hnx⟩ := hrel
    have hjl := joinTo_len l k (by omega) HS.out
    have hjs : (mk (joinTo l k)).size ≤ 1000000 := by rw [size_mk]; exact hjl
    by_cases hlt : k < l.length
    · obtain ⟨b, off, rfl, hb1, hcell⟩ := HC.out (by omega)
      obtain ⟨x0, x1, x2⟩ := hcell k hlt
      have c0 := (hnx.cell (p := ⟨b, off + k * 3, none⟩) hb1).trans x0
      have c1 := (hnx.cell (p := ⟨b, off + k * 3 + 1, none⟩) hb1).trans x1
      have c2 := (hnx.cell (p := ⟨b, off + k * 3 + 2, none⟩) hb1).trans x2
      have hsz := HS.out l[k] (List.getElem_mem hlt)
      have hvk := HVO.out l[k] (List.getElem_mem hlt)
      have hst := Lib.hid (joinTo_step l k hlt)
      clear hcell x0 x1 x2
      obtain ⟨x, hx⟩ : ∃ x, x = l[k] := ⟨_, rfl⟩
      rw [← hx] at c0 c1 c2 hsz hvk hst
      clear hx
      obtain ⟨n, z, t⟩ := x
      simp only at c0 c1 c2 hsz hvk
      obtain ⟨hsn, hsz⟩ := hsz
      have hzm : (mk n).size ≤ 10000 := by rw [size_mk]; exact hsn
      have hzz : (mk z).size ≤ 10000 := by rw [size_mk]; exact hsz
      obtain ⟨J, hJ⟩ : ∃ J, J = joinTo l k := ⟨_, rfl⟩
      rw [← hJ] at hst hjl hjs ⊢
      clear hJ
      have hfin : ∀ (X : ByteArray), X = mk (joinTo l (k + 1)) → (Value.string X = .string (mk (joinTo l (k + 1)))) := fun X h => by rw [h]
      have HF := Lib.hid hfin
      clear hfin
      have h0 : k = 0 ∨ 0 < k := by omega
      rcases h0 with h0 | h0
      all_goals
        have hst1 : Hid (joinTo l (k + 1) = J ++ ((if k = 0 then [] else [59, 32]) ++ dirText (n, z, t))) := hst
        first
          | (rw [if_pos h0] at hst1
             have h0' : ¬ ((0 : Int) < (k : Int)) := by omega
             have HH0 := Lib.hid h0
             clear h0 hst)
          | (rw [if_neg (by omega)] at hst1
             have h0' : (0 : Int) < (k : Int) := by omega
             clear hst)
        cases t
        · rw [rdirText_bare] at hst1
          go_wp2
          go_roundw
          case rel => exact ⟨k + 1, by go_num, by omega, HF.out _ (by rw [hst1.out]; exact un_inj (by simp only [un_append, un_mk]; simp [un])), hnx⟩
          case measure => simp [intOf]; omega
        · cases hT : tokenS z
          · rw [rdirText_quo n z hT] at hst1
            have htk : Hid (∀ W : World, Calls Try.prog 23 #[.string (mk z)] W fun e w' => e = .returned (.bool false) ∧ W = w') := Lib.hid fun W => by
              have := r_isTokenS (mk z) W (by omega)
              rw [un_mk, hT] at this
              exact this
            have hq : Hid (∀ W : World, Calls Try.prog 25 #[.string (mk z)] W fun e w' => e = .returned (.tuple #[.string (mk (quoteB z)), .int .i64 0]) ∧ W = w') := Lib.hid fun W => by
              have := r_quote (mk z) W (by omega)
              rw [un_mk, quoteR_yes _ hvk, quval] at this
              exact this
            have hql : (mk (quoteB z)).size ≤ 30000 := by
              have := length_quoteBody z
              rw [size_mk]; unfold quoteB; simp only [List.length_cons, List.length_append, List.length_nil]; omega
            have hql2 : (quoteB z).length ≤ 30000 := by rw [size_mk] at hql; exact hql
            clear hvk hT
            go_wp2_with (first | (go_at_call 23; refine (htk.out _).mono ?_; rintro e w' ⟨rfl, rfl⟩) | (go_at_call 25; refine (hq.out _).mono ?_; rintro e w' ⟨rfl, rfl⟩))
            all_goals (try (exfalso; omega))
            go_roundw
            case rel => exact ⟨k + 1, by go_num, by omega, HF.out _ (by rw [hst1.out]; exact un_inj (by simp only [un_append, un_mk]; simp [un])), hnx⟩
            case measure => simp [intOf]; omega
          · rw [rdirText_tok n z hT] at hst1
            have htk : Hid (∀ W : World, Calls Try.prog 23 #[.string (mk z)] W fun e w' => e = .returned (.bool true) ∧ W = w') := Lib.hid fun W => by
              have := r_isTokenS (mk z) W (by omega)
              rw [un_mk, hT] at this
              exact this
            clear hvk hT
            go_wp2_with (first | (go_at_call 23; refine (htk.out _).mono ?_; rintro e w' ⟨rfl, rfl⟩))
            all_goals (try (exfalso; omega))
            go_roundw
            case rel => exact ⟨k + 1, by go_num, by omega, HF.out _ (by rw [hst1.out]; exact un_inj (by simp only [un_append, un_mk]; simp [un])), hnx⟩
            case measure => simp [intOf]; omega
    · obtain rfl : k = l.length := by omega
      have hjt : joinTo l l.length = textD l := by unfold joinTo textD; rw [List.take_length]
      rw [hjt] at hjl hjs ⊢
      have hsz4 : (mk (textD l)).size = (textD l).length := size_mk _
      by_cases h4 : 4096 < (textD l).length
      · have hfin := Lib.hid (hfm.out.trans (if_pos h4))
        clear hfm hjt
        go_wp2
        go_ret2
        exact ⟨by rw [hfin.out]; rfl, hnx⟩
      · have hfin := Lib.hid (hfm.out.trans (if_neg h4))
        clear hfm hjt
        go_wp2
        go_ret2
        exact ⟨by rw [hfin.out]; rfl, hnx⟩

/-- Format of the reference: the text, the error. -/
theorem r18_format (v : Value) (l : List Dir) (w : World) (hv : Dirs w v l) (hs : ∀ d ∈ l, d.1.length ≤ 10000 ∧ d.2.1.length ≤ 10000) : Calls Try.prog 30 #[v] w fun e w' => e = .returned (.tuple #[.string (mk (formatD l).1), .int .i64 (formatD l).2]) ∧ Below w.heap.size w w' := by
  cases hval : validD l
  · have hpv := r18_valid v l w hv hs
    rw [hval] at hpv
    have HPV := Lib.hid hpv
    have hfm : Hid (formatD l = ([], 1)) := Lib.hid (by unfold formatD; rw [hval]; rfl)
    clear hpv hval hs hv
    go_enter Try.func30, Try.ntmps30
    go_wp2_with fail
    refine HPV.out.mono ?_; rintro e w1 ⟨rfl, hb1⟩
    go_wp2
    go_ret2
    exact ⟨by rw [hfm.out]; rfl, hb1⟩
  · exact r18_format_yes v l w hv hs hval
end Go.Proofs.Ytjdkmidajhbefaa
