/- The walks of the layer destination (program and reference): they return the plain functions' answers. Conditions: the variable of names holds the names; strings are of bounded length. -/
import Derived.Test.YtpaodlhckpkmoaaDoorAsciiText
import Derived.Test.YtpaodlhckpkmoaaDoorPlainDest
namespace Go.Proofs.YtpaodlhckpkmoaaDoor
open Go.RowKit Hs
set_option linter.unusedSimpArgs false
set_option linter.unusedVariables false

/-- The variable of names holds the names. -/
def Names (w : World) : Prop := 0 < w.heap.size ∧ ∀ k, k < 23 → w.cell? ⟨0, k, none⟩ = some (.string (mk (nameOf k)))
theorem Names.below {w w' : World} (h : Names w) (hb : Below w.heap.size w w') : Names w' :=
  ⟨by have := hb.size; have := h.1; omega, fun k hk => ((bcell hb).1 _ _ h.1).trans (h.2 k hk)⟩

theorem dest_valid (d : Int) (w : World) : Calls Tryd.prog 10 #[.int .i64 d] w fun e w' => e = .returned (.bool (validB d)) ∧ w = w' := by
  go_enter Tryd.func10, Tryd.ntmps10
  go_wp2
  all_goals
    go_ret
    refine ⟨ret_bool ?_, rfl⟩
    first | (refine btrue ?_; omega) | (refine bfalse ?_; omega) | (refine bdec ?_; omega) | (refine beqdec ?_; omega) | (refine bnedec ?_; omega)
theorem ref27_valid (d : Int) (w : World) : Calls Tryd.prog 11 #[.int .i64 d] w fun e w' => e = .returned (.bool (validB d)) ∧ w = w' := by
  go_enter Tryd.func11, Tryd.ntmps11
  go_wp2
  all_goals
    go_ret
    refine ⟨ret_bool ?_, rfl⟩
    first | (refine btrue ?_; omega) | (refine bfalse ?_; omega) | (refine bdec ?_; omega) | (refine beqdec ?_; omega) | (refine bnedec ?_; omega)

set_option maxHeartbeats 800000 in
theorem dest_category (d : Int) (b : Bool) (w : World) : Calls Tryd.prog 12 #[.int .i64 d, .bool b] w fun e w' => e = .returned (.int .i64 (catOf d b)) ∧ w = w' := by
  cases hv : validB d
  · have hr := Lib.hid (of_decide_eq_false hv)
    cases b
    all_goals
      go_enter Tryd.func12, Tryd.ntmps12
      go_wp2_with (go_at_call 10; refine (dest_valid _ _).mono ?_; rintro e w' ⟨rfl, rfl⟩)
      all_goals
        go_ret
        refine ⟨ret_int ?_, rfl⟩
        have hr' := hr.out
        (try simp only [beq_iff_eq, beq_eq_false_iff_ne, ne_eq] at *)
        first | (refine cat_false _ _ ?_; omega) | (refine cat_true _ _ ?_; omega)
  · have hr := Lib.hid (of_decide_eq_true hv)
    cases b
    all_goals
      go_enter Tryd.func12, Tryd.ntmps12
      go_wp2_with (go_at_call 10; refine (dest_valid _ _).mono ?_; rintro e w' ⟨rfl, rfl⟩)
      all_goals
        go_ret
        refine ⟨ret_int ?_, rfl⟩
        have hr' := hr.out
        (try simp only [beq_iff_eq, beq_eq_false_iff_ne, ne_eq] at *)
        first | (refine cat_false _ _ ?_; omega) | (refine cat_true _ _ ?_; omega)
set_option maxHeartbeats 800000 in
theorem ref27_category (d : Int) (b : Bool) (w : World) : Calls Tryd.prog 13 #[.int .i64 d, .bool b] w fun e w' => e = .returned (.int .i64 (catOf d b)) ∧ w = w' := by
  cases hv : validB d
  · have hr := Lib.hid (of_decide_eq_false hv)
    cases b
    all_goals
      go_enter Tryd.func13, Tryd.ntmps13
      go_wp2_with (go_at_call 11; refine (ref27_valid _ _).mono ?_; rintro e w' ⟨rfl, rfl⟩)
      all_goals
        go_ret
        refine ⟨ret_int ?_, rfl⟩
        have hr' := hr.out
        (try simp only [beq_iff_eq, beq_eq_false_iff_ne, ne_eq] at *)
        first | (refine cat_false _ _ ?_; omega) | (refine cat_true _ _ ?_; omega)
  · have hr := Lib.hid (of_decide_eq_true hv)
    cases b
    all_goals
      go_enter Tryd.func13, Tryd.ntmps13
      go_wp2_with (go_at_call 11; refine (ref27_valid _ _).mono ?_; rintro e w' ⟨rfl, rfl⟩)
      all_goals
        go_ret
        refine ⟨ret_int ?_, rfl⟩
        have hr' := hr.out
        (try simp only [beq_iff_eq, beq_eq_false_iff_ne, ne_eq] at *)
        first | (refine cat_false _ _ ?_; omega) | (refine cat_true _ _ ?_; omega)

theorem dest_name_yes (d : Nat) (w : World) (h1 : 1 ≤ d) (h2 : d ≤ 22) (hN : Names w) : Calls Tryd.prog 8 #[.int .i64 d] w fun e w' => e = .returned (.tuple #[.string (mk (nameOf d)), .bool true]) ∧ w = w' := by
  have hv : validB (d : Int) = true := decide_eq_true (by omega)
  have hc := hN.2 d (by omega)
  go_enter Tryd.func8, Tryd.ntmps8
  go_wp2_with (go_at_call 10; refine (dest_valid _ _).mono ?_; rintro e w' ⟨rfl, rfl⟩)
  go_ret2
  exact ⟨rfl, rfl⟩
theorem dest_name_no (d : Int) (w : World) (h : validB d = false) : Calls Tryd.prog 8 #[.int .i64 d] w fun e w' => e = .returned (.tuple #[.string ⟨#[]⟩, .bool false]) ∧ w = w' := by
  go_enter Tryd.func8, Tryd.ntmps8
  go_wp2_with (go_at_call 10; refine (dest_valid _ _).mono ?_; rintro e w' ⟨rfl, rfl⟩)
  go_ret2
  exact ⟨rfl, rfl⟩

set_option maxHeartbeats 800000 in
theorem dest_parse (s : ByteArray) (w : World) (hs : s.size ≤ 100000000) (hN : Names w) : Calls Tryd.prog 6 #[.string s] w fun e w' => e = .returned (.tuple #[.int .i64 (destOf (un s)), .bool (destOf (un s) != 0)]) ∧ Below w.heap.size w w' := by
  have HN := Lib.hid hN
  clear hN
  go_enter Tryd.func6, Tryd.ntmps6
  go_wp2
  go_loopw [4] (fun i wr => ∃ d : Nat, i = .int .i64 d ∧ 1 ≤ d ∧ d ≤ 23 ∧ Below w.heap.size w wr ∧ Hid (destOf (un s) = destGo (un s) (23 - d) d)) (fun i _ => 23 - (intOf i).toNat)
  case atStart => exact ⟨1, rfl, by omega, by omega, Below.refl _ _, rfl⟩
  case round =>
    obtain ⟨d, rfl, hd1, hd2, hnx, hg⟩ := hrel
    by_cases hlt : d ≤ 22
    · have hN := (HN.out.below hnx).2 d (by omega)
      have hsz := length_nameOf d
      have hss : (mk (nameOf d)).size ≤ 100000000 := by rw [size_mk]; omega
      have hf : 23 - d = (22 - d) + 1 := by omega
      cases hc : (lower (nameOf d) == lower (un s))
      · have hmiss : Hid (destOf (un s) = destGo (un s) (23 - (d + 1)) (d + 1)) := by
          have e := hg.out
          rw [hf, destGo_miss _ _ _ hc] at e
          rw [show 23 - (d + 1) = 22 - d by omega]
          exact e
        have HC : Hid ((lower (un (mk (nameOf d))) == lower (un s)) = false) := by rw [un_mk]; exact hc
        clear hc hf hg
        go_wp2_with fail
        refine (ascii_equalFold _ s _ hss hs).mono ?_; rintro e w1 ⟨rfl, hb1⟩
        rw [HC.out]
        go_wp2
        go_roundw
        case rel => exact ⟨d + 1, by go_num, by omega, by omega, hnx.trans (hb1.mono hnx.size), hmiss⟩
        case measure => simp [intOf]; omega
      · have hhit : Hid (destOf (un s) = d) := by
          have e := hg.out
          rw [hf, destGo_hit _ _ _ hc] at e
          exact e
        have HC : Hid ((lower (un (mk (nameOf d))) == lower (un s)) = true) := by rw [un_mk]; exact hc
        clear hc hf hg
        go_wp2_with fail
        refine (ascii_equalFold _ s _ hss hs).mono ?_; rintro e w1 ⟨rfl, hb1⟩
        rw [HC.out]
        go_wp2
        go_ret2
        refine ⟨?_, hnx.trans (hb1.mono hnx.size)⟩
        rw [hhit.out, show (d != 0) = true from by simp; omega]; rfl
    · have hz : Hid (destOf (un s) = 0) := by
        have e := hg.out
        rw [show 23 - d = 0 by omega] at e
        exact e
      clear hg
      go_wp2
      go_ret2
      refine ⟨?_, hnx⟩
      rw [hz.out]; rfl

theorem namesL_tail : (namesL.drop 1).map (fun l => (mk l : ByteArray)) = (namesL.drop 1).map mk := rfl
set_option maxHeartbeats 800000 in
theorem ref27_names (w : World) : Calls Tryd.prog 16 #[] w fun e w' => ∃ v, e = .returned v ∧ Strs w' v (namesL.drop 1) ∧ Below w.heap.size w w' := by
  go_enter Tryd.func16, Tryd.ntmps16
  go_wp2
  go_ret
  refine ⟨_, rfl, ?_, (Below.refl _ _).alloc (Nat.le_refl _) _⟩
  have h := strs_lit w ((namesL.drop 1).map mk) 9 (by decide)
  have e : ((namesL.drop 1).map mk).map un = namesL.drop 1 := by rfl
  rw [e] at h
  exact h

theorem tail_get (k : Nat) (h : k < (namesL.drop 1).length) : (namesL.drop 1)[k] = nameOf (k + 1) := by
  rw [List.getElem_drop, ← namesL_get (k + 1) (by rw [List.length_drop] at h; omega)]
  congr 1; omega

theorem ref27_name_yes (d : Nat) (w : World) (h1 : 1 ≤ d) (h2 : d ≤ 22) : Calls Tryd.prog 9 #[.int .i64 d] w fun e w' => e = .returned (.tuple #[.string (mk (nameOf d)), .bool true]) ∧ Below w.heap.size w w' := by
  have hv : validB (d : Int) = true := decide_eq_true (by omega)
  go_enter Tryd.func9, Tryd.ntmps9
  go_wp2_with fail
  refine (ref27_valid _ _).mono ?_; rintro e w' ⟨rfl, rfl⟩
  rw [hv]
  go_wp2_with fail
  refine (ref27_names _).mono ?_; rintro e w1 ⟨v, rfl, hst, hb⟩
  obtain ⟨a, cap, rfl, _, _, hc⟩ := hst.open
  obtain ⟨b, off, rfl, _, hcell⟩ := hc (by decide)
  have h := hcell (d - 1) (by rw [List.length_drop, length_namesL]; omega)
  rw [tail_get, show d - 1 + 1 = d by omega] at h
  have hl : (namesL.drop 1).length = 22 := rfl
  rw [hl]
  clear hcell hc hst hv
  have e1 : IntKind.i64.wrap ((d : Int) - 1) = (d : Int) - 1 := IntWalk.i64_in _ (by omega)
  go_wp2
  go_ret2
  exact ⟨rfl, hb⟩
theorem ref27_name_no (d : Int) (w : World) (h : validB d = false) : Calls Tryd.prog 9 #[.int .i64 d] w fun e w' => e = .returned (.tuple #[.string ⟨#[]⟩, .bool false]) ∧ w = w' := by
  go_enter Tryd.func9, Tryd.ntmps9
  go_wp2_with (go_at_call 11; refine (ref27_valid _ _).mono ?_; rintro e w' ⟨rfl, rfl⟩)
  go_ret2
  exact ⟨rfl, rfl⟩

set_option maxHeartbeats 800000 in
theorem ref27_parse (s : ByteArray) (w : World) (hs : s.size ≤ 100000000) : Calls Tryd.prog 7 #[.string s] w fun e w' => e = .returned (.tuple #[.int .i64 (destOf (un s)), .bool (destOf (un s) != 0)]) ∧ Below w.heap.size w w' := by
  go_enter Tryd.func7, Tryd.ntmps7
  go_wp2_with fail
  refine (ref27_names _).mono ?_; rintro e w1 ⟨v, rfl, hst, hb⟩
  obtain ⟨a, cap, rfl, _, _, hc⟩ := hst.open
  obtain ⟨b, off, rfl, hlt, hcell⟩ := hc (by decide)
  have hl : (namesL.drop 1).length = 22 := rfl
  have HC := Lib.hid (fun k (hk : k < 22) => (hcell k (by rw [hl]; exact hk)).trans (by rw [tail_get]))
  rw [hl]
  clear hcell hc hst hl
  go_wp2
  go_loopw [5] (fun i wr => ∃ d : Nat, i = .int .i64 d ∧ d ≤ 22 ∧ Below w1.heap.size w1 wr ∧ Hid (destOf (un s) = destGo (un s) (22 - d) (d + 1))) (fun i _ => 22 - (intOf i).toNat)
  case atStart => exact ⟨0, rfl, by omega, Below.refl _ _, rfl⟩
  case round =>
    obtain ⟨d, rfl, hd2, hnx, hg⟩ := hrel
    have c1 : Below w.heap.size w wr := hb.trans (hnx.mono hb.size)
    by_cases hlt2 : d < 22
    · have hN := (hnx.cell (p := ⟨b, off + d, none⟩) hlt).trans (HC.out d (by omega))
      have hsz := length_nameOf (d + 1)
      have hss : (mk (nameOf (d + 1))).size ≤ 100000000 := by rw [size_mk]; omega
      have hf : 22 - d = (21 - d) + 1 := by omega
      cases hc : (lower (nameOf (d + 1)) == lower (un s))
      · have hmiss : Hid (destOf (un s) = destGo (un s) (22 - (d + 1)) (d + 1 + 1)) := by
          have e := hg.out
          rw [hf, destGo_miss _ _ _ hc] at e
          rw [show 22 - (d + 1) = 21 - d by omega]
          exact e
        have HC' : Hid ((lower (un (mk (nameOf (d + 1)))) == lower (un s)) = false) := by rw [un_mk]; exact hc
        clear hc hf hg
        go_wp2_with fail
        refine (ref01_equalFold _ s _ hss hs).mono ?_; rintro e w2 ⟨rfl, hb1⟩
        rw [HC'.out]
        go_wp2
        go_roundw
        case rel => exact ⟨d + 1, by go_num, by omega, hnx.trans (hb1.mono hnx.size), hmiss⟩
        case measure => simp [intOf]; omega
      · have hhit : Hid (destOf (un s) = d + 1) := by
          have e := hg.out
          rw [hf, destGo_hit _ _ _ hc] at e
          exact e
        have HC' : Hid ((lower (un (mk (nameOf (d + 1)))) == lower (un s)) = true) := by rw [un_mk]; exact hc
        clear hc hf hg
        go_wp2_with fail
        refine (ref01_equalFold _ s _ hss hs).mono ?_; rintro e w2 ⟨rfl, hb1⟩
        rw [HC'.out]
        go_wp2
        go_ret2
        refine ⟨?_, c1.trans (hb1.mono c1.size)⟩
        rw [hhit.out]; rfl
    · have hz : Hid (destOf (un s) = 0) := by
        have e := hg.out
        rw [show 22 - d = 0 by omega] at e
        exact e
      clear hg
      go_wp2
      go_ret2
      refine ⟨?_, c1⟩
      rw [hz.out]; rfl
end Go.Proofs.YtpaodlhckpkmoaaDoor
