/- The walk of StsRoundTrip (law of layer 19): it returns true; memory that existed is unchanged. Conditions: the library's table of powers of ten holds what it should. -/
import Derived.Test.YtjdkmidajhbefaaDoorLaw19
import Derived.Test.YtjdkmidajhbefaaDoorStsF
import Derived.ProofKit
import Derived.OpenShut
import Derived.Lib.SmallJoins
namespace Go.Proofs.YtjdkmidajhbefaaDoor
open Go.RowKit Hs Go.ChangeShapes Go.WideShapes
set_option linter.unusedSimpArgs false
set_option linter.unusedVariables false

theorem tab_of_sts {W : World} (h : laidMetH Tryd.prog Rows.stsRoundTripRow.laid W) : Tab W := by
  rw [MakeChecks.laidMetH_plain _ _ _ (by kernel_rfl)] at h
  have h0 : laidMet Tryd.prog [("internal/strconv.uint64pow10", Lib.tabData .u64 Lib.pow10Tab)] W := laidMet.tail (laidMet.tail h)
  have h1 := Lib.tabIs_of_head gTab tTab3 Tryd.underlying70 Tryd.underlying56 cellsU64 cellsTab3 h0
  refine ⟨h1, ?_⟩
  exact World.block_lt_of_cell? W _ (h1.cell gTab 0 (by decide))
/-- An argument that is a policy. -/
theorem opened_pol {H : Type} {enc : TypeId × Value → H} {W : World} {base : Nat} {v : Value} {d : DataW H} {p : List MemPlace} (hval : Value.okWide Tryd.prog W .any base 23 v) (h : DataW.Trod enc Tryd.prog W 0 (fun _ => true) true 23 v d p) :
    ∃ x : Int × Bool, v = .agg #[.int .i64 x.1, .bool x.2] := by
  obtain ⟨v0, v1, y0, y1, n, rfl, _, _, hA, hB⟩ := Go.Joins.open_agg2 Tryd.underlying23 (by kernel_rfl) (by kernel_rfl) hval h
  obtain ⟨s0, hs0, _, hz0⟩ := DataW.trod_int Tryd.underlying3 hA
  obtain ⟨b2, hs2, _⟩ := DataW.trod_bool Tryd.underlying4 hB
  cases hs0; cases hs2
  exact ⟨(_, b2), rfl⟩

set_option maxHeartbeats 1600000 in
theorem stsRoundTrip_walk (x : Int × Bool) (w : World) (hN : Tab w) : Calls Tryd.prog 3 #[.agg #[.int .i64 x.1, .bool x.2]] w fun e w' => e = .returned (.bool true) ∧ Below w.heap.size w w' := by
  obtain ⟨n, b⟩ := x
  have F1 : Hid (∀ W : World, Tab W → Calls Tryd.prog 4 #[.agg #[.int .i64 n, .bool b]] W fun e w' => e = .returned (.tuple #[.string (mk (fmtP n b).1), .int .i64 (fmtP n b).2]) ∧ Below W.heap.size W w') := Lib.hid fun W h => sts_format n b W h
  have F2 : Hid (∀ W : World, Calls Tryd.prog 5 #[.agg #[.int .i64 n, .bool b]] W fun e w' => e = .returned (.tuple #[.string (mk (fmtP n b).1), .int .i64 (fmtP n b).2]) ∧ Below W.heap.size W w') := Lib.hid fun W => r19_format n b W
  have d0 := Blk2.new w 23 (.int .i64 n) (.bool b)
  have b0 := (Below.refl w.heap.size w).alloc (Nat.le_refl _) (.cells #[.int .i64 n, .bool b] 23)
  have hT := Lib.hid (hN.below b0)
  have AW := Lib.hid (fun W => law19_awake W)
  clear hN
  by_cases hr : n < 0 ∨ 2147483647 < n
  · rw [fmtP_no n b hr] at F1 F2
    clear hr
    go_enter Tryd.func3, Tryd.ntmps3
    go_wp2_with fail
    refine (F1.out _ hT.out).mono ?_; rintro e w1 ⟨rfl, hb1⟩
    have d1 := d0.below hb1
    have b1 := b0.trans (hb1.mono b0.size)
    have c0 := d1.c0; have c1 := d1.c1
    have hg := d1.lt
    go_wp2_with fail
    refine (F2.out _).mono ?_; rintro e w2 ⟨rfl, hb2⟩
    have b2 := b1.trans (hb2.mono b1.size)
    go_wp2_with fail
    refine (AW.out _).mono ?_; rintro e w3 ⟨rfl, hb3⟩
    go_wp2_with fail
    go_ret
    exact ⟨rfl, b2.trans (hb3.mono b2.size)⟩
  · obtain ⟨k, rfl⟩ := Int.eq_ofNat_of_zero_le (show 0 ≤ n by omega)
    have hk : k ≤ 2147483647 := by omega
    have hl := decDigits_len k (by omega)
    have hS := fmtText_sts k b hk (by omega)
    have hlen : (fmtText k b).length ≤ 100 := by unfold fmtText; cases b <;> simp [ageN, incN] <;> omega
    rw [fmtP_yes k b hk] at F1 F2
    generalize fmtText k b = S at *
    have P1 : Hid (∀ W : World, Calls Tryd.prog 7 #[.string (mk S)] W fun e w' => e = .returned (.tuple #[.agg #[.int .i64 k, .bool b], .int .i64 0]) ∧ Below W.heap.size W w') := Lib.hid fun W => by
      have := sts_parse (mk S) W (by rw [size_mk]; omega)
      rw [un_mk, hS] at this
      exact this
    clear hr hS hl
    go_enter Tryd.func3, Tryd.ntmps3
    go_wp2_with fail
    refine (F1.out _ hT.out).mono ?_; rintro e w1 ⟨rfl, hb1⟩
    have d1 := d0.below hb1
    have b1 := b0.trans (hb1.mono b0.size)
    have c0 := d1.c0; have c1 := d1.c1
    have hg := d1.lt
    go_wp2_with fail
    refine (F2.out _).mono ?_; rintro e w2 ⟨rfl, hb2⟩
    have d2 := d1.below hb2
    have b2 := b1.trans (hb2.mono b1.size)
    go_wp2_with fail
    refine (P1.out _).mono ?_; rintro e w3 ⟨rfl, hb3⟩
    have d3 := d2.below hb3
    have b3 := b2.trans (hb3.mono b2.size)
    have q3 := Blk2.new w3 23 (.int .i64 k) (.bool b)
    have d4 := d3.alloc (.cells #[.int .i64 (k : Int), .bool b] 23)
    have b4 := b3.alloc b3.size (.cells #[.int .i64 (k : Int), .bool b] 23)
    have x0 := d4.c0; have x1 := d4.c1; have xg := d4.lt
    clear c0 c1 hg d0 d1 d2 d3 hb1 hb2 hb3 b0 b1 b2 b3
    go_wp2_with fail
    refine (AW.out _).mono ?_; rintro e w5 ⟨rfl, hb5⟩
    go_wp2_with fail
    go_ret
    exact ⟨rfl, b4.trans (hb5.mono b4.size)⟩
end Go.Proofs.YtjdkmidajhbefaaDoor
