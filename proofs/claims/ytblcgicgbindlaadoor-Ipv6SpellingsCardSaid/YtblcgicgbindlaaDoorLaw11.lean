/- The walk of awake of layer 11. Conditions: the library's tables stand. -/
import Derived.Test.YtblcgicgbindlaaDoorIpv6K
import Derived.Test.YtblcgicgbindlaaDoorArr8
namespace Go.Proofs.YtblcgicgbindlaaDoor
open Go.RowKit Hs
set_option linter.unusedSimpArgs false
set_option linter.unusedVariables false

theorem ex11a : parse6 [50, 48, 48, 49, 58, 68, 66, 56, 58, 58, 49, 58, 48, 58, 48, 58, 49] = some [8193, 3512, 0, 0, 1, 0, 0, 1] := by kernel_rfl
theorem ex11b : parse6 [49, 58, 58, 50, 58, 58, 51] = none := by kernel_rfl
theorem ex11c : fmt6 [8193, 3512, 0, 0, 1, 0, 0, 1] = [50, 48, 48, 49, 58, 100, 98, 56, 58, 58, 49, 58, 48, 58, 48, 58, 49] := by kernel_rfl
theorem ex11e : (gcells [8193, 3512, 0, 0, 1, 0, 0, 1]).toArray = #[.int .u16 8193, .int .u16 3512, .int .u16 0, .int .u16 0, .int .u16 1, .int .u16 0, .int .u16 0, .int .u16 1] := rfl
theorem ex11f : (gcells [0, 0, 0, 0, 0, 0, 0, 0]).toArray = #[.int .u16 0, .int .u16 0, .int .u16 0, .int .u16 0, .int .u16 0, .int .u16 0, .int .u16 0, .int .u16 0] := rfl
theorem ex11g : res6 (some [8193, 3512, 0, 0, 1, 0, 0, 1]) = ([8193, 3512, 0, 0, 1, 0, 0, 1], true) := rfl
theorem ex11h : res6 none = ([0, 0, 0, 0, 0, 0, 0, 0], false) := rfl
theorem ex11d : fmt6 [0, 0, 0, 0, 0, 0, 0, 0] = [58, 58] := by kernel_rfl
set_option maxRecDepth 20000 in
set_option maxHeartbeats 2000000 in
theorem law11_awake (w : World) (hB : Base6 w) : Calls Tryd.prog 23 #[] w fun e w' => e = .returned (.bool true) ∧ Below w.heap.size w w' := by
  have HB := Lib.hid hB
  have c1 := i6_parse ⟨#[50, 48, 48, 49, 58, 68, 66, 56, 58, 58, 49, 58, 48, 58, 48, 58, 49]⟩ w hB.1 (by decide)
  have c2 := fun W h => i6_parse ⟨#[49, 58, 58, 50, 58, 58, 51]⟩ W h (by decide)
  have c3 := fun W h => i6_format [8193, 3512, 0, 0, 1, 0, 0, 1] W h rfl (by decide)
  have c4 := fun W h => i6_format [0, 0, 0, 0, 0, 0, 0, 0] W h rfl (by decide)
  have e1 : un ⟨#[50, 48, 48, 49, 58, 68, 66, 56, 58, 58, 49, 58, 48, 58, 48, 58, 49]⟩ = [50, 48, 48, 49, 58, 68, 66, 56, 58, 58, 49, 58, 48, 58, 48, 58, 49] := rfl
  have e2 : un ⟨#[49, 58, 58, 50, 58, 58, 51]⟩ = [49, 58, 58, 50, 58, 58, 51] := rfl
  simp only [e1, ex11a, ex11g, ex11e] at c1
  simp only [e2, ex11b, ex11h, ex11f] at c2
  simp only [ex11c, ex11e] at c3
  simp only [ex11d, ex11f] at c4
  have C1 := Lib.hid c1; have C2 := Lib.hid c2; have C3 := Lib.hid c3; have C4 := Lib.hid c4
  clear c1 c2 c3 c4 e1 e2 hB
  go_enter Tryd.func23, Tryd.ntmps23
  go_wp2_with fail
  refine C1.out.mono ?_; rintro e w1 ⟨rfl, hb1⟩
  have hbA : Below w.heap.size w (w1.alloc (.cells #[.int .u16 8193, .int .u16 3512, .int .u16 0, .int .u16 0, .int .u16 1, .int .u16 0, .int .u16 0, .int .u16 1] 39)) := hb1.alloc hb1.size _
  have blk1 : BlkN (w1.alloc (.cells #[.int .u16 8193, .int .u16 3512, .int .u16 0, .int .u16 0, .int .u16 1, .int .u16 0, .int .u16 0, .int .u16 1] 39)) w1.heap.size 39 (gcells [8193, 3512, 0, 0, 1, 0, 0, 1]).toArray := BlkN.new _ _ _
  have HA := Lib.hid (And.intro hbA blk1)
  clear hbA blk1 hb1
  go_wp2_with fail
  refine (C2.out _ (HB.out.below HA.out.1).1).mono ?_; rintro e w2 ⟨rfl, hb2⟩
  have blk2 : BlkN (w2.alloc (.cells #[.int .u16 0, .int .u16 0, .int .u16 0, .int .u16 0, .int .u16 0, .int .u16 0, .int .u16 0, .int .u16 0] 39)) w1.heap.size 39 (gcells [8193, 3512, 0, 0, 1, 0, 0, 1]).toArray := (HA.out.2.below HA.out.2.lt hb2).alloc _
  have hbB := HA.out.1.trans (hb2.mono HA.out.1.size)
  have hbC : Below w.heap.size w (w2.alloc (.cells #[.int .u16 0, .int .u16 0, .int .u16 0, .int .u16 0, .int .u16 0, .int .u16 0, .int .u16 0, .int .u16 0] 39)) := hbB.alloc hbB.size _
  have B2 := HB.out.below hbC
  have c0 : (w2.alloc (.cells #[.int .u16 0, .int .u16 0, .int .u16 0, .int .u16 0, .int .u16 0, .int .u16 0, .int .u16 0, .int .u16 0] 39)).cell? ⟨w1.heap.size, 0, none⟩ = some (.int .u16 8193) := cell_of_row _ _ 0 _ _ _ blk2
  have c1 : (w2.alloc (.cells #[.int .u16 0, .int .u16 0, .int .u16 0, .int .u16 0, .int .u16 0, .int .u16 0, .int .u16 0, .int .u16 0] 39)).cell? ⟨w1.heap.size, 1, none⟩ = some (.int .u16 3512) := cell_of_row _ _ 1 _ _ _ blk2
  have c2 : (w2.alloc (.cells #[.int .u16 0, .int .u16 0, .int .u16 0, .int .u16 0, .int .u16 0, .int .u16 0, .int .u16 0, .int .u16 0] 39)).cell? ⟨w1.heap.size, 2, none⟩ = some (.int .u16 0) := cell_of_row _ _ 2 _ _ _ blk2
  have c3 : (w2.alloc (.cells #[.int .u16 0, .int .u16 0, .int .u16 0, .int .u16 0, .int .u16 0, .int .u16 0, .int .u16 0, .int .u16 0] 39)).cell? ⟨w1.heap.size, 3, none⟩ = some (.int .u16 0) := cell_of_row _ _ 3 _ _ _ blk2
  have c4 : (w2.alloc (.cells #[.int .u16 0, .int .u16 0, .int .u16 0, .int .u16 0, .int .u16 0, .int .u16 0, .int .u16 0, .int .u16 0] 39)).cell? ⟨w1.heap.size, 4, none⟩ = some (.int .u16 1) := cell_of_row _ _ 4 _ _ _ blk2
  have c5 : (w2.alloc (.cells #[.int .u16 0, .int .u16 0, .int .u16 0, .int .u16 0, .int .u16 0, .int .u16 0, .int .u16 0, .int .u16 0] 39)).cell? ⟨w1.heap.size, 5, none⟩ = some (.int .u16 0) := cell_of_row _ _ 5 _ _ _ blk2
  have c6 : (w2.alloc (.cells #[.int .u16 0, .int .u16 0, .int .u16 0, .int .u16 0, .int .u16 0, .int .u16 0, .int .u16 0, .int .u16 0] 39)).cell? ⟨w1.heap.size, 6, none⟩ = some (.int .u16 0) := cell_of_row _ _ 6 _ _ _ blk2
  have c7 : (w2.alloc (.cells #[.int .u16 0, .int .u16 0, .int .u16 0, .int .u16 0, .int .u16 0, .int .u16 0, .int .u16 0, .int .u16 0] 39)).cell? ⟨w1.heap.size, 7, none⟩ = some (.int .u16 1) := cell_of_row _ _ 7 _ _ _ blk2
  clear HA hb2 blk2 hbB
  go_wp2_with fail
  refine (C3.out _ B2).mono ?_; rintro e w3 ⟨rfl, hb4⟩
  have B3 := B2.below hb4
  have hb5 := hbC.trans (hb4.mono hbC.size)
  have hq : (mk [50, 48, 48, 49, 58, 100, 98, 56, 58, 58, 49, 58, 48, 58, 48, 58, 49]).toList = [50, 48, 48, 49, 58, 100, 98, 56, 58, 58, 49, 58, 48, 58, 48, 58, 49] := toList_mk' _
  have hq2 : (mk [58, 58]).toList = [58, 58] := toList_mk' _
  clear hb4 B2 hbC c0 c1 c2 c3 c4 c5 c6 c7
  go_wp2_with fail
  refine (C4.out _ B3).mono ?_; rintro e w4 ⟨rfl, hb6⟩
  go_wp2_with fail
  go_ret
  exact ⟨rfl, hb5.trans (hb6.mono hb5.size)⟩
end Go.Proofs.YtblcgicgbindlaaDoor
