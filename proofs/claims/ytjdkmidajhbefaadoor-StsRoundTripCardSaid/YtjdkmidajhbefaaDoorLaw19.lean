/- The walks of laws of layer 19 (sts): each returns true; memory that existed is unchanged. Conditions: none. -/
import Derived.Test.YtjdkmidajhbefaaDoorStsP
import Derived.Test.YtjdkmidajhbefaaDoorPlainStsN
namespace Go.Proofs.YtjdkmidajhbefaaDoor
open Go.RowKit Hs
set_option linter.unusedSimpArgs false
set_option linter.unusedVariables false

set_option maxHeartbeats 2000000 in
theorem law19_awake (w : World) : Calls Tryd.prog 6 #[] w fun e w' => e = .returned (.bool true) ∧ Below w.heap.size w w' := by
  have E1 := Lib.hid ex19a
  have E2 := Lib.hid ex19b
  have E3 := Lib.hid ex19c
  go_enter Tryd.func6, Tryd.ntmps6
  go_wp2_with fail
  refine (sts_parse _ _ (by decide)).mono ?_; rintro e w1 ⟨rfl, hb1⟩
  rw [E1.out]
  unfold polVal
  go_wp2_with fail
  have d1 := Blk2.new w1 23 (.int .i64 31536000) (.bool true)
  have b1 := hb1.alloc hb1.size (.cells #[.int .i64 31536000, .bool true] 23)
  generalize w1.alloc (.cells #[.int .i64 31536000, .bool true] 23) = W1 at *
  generalize w1.heap.size = g at *
  refine (sts_parse _ _ (by decide)).mono ?_; rintro e w2 ⟨rfl, hb2⟩
  rw [E2.out]
  unfold polVal
  go_wp2_with fail
  have d2 := (d1.below hb2).alloc (.cells #[.int .i64 0, .bool false] 23)
  have b2 := (b1.trans (hb2.mono b1.size)).alloc (b1.trans (hb2.mono b1.size)).size (.cells #[.int .i64 0, .bool false] 23)
  generalize w2.alloc (.cells #[.int .i64 0, .bool false] 23) = W2 at *
  refine (sts_parse _ _ (by decide)).mono ?_; rintro e w3 ⟨rfl, hb3⟩
  rw [E3.out]
  unfold polVal
  have d3 := d2.below hb3
  have b3 := b2.trans (hb3.mono b2.size)
  have c0 := d3.c0; have c1 := d3.c1
  have hg := d3.lt
  clear d1 d2 hb1 hb2 hb3
  go_wp2_with fail
  go_ret
  exact ⟨rfl, b3.alloc b3.size _⟩

end Go.Proofs.YtjdkmidajhbefaaDoor
