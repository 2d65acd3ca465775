/- The walks of laws of layer 19 (sts): each returns true; memory that existed is unchanged. Conditions: none. -/
import Derived.Test.YtjdkmidajhbefaaStsP
import Derived.Test.YtjdkmidajhbefaaStsR
import Derived.Test.YtjdkmidajhbefaaPlainStsN
namespace Go.Proofs.Ytjdkmidajhbefaa
open Go.RowKit Hs
set_option linter.unusedSimpArgs false
set_option linter.unusedVariables false

set_option maxHeartbeats 2000000 in
theorem law19_awake (w : World) : Calls Try.prog 27 #[] w fun e w' => e = .returned (.bool true) ∧ Below w.heap.size w w' := by
  have E1 := Lib.hid ex19a
  have E2 := Lib.hid ex19b
  have E3 := Lib.hid ex19c
  go_enter Try.func27, Try.ntmps27
  go_wp2_with fail
  refine (sts_parse _ _ (by decide)).mono ?_; rintro e w1 ⟨rfl, hb1⟩
  rw [E1.out]
  unfold polVal
  go_wp2_with fail
  have d1 := Blk2.new w1 36 (.int .i64 31536000) (.bool true)
  have b1 := hb1.alloc hb1.size (.cells #[.int .i64 31536000, .bool true] 36)
  generalize w1.alloc (.cells #[.int .i64 31536000, .bool true] 36) = W1 at *
  generalize w1.heap.size = g at *
  refine (sts_parse _ _ (by decide)).mono ?_; rintro e w2 ⟨rfl, hb2⟩
  rw [E2.out]
  unfold polVal
  go_wp2_with fail
  have d2 := (d1.below hb2).alloc (.cells #[.int .i64 0, .bool false] 36)
  have b2 := (b1.trans (hb2.mono b1.size)).alloc (b1.trans (hb2.mono b1.size)).size (.cells #[.int .i64 0, .bool false] 36)
  generalize w2.alloc (.cells #[.int .i64 0, .bool false] 36) = W2 at *
  refine (sts_parse _ _ (by decide)).mono ?_; rintro e w3 ⟨rfl, hb3⟩
  rw [E3.out]
  unfold polVal
  have d3 := d2.below hb3
  have b3 := b2.trans (hb3.mono b2.size)
  have c0 := d3.c0; have c1 := d3.c1
  have hg := d3.lt
  clear d1 d2 hb1 hb2 hb3
  go_wp2_with fail
  go_ret
  exact ⟨rfl, b3.alloc b3.size _⟩

set_option maxHeartbeats 1000000 in
theorem sts_walk (s : ByteArray) (w : World) (hs : s.size ≤ maxLen) : Calls Try.prog 7 #[.string s] w fun e w' => e = .returned (.bool true) ∧ Below w.heap.size w w' := by
  unfold maxLen at hs
  by_cases hl : s.size ≤ 4500
  · clear hs
    have h1 : Hid (∀ W : World, Calls Try.prog 28 #[.string s] W fun e w' => e = .returned (.tuple #[.agg #[.int .i64 (stsP (un s)).1.1, .bool (stsP (un s)).1.2], .int .i64 (stsP (un s)).2]) ∧ Below W.heap.size W w') := Lib.hid fun W => sts_parse s W (by omega)
    have h2 : Hid (∀ W : World, Calls Try.prog 29 #[.string s] W fun e w' => e = .returned (.tuple #[.agg #[.int .i64 (stsP (un s)).1.1, .bool (stsP (un s)).1.2], .int .i64 (stsP (un s)).2]) ∧ Below W.heap.size W w') := Lib.hid fun W => r19_parse s W (by omega)
    generalize stsP (un s) = X at *
    obtain ⟨⟨n, b⟩, z⟩ := X
    go_enter Try.func7, Try.ntmps7
    go_wp2_with fail
    refine (h1.out _).mono ?_; rintro e w1 ⟨rfl, hb1⟩
    go_wp2_with fail
    have d1 := Blk2.new w1 36 (.int .i64 n) (.bool b)
    have b1 := hb1.alloc hb1.size (.cells #[.int .i64 n, .bool b] 36)
    generalize w1.alloc (.cells #[.int .i64 n, .bool b] 36) = W1 at *
    generalize w1.heap.size = g at *
    refine (h2.out _).mono ?_; rintro e w2 ⟨rfl, hb2⟩
    have d2 := d1.below hb2
    have b2 := b1.trans (hb2.mono b1.size)
    have c0 := d2.c0; have c1 := d2.c1
    have hg := d2.lt
    clear d1 hb1 hb2
    go_wp2_with fail
    refine (law19_awake _).mono ?_; rintro e w3 ⟨rfl, hb3⟩
    go_wp2_with fail
    go_ret
    exact ⟨rfl, (b2.alloc b2.size _).trans (hb3.mono (b2.alloc b2.size _).size)⟩
  · go_enter Try.func7, Try.ntmps7
    go_wp2_with fail
    refine (law19_awake _).mono ?_; rintro e w1 ⟨rfl, hb1⟩
    go_wp2_with fail
    go_ret
    exact ⟨rfl, hb1⟩
end Go.Proofs.Ytjdkmidajhbefaa
