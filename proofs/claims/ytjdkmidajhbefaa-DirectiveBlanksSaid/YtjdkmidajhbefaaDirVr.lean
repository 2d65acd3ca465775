/- The walk of Valid of the layer directive (reference). Conditions: the texts' lengths are bounded. -/
import Derived.Test.YtjdkmidajhbefaaDirK
import Derived.Test.YtjdkmidajhbefaaQuotedQ
import Derived.Test.YtjdkmidajhbefaaLater
namespace Go.Proofs.Ytjdkmidajhbefaa
open Go.RowKit Hs
set_option linter.unusedSimpArgs false
set_option linter.unusedVariables false

theorem r18_valid_all (l : List Dir) (k : Nat) (h : k < l.length) : (l.drop k).all validOne = (validOne l[k] && (l.drop (k + 1)).all validOne) := by rw [List.drop_eq_getElem_cons h, List.all_cons]
set_option maxHeartbeats 4000000 in
theorem r18_valid (v : Value) (l : List Dir) (w : World) (hv : Dirs w v l) (hs : ∀ d ∈ l, d.1.length ≤ 10000 ∧ d.2.1.length ≤ 10000) : Calls Try.prog 38 #[v] w fun e w' => e = .returned (.bool (validD l)) ∧ Below w.heap.size w w' := by
  obtain ⟨a, cap, rfl, hn, hm, hc⟩ := hv.open
  unfold maxLen at hm
  have HC := Lib.hid hc
  have HS := Lib.hid hs
  clear hc hv hs
  go_enter Try.func38, Try.ntmps38
  go_wp2
  go_loopw [3] (fun i wr => ∃ k : Nat, i = .int .i64 k ∧ k ≤ l.length ∧ Below w.heap.size w wr ∧ Hid (l.all validOne = (l.drop k).all validOne)) (fun i _ => l.length - (intOf i).toNat)
  case atStart => exact ⟨0, rfl, by omega, Below.refl _ _, rfl⟩
  case round =>
    obtain ⟨k, rfl, hk, hnx, ha⟩ := hrel
    by_cases hlt : k < l.length
    · obtain ⟨b, off, rfl, hb1, hcell⟩ := HC.out (by omega)
      obtain ⟨x0, x1, x2⟩ := hcell k hlt
      have c0 := (hnx.cell (p := ⟨b, off + k * 3, none⟩) hb1).trans x0
      have c1 := (hnx.cell (p := ⟨b, off + k * 3 + 1, none⟩) hb1).trans x1
      have c2 := (hnx.cell (p := ⟨b, off + k * 3 + 2, none⟩) hb1).trans x2
      have hsz := HS.out l[k] (List.getElem_mem hlt)
      have hno : validOne l[k] = false → Hid (false = validD l) := fun h => by
        have e := ha.out
        rw [r18_valid_all l k hlt, h] at e
        unfold validD; rw [e]; rfl
      have hyes : validOne l[k] = true → Hid (l.all validOne = (l.drop (k + 1)).all validOne) := fun h => by
        have e := ha.out
        rw [r18_valid_all l k hlt, h, Bool.true_and] at e
        exact e
      clear hcell x0 x1 x2 ha
      obtain ⟨x, hx⟩ : ∃ x, x = l[k] := ⟨_, rfl⟩
      rw [← hx] at c0 c1 c2 hsz hno hyes
      have HNO := Lib.hid hno
      have HYES := Lib.hid hyes
      clear hx hno hyes
      obtain ⟨n, z, t⟩ := x
      simp only at c0 c1 c2 hsz
      obtain ⟨hsn, hsz⟩ := hsz
      have hzm : (mk n).size ≤ 10000 := by rw [size_mk]; exact hsn
      have hzz : (mk z).size ≤ 10000 := by rw [size_mk]; exact hsz
      have htk : Hid (∀ W : World, Calls Try.prog 23 #[.string (mk n)] W fun e w' => e = .returned (.bool (tokenS n)) ∧ W = w') := Lib.hid fun W => by
        have := r_isTokenS (mk n) W (by omega)
        rw [un_mk] at this
        exact this
      have hlo : Hid (∀ W : World, Calls Try.prog 55 #[.string (mk n)] W fun e w' => e = .returned (.string (mk (lower n))) ∧ Below W.heap.size W w') := Lib.hid fun W => by
        have := ref01_lower (mk n) W (by omega)
        rw [un_mk] at this
        exact this
      have hva : Hid (∀ W : World, Calls Try.prog 45 #[.string (mk z)] W fun e w' => e = .returned (.bool (z.all isTxt)) ∧ W = w') := Lib.hid fun W => by
        have := r_value (mk z) W (by omega)
        rw [un_mk] at this
        exact this
      cases hA : tokenS n
      · have hfin := HNO.out (by simp [validOne, hA])
        rw [hA] at htk
        clear hA HNO HYES
        go_wp2_with fail
        have d4 := Blk3.new wr 41 (.string (mk n)) (.string (mk z)) (.bool t)
        have B4 := hnx.alloc hnx.size (.cells #[.string (mk n), .string (mk z), .bool t] 41)
        generalize wr.alloc (.cells #[.string (mk n), .string (mk z), .bool t] 41) = W4 at *
        generalize wr.heap.size = g at *
        have q0 : ∀ x : Later W4, x.1.cell? ⟨g, 0, none⟩ = some (.string (mk n)) := fun x => (d4.below x.2).c0
        have q1 : ∀ x : Later W4, x.1.cell? ⟨g, 1, none⟩ = some (.string (mk z)) := fun x => (d4.below x.2).c1
        have q2 : ∀ x : Later W4, x.1.cell? ⟨g, 2, none⟩ = some (.bool t) := fun x => (d4.below x.2).c2
        clear c0 c1 c2
        refine wp_region_later W4 (by kernel_rfl) (by kernel_rfl) (Below.refl _ _) ?_
        repeat (go_big_quiet_step (first | (go_at_call 23; exact Calls.later_same (htk.out _)) | (go_at_call 55; exact Calls.later (hlo.out _)) | (go_at_call 45; exact Calls.later_same (hva.out _))))
        refine wpQuiet_nil ?_
        intro _ hw'
        obtain ⟨⟨w5, hb5⟩, rfl⟩ := hw'
        have d5 := d4.below hb5
        have B5 := B4.trans (hb5.mono B4.size)
        have z0 := d5.c0; have z1 := d5.c1; have z2 := d5.c2
        clear q0 q1 q2
        all_goals
          go_wp2_with fail
          go_ret
          exact ⟨ret_bool hfin.out, B5⟩
      · rw [hA] at htk
        by_cases hB : lower n = n
        · rw [hB] at hlo
          have hF : Hid (validOne (n, z, t) = ((t || z.isEmpty) && z.all isTxt)) := Lib.hid (by simp [validOne, hA, hB])
          clear hA hB
          cases t
          · by_cases hz : z = []
            · subst hz
              have hfin := HYES.out (by rw [hF.out]; rfl)
              clear HNO HYES hF
              have e0 : mk [] = ⟨#[]⟩ := rfl
              have hva0 : Hid (∀ W : World, Calls Try.prog 45 #[.string ⟨#[]⟩] W fun e w' => e = .returned (.bool true) ∧ W = w') := hva
              have hva := hva0
              rw [e0] at c1
              go_wp2_with fail
              have d4 := Blk3.new wr 41 (.string (mk n)) (.string ⟨#[]⟩) (.bool false)
              have B4 := hnx.alloc hnx.size (.cells #[.string (mk n), .string ⟨#[]⟩, .bool false] 41)
              generalize wr.alloc (.cells #[.string (mk n), .string ⟨#[]⟩, .bool false] 41) = W4 at *
              generalize wr.heap.size = g at *
              have q0 : ∀ x : Later W4, x.1.cell? ⟨g, 0, none⟩ = some (.string (mk n)) := fun x => (d4.below x.2).c0
              have q1 : ∀ x : Later W4, x.1.cell? ⟨g, 1, none⟩ = some (.string ⟨#[]⟩) := fun x => (d4.below x.2).c1
              have q2 : ∀ x : Later W4, x.1.cell? ⟨g, 2, none⟩ = some (.bool false) := fun x => (d4.below x.2).c2
              clear c0 c1 c2
              refine wp_region_later W4 (by kernel_rfl) (by kernel_rfl) (Below.refl _ _) ?_
              repeat (go_big_quiet_step (first | (go_at_call 23; exact Calls.later_same (htk.out _)) | (go_at_call 55; exact Calls.later (hlo.out _)) | (go_at_call 45; exact Calls.later_same (hva.out _))))
              refine wpQuiet_nil ?_
              intro _ hw'
              obtain ⟨⟨w5, hb5⟩, rfl⟩ := hw'
              have d5 := d4.below hb5
              have B5 := B4.trans (hb5.mono B4.size)
              have z0 := d5.c0; have z1 := d5.c1; have z2 := d5.c2
              clear q0 q1 q2
              all_goals
                go_wp2_with fail
                go_roundw
                case rel => exact ⟨k + 1, by go_num, by omega, B5, hfin⟩
                case measure => simp [intOf]; omega
            · have hfin := HNO.out (by rw [hF.out]; cases z with | nil => exact absurd rfl hz | cons _ _ => rfl)
              have hz1 : ¬ (mk z).toList = [] := by rw [toList_mk']; exact hz
              have hz2 : ¬ (mk z).toList = (ByteArray.mk #[]).toList := by rw [toList_mk', toList_un]; exact hz
              have hz3 : ¬ (mk z) = (ByteArray.mk #[]) := fun e => hz1 (by rw [e, toList_un]; rfl)
              have b1 : ((mk z).toList == ([] : List UInt8)) = false := by simp [hz1]
              have b2 : ((mk z).toList != ([] : List UInt8)) = true := by simp [hz1]
              have b3 : ((mk z).toList == (ByteArray.mk #[]).toList) = false := by simpa using hz2
              have b4 : ((mk z).toList != (ByteArray.mk #[]).toList) = true := by simpa using hz2
              clear HNO HYES hF hz
              go_wp2_with fail
              have d4 := Blk3.new wr 41 (.string (mk n)) (.string (mk z)) (.bool false)
              have B4 := hnx.alloc hnx.size (.cells #[.string (mk n), .string (mk z), .bool false] 41)
              generalize wr.alloc (.cells #[.string (mk n), .string (mk z), .bool false] 41) = W4 at *
              generalize wr.heap.size = g at *
              have q0 : ∀ x : Later W4, x.1.cell? ⟨g, 0, none⟩ = some (.string (mk n)) := fun x => (d4.below x.2).c0
              have q1 : ∀ x : Later W4, x.1.cell? ⟨g, 1, none⟩ = some (.string (mk z)) := fun x => (d4.below x.2).c1
              have q2 : ∀ x : Later W4, x.1.cell? ⟨g, 2, none⟩ = some (.bool false) := fun x => (d4.below x.2).c2
              clear c0 c1 c2
              refine wp_region_later W4 (by kernel_rfl) (by kernel_rfl) (Below.refl _ _) ?_
              repeat (go_big_quiet_step (first | (go_at_call 23; exact Calls.later_same (htk.out _)) | (go_at_call 55; exact Calls.later (hlo.out _)) | (go_at_call 45; exact Calls.later_same (hva.out _))))
              refine wpQuiet_nil ?_
              intro _ hw'
              obtain ⟨⟨w5, hb5⟩, rfl⟩ := hw'
              have d5 := d4.below hb5
              have B5 := B4.trans (hb5.mono B4.size)
              have z0 := d5.c0; have z1 := d5.c1; have z2 := d5.c2
              clear q0 q1 q2
              all_goals
                go_wp2_with fail
                go_ret
                exact ⟨ret_bool hfin.out, B5⟩
          · cases hT : z.all isTxt
            · have hfin := HNO.out (by rw [hF.out, hT]; simp)
              rw [hT] at hva
              clear HNO HYES hF hT
              go_wp2_with fail
              have d4 := Blk3.new wr 41 (.string (mk n)) (.string (mk z)) (.bool true)
              have B4 := hnx.alloc hnx.size (.cells #[.string (mk n), .string (mk z), .bool true] 41)
              generalize wr.alloc (.cells #[.string (mk n), .string (mk z), .bool true] 41) = W4 at *
              generalize wr.heap.size = g at *
              have q0 : ∀ x : Later W4, x.1.cell? ⟨g, 0, none⟩ = some (.string (mk n)) := fun x => (d4.below x.2).c0
              have q1 : ∀ x : Later W4, x.1.cell? ⟨g, 1, none⟩ = some (.string (mk z)) := fun x => (d4.below x.2).c1
              have q2 : ∀ x : Later W4, x.1.cell? ⟨g, 2, none⟩ = some (.bool true) := fun x => (d4.below x.2).c2
              clear c0 c1 c2
              refine wp_region_later W4 (by kernel_rfl) (by kernel_rfl) (Below.refl _ _) ?_
              repeat (go_big_quiet_step (first | (go_at_call 23; exact Calls.later_same (htk.out _)) | (go_at_call 55; exact Calls.later (hlo.out _)) | (go_at_call 45; exact Calls.later_same (hva.out _))))
              refine wpQuiet_nil ?_
              intro _ hw'
              obtain ⟨⟨w5, hb5⟩, rfl⟩ := hw'
              have d5 := d4.below hb5
              have B5 := B4.trans (hb5.mono B4.size)
              have z0 := d5.c0; have z1 := d5.c1; have z2 := d5.c2
              clear q0 q1 q2
              all_goals
                go_wp2_with fail
                go_ret
                exact ⟨ret_bool hfin.out, B5⟩
            · have hfin := HYES.out (by rw [hF.out, hT]; simp)
              rw [hT] at hva
              clear HNO HYES hF hT
              go_wp2_with fail
              have d4 := Blk3.new wr 41 (.string (mk n)) (.string (mk z)) (.bool true)
              have B4 := hnx.alloc hnx.size (.cells #[.string (mk n), .string (mk z), .bool true] 41)
              generalize wr.alloc (.cells #[.string (mk n), .string (mk z), .bool true] 41) = W4 at *
              generalize wr.heap.size = g at *
              have q0 : ∀ x : Later W4, x.1.cell? ⟨g, 0, none⟩ = some (.string (mk n)) := fun x => (d4.below x.2).c0
              have q1 : ∀ x : Later W4, x.1.cell? ⟨g, 1, none⟩ = some (.string (mk z)) := fun x => (d4.below x.2).c1
              have q2 : ∀ x : Later W4, x.1.cell? ⟨g, 2, none⟩ = some (.bool true) := fun x => (d4.below x.2).c2
              clear c0 c1 c2
              refine wp_region_later W4 (by kernel_rfl) (by kernel_rfl) (Below.refl _ _) ?_
              repeat (go_big_quiet_step (first | (go_at_call 23; exact Calls.later_same (htk.out _)) | (go_at_call 55; exact Calls.later (hlo.out _)) | (go_at_call 45; exact Calls.later_same (hva.out _))))
              refine wpQuiet_nil ?_
              intro _ hw'
              obtain ⟨⟨w5, hb5⟩, rfl⟩ := hw'
              have d5 := d4.below hb5
              have B5 := B4.trans (hb5.mono B4.size)
              have z0 := d5.c0; have z1 := d5.c1; have z2 := d5.c2
              clear q0 q1 q2
              all_goals
                go_wp2_with fail
                go_roundw
                case rel => exact ⟨k + 1, by go_num, by omega, B5, hfin⟩
                case measure => simp [intOf]; omega
        · have hfin := HNO.out (by simp [validOne, hB])
          obtain ⟨m, hm2⟩ : ∃ m, m = lower n := ⟨_, rfl⟩
          rw [← hm2] at hB hlo
          have hz1 : ¬ (mk m).toList = (mk n).toList := by rw [toList_mk', toList_mk']; exact hB
          have b1 : ((mk m).toList == (mk n).toList) = false := by simpa using hz1
          have b2 : ((mk m).toList != (mk n).toList) = true := by simpa using hz1
          clear HNO HYES hA hB hm2
          go_wp2_with fail
          have d4 := Blk3.new wr 41 (.string (mk n)) (.string (mk z)) (.bool t)
          have B4 := hnx.alloc hnx.size (.cells #[.string (mk n), .string (mk z), .bool t] 41)
          generalize wr.alloc (.cells #[.string (mk n), .string (mk z), .bool t] 41) = W4 at *
          generalize wr.heap.size = g at *
          have q0 : ∀ x : Later W4, x.1.cell? ⟨g, 0, none⟩ = some (.string (mk n)) := fun x => (d4.below x.2).c0
          have q1 : ∀ x : Later W4, x.1.cell? ⟨g, 1, none⟩ = some (.string (mk z)) := fun x => (d4.below x.2).c1
          have q2 : ∀ x : Later W4, x.1.cell? ⟨g, 2, none⟩ = some (.bool t) := fun x => (d4.below x.2).c2
          clear c0 c1 c2
          refine wp_region_later W4 (by kernel_rfl) (by kernel_rfl) (Below.refl _ _) ?_
          repeat (go_big_quiet_step (first | (go_at_call 23; exact Calls.later_same (htk.out _)) | (go_at_call 55; exact Calls.later (hlo.out _)) | (go_at_call 45; exact Calls.later_same (hva.out _))))
          refine wpQuiet_nil ?_
          intro _ hw'
          obtain ⟨⟨w5, hb5⟩, rfl⟩ := hw'
          have d5 := d4.below hb5
          have B5 := B4.trans (hb5.mono B4.size)
          have z0 := d5.c0; have z1 := d5.c1; have z2 := d5.c2
          clear q0 q1 q2
          all_goals
            go_wp2_with fail
            go_ret
            exact ⟨ret_bool hfin.out, B5⟩
    · obtain rfl : k = l.length := by omega
      have hfin : Hid (l.all validOne = true) := by
        have e1 := ha.out
        rw [List.drop_length] at e1
        exact e1
      clear ha
      go_wp2
      go_ret
      refine ⟨ret_bool ?_, hnx⟩
      unfold validD
      rw [hfin.out, Bool.true_and]
      first | (refine btrue ?_; omega) | (refine bfalse ?_; omega) | (refine bdec ?_; omega) | (refine beqdec ?_; omega) | (refine bnedec ?_; omega)
end Go.Proofs.Ytjdkmidajhbefaa
