/- The walk of Format of ipv6. Conditions: eight groups; the library's tables stand. -/
import Derived.Test.YtblcgicgbindlaaDoorIpv6F
namespace Go.Proofs.YtblcgicgbindlaaDoor
open Go.RowKit Hs
set_option linter.unusedSimpArgs false
set_option linter.unusedVariables false

set_option maxRecDepth 20000 in
set_option maxHeartbeats 4000000 in
theorem i6_format (l : List Nat) (w : World) (hB : Base6 w) (h8 : l.length = 8) (hl : ∀ x ∈ l, x < 65536) : Calls Tryd.prog 26 #[.agg (gcells l).toArray] w fun e w' => e = .returned (.string (mk (fmt6 l))) ∧ Below w.heap.size w w' := by
  have hgood := best_good l
  have hblk := BlkN.new w 39 (gcells l).toArray
  have hbA : Below w.heap.size w (w.alloc (.cells (gcells l).toArray 39)) := (Below.refl _ w).alloc (Nat.le_refl _) _
  have hdef : Hid (fmt6 l = fmtZ l (bestZ l 0 (0, 0))) := Lib.hid rfl
  have HZ := Lib.hid (fun W => i6_zeros l W h8 hl)
  obtain ⟨⟨at', n⟩, hz⟩ : ∃ z, z = bestZ l 0 (0, 0) := ⟨_, rfl⟩
  rw [← hz] at hgood hdef
  simp only [← hz] at HZ
  have hgd := hgood.1
  simp only at hgd
  have B0 := hB.below hbA
  have HBLK := Lib.hid hblk
  have HA := Lib.hid hbA
  clear hz hgood hblk hbA hB
  go_enter Tryd.func26, Tryd.ntmps26
  go_wp2_with ((with_reducible show wpList _ _ _ _ _ _); refine wpList_load_row rfl 39 (.tmp 1) rfl w.heap.size rfl 39 _ _ _ HBLK.out Tryd.underlying39 rfl (by rw [infoArr8]; simp; omega) ?_)
  refine (HZ.out _).mono ?_; rintro e w2 ⟨rfl, hb2⟩
  have B2 := B0.below hb2
  have hblk2 := HBLK.out.below HBLK.out.lt hb2
  have hall := HA.out.trans (hb2.mono HA.out.size)
  clear B0 hb2
  by_cases hn2 : n < 2
  · have hend : Hid (fmt6 l = join6 l) := Lib.hid (by rw [hdef.out]; exact if_pos hn2)
    have g1 : decide ((n : Int) < 2) = true := decide_eq_true (by omega)
    have hp := grps_part hblk2 (some ⟨w.heap.size, 0, none⟩) 0 8 8 (fun _ => rfl) (by omega) (by omega) (by decide)
    rw [List.drop_zero, List.take_of_length_le (by omega)] at hp
    have HJ := Lib.hid (i6_join _ l w2 B2 hp (by omega) hl)
    clear hp hblk2 hdef
    go_wp2_with fail
    all_goals (try (exfalso; omega))
    refine HJ.out.mono ?_; rintro e w3 ⟨rfl, hb3⟩
    go_wp2
    go_ret
    rw [hend.out]
    exact ⟨rfl, hall.trans (hb3.mono hall.size)⟩
  · have hend : Hid (fmt6 l = join6 (l.take at') ++ 58 :: 58 :: join6 (l.drop (at' + n))) := Lib.hid (by rw [hdef.out]; exact if_neg hn2)
    have g1 : decide ((n : Int) < 2) = false := decide_eq_false (by omega)
    obtain ⟨q, hq⟩ : ∃ q, q = at' + n := ⟨_, rfl⟩
    have hq8 : q ≤ 8 := by omega
    obtain ⟨sa, hsa, hsl⟩ := slice_from w.heap.size q hq8
    have hsh := slice_head w.heap.size at' (by omega)
    have hw : IntKind.i64.wrap ((at' : Int) + (n : Int)) = (q : Int) := by rw [IntKind.wrap_i64]; omega
    have hw2 : ((at' : Int) + (n : Int)) = (q : Int) := by omega
    have hp1 := grps_part hblk2 (some ⟨w.heap.size, 0, none⟩) 0 at' 8 (fun _ => rfl) (by omega) (by omega) (by decide)
    have hp2 := grps_part hblk2 (some sa) q (8 - q) (8 - q) (fun h => by rw [hsa.out (by omega)]) (by omega) (by omega) (by unfold maxLen; omega)
    rw [List.drop_zero] at hp1
    rw [List.take_of_length_le (by rw [List.length_drop]; omega)] at hp2
    rw [← hq] at hend
    have hl1 : ∀ x ∈ l.take at', x < 65536 := fun x hx => hl x (List.mem_of_mem_take hx)
    have hl2 : ∀ x ∈ l.drop q, x < 65536 := fun x hx => hl x (List.mem_of_mem_drop hx)
    have hn1 := join6_len _ hl1
    have hn2' := join6_len _ hl2
    rw [List.length_take] at hn1
    rw [List.length_drop] at hn2'
    have J1 := Lib.hid (fun x : Later w2 => i6_join _ (l.take at') x.1 (B2.below x.2) (hp1.below x.2) (by rw [List.length_take]; omega) hl1)
    have J2 := Lib.hid (fun x : Later w2 => i6_join _ (l.drop q) x.1 (B2.below x.2) (hp2.below x.2) (by rw [List.length_drop]; omega) hl2)
    obtain ⟨t1, ht1⟩ : ∃ t, t = join6 (l.take at') := ⟨_, rfl⟩
    obtain ⟨t2, ht2⟩ : ∃ t, t = join6 (l.drop q) := ⟨_, rfl⟩
    rw [← ht1] at hn1 J1 hend
    rw [← ht2] at hn2' J2 hend
    have k1 : t1.length ≤ 40 := by omega
    have k2 : t2.length ≤ 40 := by omega
    have HQ := Lib.hid hq
    clear ht1 ht2 hn1 hn2' hp1 hp2 hl1 hl2 hblk2 hdef hsa hl hq
    go_wp2_with fail
    all_goals (try (exfalso; omega))
    refine wp_region_later w2 (by kernel_rfl) (by kernel_rfl) (Below.refl _ _) ?_
    repeat (go_big_quiet_step (fail))
    go_big_quiet_step (exact Calls.later (J1.out _))
    repeat (go_big_quiet_step (fail))
    go_big_quiet_step (exact Calls.later (J2.out _))
    repeat (go_big_quiet_step (fail))
    refine wpQuiet_nil ?_
    intro _ hw'
    obtain ⟨⟨w5, hb5⟩, rfl⟩ := hw'
    go_wp2
    go_ret
    rw [hend.out]
    exact ⟨ret_str (by simp only [un_append, un_mk]; simp [un]), hall.trans (hb5.mono hall.size)⟩
end Go.Proofs.YtblcgicgbindlaaDoor
