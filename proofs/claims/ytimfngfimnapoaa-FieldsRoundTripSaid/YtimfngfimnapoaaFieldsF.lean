/- The walk of Format of the layer fields (program). Conditions: the texts' lengths are bounded. -/
import Derived.Test.YtimfngfimnapoaaFieldsT
import Derived.Test.YtimfngfimnapoaaFieldsV
import Derived.Lib.AppendStr
namespace Go.Proofs.Ytimfngfimnapoaa
open Go.RowKit Hs
set_option linter.unusedSimpArgs false
set_option linter.unusedVariables false

set_option maxHeartbeats 4000000 in
theorem f_format (v : Value) (l : List Fld) (w : World) (hv : Flds w v l) (hs : ∀ x ∈ l, x.1.length ≤ 10000 ∧ x.2.length ≤ 10000) :
    Calls Try.prog 20 #[v] w fun e w' => ∃ u, e = .returned (.tuple #[u, .int .i64 (formatF l).2]) ∧ w'.ownsRow w.heap.size 5 1 u (formatF l).1.length (bcells (formatF l).1) ∧ Below w.heap.size w w' := by
  obtain ⟨iB0, iB⟩ := info_parts infoByte
  obtain ⟨a, cap, rfl, hn, hm, hc⟩ := hv.open
  unfold maxLen at hm
  obtain ⟨R, hR⟩ : ∃ R, R = formatF l := ⟨_, rfl⟩
  rw [← hR]
  have HR := Lib.hid hR
  have HC := Lib.hid hc
  have HS := Lib.hid hs
  clear hc hv hs hR
  by_cases h100 : l.length ≤ 100
  · have h100' : ((l.length : Int) ≤ 100) := by omega
    have hlen : ∀ k, k ≤ l.length → (textF0 (l.take k)).length ≤ 3000000 := fun k _ => length_textF0_take l k h100 HS.out
    have HLEN := Lib.hid hlen
    clear hlen
    go_enter Try.func20, Try.ntmps20
    go_wp2
    go_loopw [4, 12] (fun o iv wr => ∃ k : Nat, iv = .int .i64 k ∧ k ≤ l.length ∧ wr.ownsRow w.heap.size 5 1 o (textF0 (l.take k)).length (bcells (textF0 (l.take k))) ∧ Below w.heap.size w wr ∧ Hid (l.all validF = (l.drop k).all validF)) (fun _ iv _ => l.length - (intOf iv).toNat)
    case atStart => exact ⟨0, rfl, by omega, World.ownsRow_nil _ _ _ _, Below.refl _ _, rfl⟩
    case round =>
      obtain ⟨k, rfl, hk, hown, hnx, ha⟩ := hrel
      have hsize := hnx.size
      have htl := HLEN.out k hk
      by_cases hlt : k < l.length
      · obtain ⟨b, off, rfl, hb1, hcell⟩ := HC.out (by omega)
        obtain ⟨x0, x1⟩ := hcell k hlt
        have c0 := (hnx.cell (p := ⟨b, off + k * 2, none⟩) hb1).trans x0
        have c1 := (hnx.cell (p := ⟨b, off + k * 2 + 1, none⟩) hb1).trans x1
        have hsz := HS.out l[k] (List.getElem_mem hlt)
        have hno : validF l[k] = false → Hid (R = ([], 1)) := fun h => by
          have e := ha.out
          rw [valid_drop l k hlt, h] at e
          rw [HR.out, formatF_bad l (by omega) e]; rfl
        have hyes : validF l[k] = true → Hid (l.all validF = (l.drop (k + 1)).all validF) := fun h => by
          have e := ha.out
          rw [valid_drop l k hlt, h, Bool.true_and] at e
          exact e
        have hst := Lib.hid (textF0_take l k hlt)
        clear hcell x0 x1 ha
        obtain ⟨x, hx⟩ : ∃ x, x = l[k] := ⟨_, rfl⟩
        rw [← hx] at c0 c1 hsz hno hyes hst
        have HNO := Lib.hid hno
        have HYES := Lib.hid hyes
        clear hx hno hyes
        obtain ⟨n, z⟩ := x
        simp only at c0 c1 hsz
        obtain ⟨hsn, hsz⟩ := hsz
        have hzm : (mk n).size ≤ 10000 := by rw [size_mk]; exact hsn
        have hzz : (mk z).size ≤ 10000 := by rw [size_mk]; exact hsz
        have htk : Hid (∀ W : World, Calls Try.prog 24 #[.string (mk n)] W fun e w' => e = .returned (.bool (tokenS n)) ∧ W = w') := Lib.hid fun W => by
          have := f_token (mk n) W (by omega)
          rw [un_mk] at this
          exact this
        have hlo : Hid (∀ W : World, Calls Try.prog 26 #[.string (mk n)] W fun e w' => e = .returned (.string (mk (lower n))) ∧ Below W.heap.size W w') := Lib.hid fun W => by
          have := ascii_lower (mk n) W (by omega)
          rw [un_mk] at this
          exact this
        have hva : Hid (∀ W : World, Calls Try.prog 25 #[.string (mk z)] W fun e w' => e = .returned (.bool (z.all isTxt)) ∧ W = w') := Lib.hid fun W => by
          have := f_value (mk z) W (by omega)
          rw [un_mk] at this
          exact this
        have htr : Hid (∀ W : World, Calls Try.prog 27 #[.string (mk z)] W fun e w' => e = .returned (.string (mk (trim z))) ∧ W = w') := Lib.hid fun W => by
          have := ascii_trim (mk z) W (by omega)
          rw [un_mk] at this
          exact this
        cases hA : tokenS n
        · have hfin := HNO.out (by simp [validF, hA])
          rw [hA] at htk
          clear hA HNO HYES
          go_wp2_with fail
          have d4 := Blk2.new wr 44 (.string (mk n)) (.string (mk z))
          have B4 := hnx.alloc hnx.size (.cells #[.string (mk n), .string (mk z)] 44)
          have ho4 := hown.alloc (.cells #[.string (mk n), .string (mk z)] 44)
          generalize wr.alloc (.cells #[.string (mk n), .string (mk z)] 44) = W4 at *
          generalize wr.heap.size = g at *
          have q0 : ∀ x : Later W4, x.1.cell? ⟨g, 0, none⟩ = some (.string (mk n)) := fun x => (d4.below x.2).c0
          have q1 : ∀ x : Later W4, x.1.cell? ⟨g, 1, none⟩ = some (.string (mk z)) := fun x => (d4.below x.2).c1
          clear c0 c1
          refine wp_region_later W4 (by kernel_rfl) (by kernel_rfl) (Below.refl _ _) ?_
          repeat (go_big_quiet_step (first | (go_at_call 24; exact Calls.later_same (htk.out _)) | (go_at_call 26; exact Calls.later (hlo.out _)) | (go_at_call 25; exact Calls.later_same (hva.out _)) | (go_at_call 27; exact Calls.later_same (htr.out _))))
          refine wpQuiet_nil ?_
          intro _ hw'
          obtain ⟨⟨w5, hb5⟩, rfl⟩ := hw'
          have d5 := d4.below hb5
          have B5 := B4.trans (hb5.mono B4.size)
          have ho5 := ho4.kept (grown_later hb5) (own_none_ne _)
          have z0 := d5.c0; have z1 := d5.c1
          clear q0 q1
          all_goals
            go_wp2_with fail
            go_ret2
            exact ⟨_, by rw [hfin.out]; rfl, by rw [hfin.out]; exact World.ownsRow_nil _ _ _ _, B5⟩
        · rw [hA] at htk
          by_cases hB : lower n = n
          · rw [hB] at hlo
            cases hC : z.all isTxt
            · have hfin := HNO.out (by simp [validF, hC])
              rw [hC] at hva
              clear hA hB hC HNO HYES
              go_wp2_with fail
              have d4 := Blk2.new wr 44 (.string (mk n)) (.string (mk z))
              have B4 := hnx.alloc hnx.size (.cells #[.string (mk n), .string (mk z)] 44)
              have ho4 := hown.alloc (.cells #[.string (mk n), .string (mk z)] 44)
              generalize wr.alloc (.cells #[.string (mk n), .string (mk z)] 44) = W4 at *
              generalize wr.heap.size = g at *
              have q0 : ∀ x : Later W4, x.1.cell? ⟨g, 0, none⟩ = some (.string (mk n)) := fun x => (d4.below x.2).c0
              have q1 : ∀ x : Later W4, x.1.cell? ⟨g, 1, none⟩ = some (.string (mk z)) := fun x => (d4.below x.2).c1
              clear c0 c1
              refine wp_region_later W4 (by kernel_rfl) (by kernel_rfl) (Below.refl _ _) ?_
              repeat (go_big_quiet_step (first | (go_at_call 24; exact Calls.later_same (htk.out _)) | (go_at_call 26; exact Calls.later (hlo.out _)) | (go_at_call 25; exact Calls.later_same (hva.out _)) | (go_at_call 27; exact Calls.later_same (htr.out _))))
              refine wpQuiet_nil ?_
              intro _ hw'
              obtain ⟨⟨w5, hb5⟩, rfl⟩ := hw'
              have d5 := d4.below hb5
              have B5 := B4.trans (hb5.mono B4.size)
              have ho5 := ho4.kept (grown_later hb5) (own_none_ne _)
              have z0 := d5.c0; have z1 := d5.c1
              clear q0 q1
              all_goals
                go_wp2_with fail
                go_ret2
                exact ⟨_, by rw [hfin.out]; rfl, by rw [hfin.out]; exact World.ownsRow_nil _ _ _ _, B5⟩
            · rw [hC] at hva
              by_cases hD : trim z = z
              · rw [hD] at htr
                have hnext := HYES.out (by simp [validF, hA, hB, hC, hD])
                clear hA hB hC hD HNO HYES
                go_wp2_with fail
                have d4 := Blk2.new wr 44 (.string (mk n)) (.string (mk z))
                have B4 := hnx.alloc hnx.size (.cells #[.string (mk n), .string (mk z)] 44)
                have ho4 := hown.alloc (.cells #[.string (mk n), .string (mk z)] 44)
                generalize wr.alloc (.cells #[.string (mk n), .string (mk z)] 44) = W4 at *
                generalize wr.heap.size = g at *
                have q0 : ∀ x : Later W4, x.1.cell? ⟨g, 0, none⟩ = some (.string (mk n)) := fun x => (d4.below x.2).c0
                have q1 : ∀ x : Later W4, x.1.cell? ⟨g, 1, none⟩ = some (.string (mk z)) := fun x => (d4.below x.2).c1
                clear c0 c1
                refine wp_region_later W4 (by kernel_rfl) (by kernel_rfl) (Below.refl _ _) ?_
                repeat (go_big_quiet_step (first | (go_at_call 24; exact Calls.later_same (htk.out _)) | (go_at_call 26; exact Calls.later (hlo.out _)) | (go_at_call 25; exact Calls.later_same (hva.out _)) | (go_at_call 27; exact Calls.later_same (htr.out _))))
                refine wpQuiet_nil ?_
                intro _ hw'
                obtain ⟨⟨w5, hb5⟩, rfl⟩ := hw'
                have d5 := d4.below hb5
                have B5 := B4.trans (hb5.mono B4.size)
                have ho5 := ho4.kept (grown_later hb5) (own_none_ne _)
                have z0 := d5.c0; have z1 := d5.c1
                clear q0 q1
                obtain ⟨ao, co, rfl⟩ := own_slice3 ho5
                have hB5 := B5.size
                go_wp2_with (at_builtin; refine Lib.wpList_append_own_string _ rfl (.tmp 42) (.tmp 49) 22 9 rfl w.heap.size 5 iB0 Try.underlying22 Try.underlying9 iB.1 iB.2.1 iB.2.2.1 iB.2.2.2 _ _ _ rfl ho5 _ rfl (by unfold maxLen; simp [size_crlf, size_cs]; omega) (by simp [size_crlf, size_cs]; omega) B5.size ?_; intro v1 w1 hown1 hgrow1 hnil1)
                go_roundw
                case rel =>
                  refine ⟨k + 1, by go_num, by omega, ?_, B5.grown hgrow1 B5.size (fun j hj => (ho5.lt j hj).1), hnext⟩
                  rw [hst.out, List.length_append, bcells_append]
                  exact own_cast hown1 (by simp [fieldText, size_crlf, size_cs]; omega) (by simp [Lib.strCells, fieldText, bcells, mk])
                case measure => simp [intOf]; omega
              · have hfin := HNO.out (by simp [validF, hD])
                obtain ⟨m, hm2⟩ : ∃ m, m = trim z := ⟨_, rfl⟩
                rw [← hm2] at hD htr
                have hz1 : ¬ (mk m).toList = (mk z).toList := by rw [toList_mk', toList_mk']; exact hD
                have b1 : ((mk m).toList == (mk z).toList) = false := by simpa using hz1
                have b2 : ((mk m).toList != (mk z).toList) = true := by simpa using hz1
                clear HNO HYES hA hB hC hD hm2
                go_wp2_with fail
                have d4 := Blk2.new wr 44 (.string (mk n)) (.string (mk z))
                have B4 := hnx.alloc hnx.size (.cells #[.string (mk n), .string (mk z)] 44)
                have ho4 := hown.alloc (.cells #[.string (mk n), .string (mk z)] 44)
                generalize wr.alloc (.cells #[.string (mk n), .string (mk z)] 44) = W4 at *
                generalize wr.heap.size = g at *
                have q0 : ∀ x : Later W4, x.1.cell? ⟨g, 0, none⟩ = some (.string (mk n)) := fun x => (d4.below x.2).c0
                have q1 : ∀ x : Later W4, x.1.cell? ⟨g, 1, none⟩ = some (.string (mk z)) := fun x => (d4.below x.2).c1
                clear c0 c1
                refine wp_region_later W4 (by kernel_rfl) (by kernel_rfl) (Below.refl _ _) ?_
                repeat (go_big_quiet_step (first | (go_at_call 24; exact Calls.later_same (htk.out _)) | (go_at_call 26; exact Calls.later (hlo.out _)) | (go_at_call 25; exact Calls.later_same (hva.out _)) | (go_at_call 27; exact Calls.later_same (htr.out _))))
                refine wpQuiet_nil ?_
                intro _ hw'
                obtain ⟨⟨w5, hb5⟩, rfl⟩ := hw'
                have d5 := d4.below hb5
                have B5 := B4.trans (hb5.mono B4.size)
                have ho5 := ho4.kept (grown_later hb5) (own_none_ne _)
                have z0 := d5.c0; have z1 := d5.c1
                clear q0 q1
                all_goals
                  go_wp2_with fail
                  go_ret2
                  exact ⟨_, by rw [hfin.out]; rfl, by rw [hfin.out]; exact World.ownsRow_nil _ _ _ _, B5⟩
          · have hfin := HNO.out (by simp [validF, hB])
            obtain ⟨m, hm2⟩ : ∃ m, m = lower n := ⟨_, rfl⟩
            rw [← hm2] at hB hlo
            have hz1 : ¬ (mk m).toList = (mk n).toList := by rw [toList_mk', toList_mk']; exact hB
            have b1 : ((mk m).toList == (mk n).toList) = false := by simpa using hz1
            have b2 : ((mk m).toList != (mk n).toList) = true := by simpa using hz1
            clear HNO HYES hA hB hm2
            go_wp2_with fail
            have d4 := Blk2.new wr 44 (.string (mk n)) (.string (mk z))
            have B4 := hnx.alloc hnx.size (.cells #[.string (mk n), .string (mk z)] 44)
            have ho4 := hown.alloc (.cells #[.string (mk n), .string (mk z)] 44)
            generalize wr.alloc (.cells #[.string (mk n), .string (mk z)] 44) = W4 at *
            generalize wr.heap.size = g at *
            have q0 : ∀ x : Later W4, x.1.cell? ⟨g, 0, none⟩ = some (.string (mk n)) := fun x => (d4.below x.2).c0
            have q1 : ∀ x : Later W4, x.1.cell? ⟨g, 1, none⟩ = some (.string (mk z)) := fun x => (d4.below x.2).c1
            clear c0 c1
            refine wp_region_later W4 (by kernel_rfl) (by kernel_rfl) (Below.refl _ _) ?_
            repeat (go_big_quiet_step (first | (go_at_call 24; exact Calls.later_same (htk.out _)) | (go_at_call 26; exact Calls.later (hlo.out _)) | (go_at_call 25; exact Calls.later_same (hva.out _)) | (go_at_call 27; exact Calls.later_same (htr.out _))))
            refine wpQuiet_nil ?_
            intro _ hw'
            obtain ⟨⟨w5, hb5⟩, rfl⟩ := hw'
            have d5 := d4.below hb5
            have B5 := B4.trans (hb5.mono B4.size)
            have ho5 := ho4.kept (grown_later hb5) (own_none_ne _)
            have z0 := d5.c0; have z1 := d5.c1
            clear q0 q1
            all_goals
              go_wp2_with fail
              go_ret2
              exact ⟨_, by rw [hfin.out]; rfl, by rw [hfin.out]; exact World.ownsRow_nil _ _ _ _, B5⟩
      · obtain rfl : k = l.length := by omega
        have hall : Hid (l.all validF = true) := by
          have e1 := ha.out
          rw [List.drop_length] at e1
          exact e1
        rw [List.take_length] at hown htl
        obtain ⟨ao, co, rfl⟩ := own_slice3 hown
        have hl2 : (textF l).length = (textF0 l).length + 2 := by simp [textF]
        have hcast : ∀ (W : World) (v1 : Value), W.ownsRow w.heap.size 5 1 v1 ((textF0 l).length + (⟨#[13, 10]⟩ : ByteArray).size) (bcells (textF0 l) ++ Lib.strCells ⟨#[13, 10]⟩) → W.ownsRow w.heap.size 5 1 v1 (textF l).length (bcells (textF l)) := fun W v1 h => own_cast h (by simp [textF, size_crlf]) (by simp [textF, Lib.strCells, bcells])
        obtain ⟨N, hN⟩ : ∃ N, N = (textF l).length := ⟨_, rfl⟩
        rw [← hN] at hcast hl2
        have HN := Lib.hid hN
        have HCAST := Lib.hid hcast
        clear ha HC HLEN HS hcast hN
        by_cases hlong : 16384 < N
        · have hlong' : ((16384 : Int) < (N : Int)) := by omega
          have hfin : Hid (R = ([], 3)) := by rw [HR.out, formatF_long l (by omega) hall.out (by rw [← HN.out]; exact hlong)]; rfl
          clear hlong hl2
          go_wp2_with (at_builtin; refine Lib.wpList_append_own_string _ rfl (.tmp 52) (.const (.string ⟨#[13, 10]⟩)) 22 9 rfl w.heap.size 5 iB0 Try.underlying22 Try.underlying9 iB.1 iB.2.1 iB.2.2.1 iB.2.2.2 _ _ _ rfl hown _ rfl (by unfold maxLen; rw [size_crlf]; omega) (by rw [size_crlf]; omega) hnx.size ?_; intro v1 w1 hown1 hgrow1 hnil1; have hown2 := HCAST.out _ _ hown1; have B1 := hnx.grown hgrow1 hnx.size (fun j hj => (hown.lt j hj).1); obtain ⟨a1, c1, rfl⟩ := own_slice3 hown2; clear hown1 hgrow1 hnil1)
          go_ret2
          exact ⟨_, by rw [hfin.out]; rfl, by rw [hfin.out]; exact World.ownsRow_nil _ _ _ _, B1⟩
        · have hlong' : ((N : Int) ≤ 16384) := by omega
          have hfin : Hid (R = (textF l, 0)) := by rw [HR.out, formatF_ok l (by omega) hall.out (by rw [← HN.out]; exact hlong)]; rfl
          clear hlong hl2
          go_wp2_with (at_builtin; refine Lib.wpList_append_own_string _ rfl (.tmp 52) (.const (.string ⟨#[13, 10]⟩)) 22 9 rfl w.heap.size 5 iB0 Try.underlying22 Try.underlying9 iB.1 iB.2.1 iB.2.2.1 iB.2.2.2 _ _ _ rfl hown _ rfl (by unfold maxLen; rw [size_crlf]; omega) (by rw [size_crlf]; omega) hnx.size ?_; intro v1 w1 hown1 hgrow1 hnil1; have hown2 := HCAST.out _ _ hown1; have B1 := hnx.grown hgrow1 hnx.size (fun j hj => (hown.lt j hj).1); obtain ⟨a1, c1, rfl⟩ := own_slice3 hown2; clear hown1 hgrow1 hnil1)
          go_ret2
          exact ⟨_, by rw [hfin.out]; rfl, by rw [hfin.out]; exact own_cast hown2 HN.out rfl, B1⟩
  · have h100' : ((100 : Int) < (l.length : Int)) := by omega
    have hfin : Hid (R = ([], 3)) := by rw [HR.out, formatF_many l (by omega)]; rfl
    clear HC HS HR
    go_enter Try.func20, Try.ntmps20
    go_wp2
    go_ret2
    exact ⟨_, by rw [hfin.out]; rfl, by rw [hfin.out]; exact World.ownsRow_nil _ _ _ _, Below.refl _ _⟩
end Go.Proofs.Ytimfngfimnapoaa
