/- The walk of Format of the layer fields (reference). Conditions: the texts' lengths are bounded. -/
import Derived.Test.YtimfngfimnapoaaFieldsT
import Derived.Test.YtimfngfimnapoaaFieldsR
import Derived.Test.YtimfngfimnapoaaConv
namespace Go.Proofs.Ytimfngfimnapoaa
open Go.RowKit Hs
set_option linter.unusedSimpArgs false
set_option linter.unusedVariables false

set_option maxRecDepth 20000 in
set_option maxHeartbeats 4000000 in
theorem r21_format (v : Value) (l : List Fld) (w : World) (hv : Flds w v l) (hs : ∀ x ∈ l, x.1.length ≤ 10000 ∧ x.2.length ≤ 10000) :
    Calls Try.prog 21 #[v] w fun e w' => ∃ u, e = .returned (.tuple #[u, .int .i64 (formatF l).2]) ∧ Byts w' u (formatF l).1 ∧ Below w.heap.size w w' := by
  obtain ⟨iB0, iB⟩ := info_parts infoByte
  obtain ⟨a, cap, rfl, hn, hm, hc⟩ := hv.open
  unfold maxLen at hm
  obtain ⟨R, hR⟩ : ∃ R, R = formatF l := ⟨_, rfl⟩
  rw [← hR]
  have HR := Lib.hid hR
  have HC := Lib.hid hc
  have HS := Lib.hid hs
  clear hc hv hs hR
  by_cases h100 : l.length ≤ 100
  · have h100' : ((l.length : Int) ≤ 100) := by omega
    have hlen : ∀ k, k ≤ l.length → (textF0 (l.take k)).length ≤ 3000000 := fun k _ => length_textF0_take l k h100 HS.out
    have HLEN := Lib.hid hlen
    clear hlen
    go_enter Try.func21, Try.ntmps21
    go_wp2
    go_loopw [4, 5] (fun o iv wr => ∃ k : Nat, iv = .int .i64 k ∧ k ≤ l.length ∧ o = .string (mk (textF0 (l.take k))) ∧ Below w.heap.size w wr ∧ Hid (l.all validF = (l.drop k).all validF)) (fun _ iv _ => l.length - (intOf iv).toNat)
    case atStart => exact ⟨0, rfl, by omega, rfl, Below.refl _ _, rfl⟩
    case round =>
      obtain ⟨k, rfl, hk, rfl, hnx, ha⟩ := hrel
      have hsize := hnx.size
      have htl := HLEN.out k hk
      by_cases hlt : k < l.length
      · obtain ⟨b, off, rfl, hb1, hcell⟩ := HC.out (by omega)
        obtain ⟨x0, x1⟩ := hcell k hlt
        have c0 := (hnx.cell (p := ⟨b, off + k * 2, none⟩) hb1).trans x0
        have c1 := (hnx.cell (p := ⟨b, off + k * 2 + 1, none⟩) hb1).trans x1
        have hsz := HS.out l[k] (List.getElem_mem hlt)
        have hno : validF l[k] = false → Hid (R = ([], 1)) := fun h => by
          have e := ha.out
          rw [valid_drop l k hlt, h] at e
          rw [HR.out, formatF_bad l (by omega) e]; rfl
        have hyes : validF l[k] = true → Hid (l.all validF = (l.drop (k + 1)).all validF) := fun h => by
          have e := ha.out
          rw [valid_drop l k hlt, h, Bool.true_and] at e
          exact e
        have hst := Lib.hid (textF0_take l k hlt)
        clear hcell x0 x1 ha
        obtain ⟨x, hx⟩ : ∃ x, x = l[k] := ⟨_, rfl⟩
        rw [← hx] at c0 c1 hsz hno hyes hst
        have HNO := Lib.hid hno
        have HYES := Lib.hid hyes
        clear hx hno hyes
        obtain ⟨n, z⟩ := x
        simp only at c0 c1 hsz
        obtain ⟨hsn, hsz⟩ := hsz
        have hzm : (mk n).size ≤ 10000 := by rw [size_mk]; exact hsn
        have hzz : (mk z).size ≤ 10000 := by rw [size_mk]; exact hsz
        have hjs : (mk (textF0 (l.take k))).size ≤ 3000000 := by rw [size_mk]; exact htl
        obtain ⟨J, hJ⟩ : ∃ J, J = textF0 (l.take k) := ⟨_, rfl⟩
        rw [← hJ] at hst htl hjs ⊢
        clear hJ
        have htk : Hid (∀ W : World, Calls Try.prog 36 #[.string (mk n)] W fun e w' => e = .returned (.bool (tokenS n)) ∧ W = w') := Lib.hid fun W => by
          have := r_isTokenS (mk n) W (by omega)
          rw [un_mk] at this
          exact this
        have hlo : Hid (∀ W : World, Calls Try.prog 31 #[.string (mk n)] W fun e w' => e = .returned (.string (mk (lower n))) ∧ Below W.heap.size W w') := Lib.hid fun W => by
          have := ref01_lower (mk n) W (by omega)
          rw [un_mk] at this
          exact this
        have hva : Hid (∀ W : World, Calls Try.prog 37 #[.string (mk z)] W fun e w' => e = .returned (.bool (z.all isTxt && decide (trim z = z))) ∧ W = w') := Lib.hid fun W => by
          have := r21_value (mk z) W (by omega)
          rw [un_mk] at this
          exact this
        cases hA : tokenS n
        · have hfin := HNO.out (by simp [validF, hA])
          rw [hA] at htk
          clear hA HNO HYES
          go_wp2_with fail
          have q0 : ∀ x : Later wr, x.1.cell? ⟨b, off + k * 2, none⟩ = some (.string (mk n)) := fun x => ((bcell x.2).1 b _ (by omega)).trans c0
          have q1 : ∀ x : Later wr, x.1.cell? ⟨b, off + k * 2 + 1, none⟩ = some (.string (mk z)) := fun x => ((bcell x.2).1 b _ (by omega)).trans c1
          clear c0 c1
          refine wp_region_later wr (by kernel_rfl) (by kernel_rfl) (Below.refl _ _) ?_
          repeat (go_big_quiet_step (first | (go_at_call 36; exact Calls.later_same (htk.out _)) | (go_at_call 31; exact Calls.later (hlo.out _)) | (go_at_call 37; exact Calls.later_same (hva.out _))))
          refine wpQuiet_nil ?_
          intro _ hw'
          obtain ⟨⟨w5, hb5⟩, rfl⟩ := hw'
          have B5 := hnx.trans (hb5.mono hnx.size)
          have z0 := q0 ⟨_, hb5⟩; have z1 := q1 ⟨_, hb5⟩
          simp only at z0 z1
          clear q0 q1
          all_goals
            go_wp2_with fail
            go_ret2
            exact ⟨_, by rw [hfin.out]; rfl, by rw [hfin.out]; exact Row.nil _ _, B5⟩
        · rw [hA] at htk
          by_cases hB : lower n = n
          · rw [hB] at hlo
            cases hC : (z.all isTxt && decide (trim z = z))
            · have hfin := HNO.out (by unfold validF; rw [Bool.and_assoc, hC, Bool.and_false])
              rw [hC] at hva
              clear hA hB hC HNO HYES
              go_wp2_with fail
              have q0 : ∀ x : Later wr, x.1.cell? ⟨b, off + k * 2, none⟩ = some (.string (mk n)) := fun x => ((bcell x.2).1 b _ (by omega)).trans c0
              have q1 : ∀ x : Later wr, x.1.cell? ⟨b, off + k * 2 + 1, none⟩ = some (.string (mk z)) := fun x => ((bcell x.2).1 b _ (by omega)).trans c1
              clear c0 c1
              refine wp_region_later wr (by kernel_rfl) (by kernel_rfl) (Below.refl _ _) ?_
              repeat (go_big_quiet_step (first | (go_at_call 36; exact Calls.later_same (htk.out _)) | (go_at_call 31; exact Calls.later (hlo.out _)) | (go_at_call 37; exact Calls.later_same (hva.out _))))
              refine wpQuiet_nil ?_
              intro _ hw'
              obtain ⟨⟨w5, hb5⟩, rfl⟩ := hw'
              have B5 := hnx.trans (hb5.mono hnx.size)
              have z0 := q0 ⟨_, hb5⟩; have z1 := q1 ⟨_, hb5⟩
              simp only at z0 z1
              clear q0 q1
              all_goals
                go_wp2_with fail
                go_ret2
                exact ⟨_, by rw [hfin.out]; rfl, by rw [hfin.out]; exact Row.nil _ _, B5⟩
            · rw [hC] at hva
              have hnext := HYES.out (by unfold validF; rw [Bool.and_assoc, hC]; simp [hA, hB])
              clear hA hB hC HNO HYES
              go_wp2_with fail
              have q0 : ∀ x : Later wr, x.1.cell? ⟨b, off + k * 2, none⟩ = some (.string (mk n)) := fun x => ((bcell x.2).1 b _ (by omega)).trans c0
              have q1 : ∀ x : Later wr, x.1.cell? ⟨b, off + k * 2 + 1, none⟩ = some (.string (mk z)) := fun x => ((bcell x.2).1 b _ (by omega)).trans c1
              clear c0 c1
              refine wp_region_later wr (by kernel_rfl) (by kernel_rfl) (Below.refl _ _) ?_
              repeat (go_big_quiet_step (first | (go_at_call 36; exact Calls.later_same (htk.out _)) | (go_at_call 31; exact Calls.later (hlo.out _)) | (go_at_call 37; exact Calls.later_same (hva.out _))))
              refine wpQuiet_nil ?_
              intro _ hw'
              obtain ⟨⟨w5, hb5⟩, rfl⟩ := hw'
              have B5 := hnx.trans (hb5.mono hnx.size)
              have z0 := q0 ⟨_, hb5⟩; have z1 := q1 ⟨_, hb5⟩
              simp only at z0 z1
              clear q0 q1
              have HF : Hid (∀ X : ByteArray, un X = J ++ fieldText (n, z) → Value.string X = .string (mk (textF0 (l.take (k + 1))))) := Lib.hid fun X hX => by rw [hst.out, ← hX, mk_un]
              go_wp2
              all_goals (try (go_region; go_wp2))
              all_goals
                go_roundw
                case rel => exact ⟨k + 1, by go_num, by omega, HF.out _ (by simp only [un_append, un_mk, fieldText]; simp [un]), by first | exact B5 | exact B5.drew | exact below_drewN B5 _, hnext⟩
                case measure => simp [intOf]; omega
          · have hfin := HNO.out (by simp [validF, hB])
            obtain ⟨m, hm2⟩ : ∃ m, m = lower n := ⟨_, rfl⟩
            rw [← hm2] at hB hlo
            have hz1 : ¬ (mk m).toList = (mk n).toList := by rw [toList_mk', toList_mk']; exact hB
            have b1 : ((mk m).toList == (mk n).toList) = false := by simpa using hz1
            have b2 : ((mk m).toList != (mk n).toList) = true := by simpa using hz1
            clear HNO HYES hA hB hm2
            go_wp2_with fail
            have q0 : ∀ x : Later wr, x.1.cell? ⟨b, off + k * 2, none⟩ = some (.string (mk n)) := fun x => ((bcell x.2).1 b _ (by omega)).trans c0
            have q1 : ∀ x : Later wr, x.1.cell? ⟨b, off + k * 2 + 1, none⟩ = some (.string (mk z)) := fun x => ((bcell x.2).1 b _ (by omega)).trans c1
            clear c0 c1
            refine wp_region_later wr (by kernel_rfl) (by kernel_rfl) (Below.refl _ _) ?_
            repeat (go_big_quiet_step (first | (go_at_call 36; exact Calls.later_same (htk.out _)) | (go_at_call 31; exact Calls.later (hlo.out _)) | (go_at_call 37; exact Calls.later_same (hva.out _))))
            refine wpQuiet_nil ?_
            intro _ hw'
            obtain ⟨⟨w5, hb5⟩, rfl⟩ := hw'
            have B5 := hnx.trans (hb5.mono hnx.size)
            have z0 := q0 ⟨_, hb5⟩; have z1 := q1 ⟨_, hb5⟩
            simp only at z0 z1
            clear q0 q1
            all_goals
              go_wp2_with fail
              go_ret2
              exact ⟨_, by rw [hfin.out]; rfl, by rw [hfin.out]; exact Row.nil _ _, B5⟩
      · obtain rfl : k = l.length := by omega
        have hall : Hid (l.all validF = true) := by
          have e1 := ha.out
          rw [List.drop_length] at e1
          exact e1
        rw [List.take_length] at htl ⊢
        have hl2 : (textF l).length = (textF0 l).length + 2 := by simp [textF]
        obtain ⟨X, hX⟩ : ∃ X, X = mk (textF0 l) := ⟨_, rfl⟩
        have hXl : X.size = (textF0 l).length := by rw [hX, size_mk]
        obtain ⟨Y, hY⟩ : ∃ Y, X ++ (⟨#[13, 10]⟩ : ByteArray) = Y := ⟨_, rfl⟩
        have hYu : Hid (un Y = textF l) := Lib.hid (by rw [← hY, hX, un_append, un_mk]; rfl)
        have hYl : Y.size = (textF l).length := by rw [← hY, ByteArray.size_append, size_crlf, hXl, hl2]
        have hXb : X.size ≤ 3000000 := by omega
        rw [← hX]
        clear hX
        clear ha HC HLEN HS
        by_cases hlong : 16384 < (textF l).length
        · have hlong' : ((16384 : Int) < (Y.size : Int)) := by omega
          have hfin : Hid (R = ([], 3)) := by rw [HR.out, formatF_long l (by omega) hall.out hlong]; rfl
          clear hlong hl2 hXl htl hYl
          go_wp2
          go_ret2
          exact ⟨_, by rw [hfin.out]; rfl, by rw [hfin.out]; exact Row.nil _ _, hnx⟩
        · have hlong' : ((Y.size : Int) ≤ 16384) := by omega
          have hfin : Hid (R = (textF l, 0)) := by rw [HR.out, formatF_ok l (by omega) hall.out hlong]; rfl
          have K := run_bytes_of_string (P := Try.prog) wr 9 22 5 Y Try.underlying9 Try.underlying22 Try.underlying5
          have HB := Lib.hid (byts_conv wr Y (textF l) hYu.out (by unfold maxLen; omega))
          have HB2 := Lib.hid (below_conv wr Y)
          clear hlong hl2 hXl htl hYl
          go_wp2
          go_ret2
          exact ⟨_, by rw [hfin.out]; rfl, by rw [hfin.out]; exact HB.out, hnx.trans (HB2.out.mono hnx.size)⟩
  · have h100' : ((100 : Int) < (l.length : Int)) := by omega
    have hfin : Hid (R = ([], 3)) := by rw [HR.out, formatF_many l (by omega)]; rfl
    clear HC HS HR
    go_enter Try.func21, Try.ntmps21
    go_wp2
    go_ret2
    exact ⟨_, by rw [hfin.out]; rfl, by rw [hfin.out]; exact Row.nil _ _, Below.refl _ _⟩
end Go.Proofs.Ytimfngfimnapoaa
