/- The walks of the text functions of the layer ascii (program and reference): each returns the plain function's answer; memory that existed is unchanged. Conditions: the strings' lengths are bounded. -/
import Derived.Test.YtblcgicgbindlaaDoorAsciiBytes
namespace Go.Proofs.YtblcgicgbindlaaDoor
open Go.RowKit Hs
set_option linter.unusedSimpArgs false
set_option linter.unusedVariables false

theorem infoByte : (Tryd.prog.info? 5).map (fun i => (i.zero, i.size, i.bytes)) = some (some (.int .u8 0), 1, 1) := by kernel_rfl
theorem infoStr : (Tryd.prog.info? 9).map (fun i => (i.zero, i.size, i.bytes)) = some (some (.string ByteArray.empty), 1, 16) := by kernel_rfl

theorem lower_step (s : ByteArray) (k : Nat) (hk : k < s.size) (x : Int) (hx : (65 ≤ (s[k].toNat : Int) ∧ (s[k].toNat : Int) ≤ 90 ∧ x = (s[k].toNat : Int) + 32) ∨ (¬ (65 ≤ (s[k].toNat : Int) ∧ (s[k].toNat : Int) ≤ 90) ∧ x = (s[k].toNat : Int))) :
    bcells (lower ((un s).take k)) ++ [.int .u8 x] = bcells (lower ((un s).take (k + 1))) := by
  have e : x = ((lowB s[k]).toNat : Int) := by
    have h : (s[k] + 32).toNat = (s[k].toNat + 32) % 256 := UInt8.toNat_add s[k] 32
    rcases hx with ⟨h1, h2, rfl⟩ | ⟨h1, rfl⟩
    · have e : lowB s[k] = s[k] + 32 := by unfold lowB isUpper; rw [if_pos (by rw [decide_eq_true_eq]; omega)]
      rw [e, h]; omega
    · have e : lowB s[k] = s[k] := by unfold lowB isUpper; rw [if_neg (by rw [decide_eq_true_eq]; omega)]
      rw [e]
  subst e
  rw [lower_snoc (un s) k (by simpa using hk), bcells_append]
  rfl
theorem len_take_un (s : ByteArray) (k : Nat) (hk : k ≤ s.size) : (lower ((un s).take k)).length = k := by simp; omega



set_option maxHeartbeats 800000 in
theorem ref01_lower (s : ByteArray) (w : World) (hs : s.size ≤ 100000000) : Calls Tryd.prog 40 #[.string s] w fun e w' => e = .returned (.string (mk (lower (un s)))) ∧ Below w.heap.size w w' := by
  obtain ⟨iB0, iB⟩ := info_parts infoByte
  go_enter Tryd.func40, Tryd.ntmps40
  go_wp2
  go_loopw [3, 4] (fun v i wr => ∃ k : Nat, k ≤ s.size ∧ i = .int .i64 k ∧ wr.ownsRow w.heap.size 5 1 v k (bcells (lower ((un s).take k))) ∧ Below w.heap.size w wr)
    (fun _ i _ => s.size - (intOf i).toNat)
  case atStart => exact ⟨0, Nat.zero_le _, rfl, World.ownsRow_nil _ _ _ _, Below.refl _ _⟩
  case round =>
    obtain ⟨k, hk, rfl, hown, hnx⟩ := hrel
    have hsize := hnx.size
    by_cases hlt : k < s.size
    · go_wp2_with (at_builtin; refine wpList_append_own _ rfl (.tmp 23) (.tmp 25) 58 rfl (w.heap.size) 5 iB0 (.int .u8 0) 1 1 Tryd.underlying58 iB.1 iB.2.1 iB.2.2.1 iB.2.2.2 rfl (by decide) _ _ _ rfl (hown.alloc _) ⟨wr.heap.size, 0, none⟩ 1 1 [_] rfl rfl (cell_one_new _ _ _) (by intro u hu; simp at hu; subst hu; rfl) (by unfold maxLen; omega) (by omega) (by simp; omega) ?_; intro v1 w1 hown1 hgrow1 hnil1)
      all_goals
        go_roundw
        case rel =>
          refine ⟨k + 1, by omega, by go_num, ?_, (hnx.alloc (by omega) _).grown hgrow1 (by simp; omega) (fun j hj => (hown.lt j hj).1)⟩
          have e := hown1
          rw [lower_step s k hlt] at e
          · exact e
          · omega
        case measure => simp [intOf]; omega
    · obtain rfl : k = s.size := by omega
      rw [List.take_of_length_le (by simp)] at hown
      have hcv := string_of_row (P := Tryd.prog) (Row.owned hown) (src := 58) (dst := 9) Tryd.underlying58 Tryd.underlying5 Tryd.underlying9
      go_wp2
      go_ret
      exact ⟨rfl, hnx⟩




end Go.Proofs.YtblcgicgbindlaaDoor
