/- The walks of the text functions of the layer ascii (program and reference): each returns the plain function's answer; memory that existed is unchanged. Conditions: the strings' lengths are bounded. -/
import Derived.Test.YtimfngfimnapoaaAsciiBytes
namespace Go.Proofs.Ytimfngfimnapoaa
open Go.RowKit Hs
set_option linter.unusedSimpArgs false
set_option linter.unusedVariables false

theorem infoByte : (Try.prog.info? 5).map (fun i => (i.zero, i.size, i.bytes)) = some (some (.int .u8 0), 1, 1) := by kernel_rfl
theorem infoStr : (Try.prog.info? 9).map (fun i => (i.zero, i.size, i.bytes)) = some (some (.string ByteArray.empty), 1, 16) := by kernel_rfl

theorem lower_step (s : ByteArray) (k : Nat) (hk : k < s.size) (x : Int) (hx : (65 ≤ (s[k].toNat : Int) ∧ (s[k].toNat : Int) ≤ 90 ∧ x = (s[k].toNat : Int) + 32) ∨ (¬ (65 ≤ (s[k].toNat : Int) ∧ (s[k].toNat : Int) ≤ 90) ∧ x = (s[k].toNat : Int))) :
    bcells (lower ((un s).take k)) ++ [.int .u8 x] = bcells (lower ((un s).take (k + 1))) := by
  have e : x = ((lowB s[k]).toNat : Int) := by
    have h : (s[k] + 32).toNat = (s[k].toNat + 32) % 256 := UInt8.toNat_add s[k] 32
    rcases hx with ⟨h1, h2, rfl⟩ | ⟨h1, rfl⟩
    · have e : lowB s[k] = s[k] + 32 := by unfold lowB isUpper; rw [if_pos (by rw [decide_eq_true_eq]; omega)]
      rw [e, h]; omega
    · have e : lowB s[k] = s[k] := by unfold lowB isUpper; rw [if_neg (by rw [decide_eq_true_eq]; omega)]
      rw [e]
  subst e
  rw [lower_snoc (un s) k (by simpa using hk), bcells_append]
  rfl
theorem len_take_un (s : ByteArray) (k : Nat) (hk : k ≤ s.size) : (lower ((un s).take k)).length = k := by simp; omega


set_option maxHeartbeats 800000 in
theorem ascii_lower (s : ByteArray) (w : World) (hs : s.size ≤ 100000000) : Calls Try.prog 26 #[.string s] w fun e w' => e = .returned (.string (mk (lower (un s)))) ∧ Below w.heap.size w w' := by
  obtain ⟨iB0, iB⟩ := info_parts infoByte
  go_enter Try.func26, Try.ntmps26
  go_wp2_with (at_make; refine wpList_make_own _ rfl _ _ 22 rfl w.heap.size 5 iB0 (.int .u8 0) 1 Try.underlying22 iB.1 iB.2.1 iB.2.2.1 .i64 .i64 _ s.size rfl rfl (by omega) (by rw [iB.2.2.2]; omega) (by unfold maxLen; omega) (Nat.le_refl _) ?_; intro w0 hown0 hgrow0)
  go_loopw [3, 11] (fun v i wr => ∃ k : Nat, k ≤ s.size ∧ i = .int .i64 k ∧ wr.ownsRow w.heap.size 5 1 v k (bcells (lower ((un s).take k))) ∧ Below w.heap.size w wr)
    (fun _ i _ => s.size - (intOf i).toNat)
  case atStart => exact ⟨0, Nat.zero_le _, rfl, hown0, (Below.refl _ _).grown hgrow0 (Nat.le_refl _) (fun k h => by cases h)⟩
  case round =>
    obtain ⟨k, hk, rfl, hown, hnx⟩ := hrel
    have hsize := hnx.size
    by_cases hlt : k < s.size
    · go_wp2_with (at_builtin; refine wpList_append_own _ rfl (.tmp 25) (.tmp 27) 22 rfl (w.heap.size) 5 iB0 (.int .u8 0) 1 1 Try.underlying22 iB.1 iB.2.1 iB.2.2.1 iB.2.2.2 rfl (by decide) _ _ _ rfl (hown.alloc _) ⟨wr.heap.size, 0, none⟩ 1 1 [_] rfl rfl (cell_one_new _ _ _) (by intro u hu; simp at hu; subst hu; rfl) (by unfold maxLen; omega) (by omega) (by simp; omega) ?_; intro v1 w1 hown1 hgrow1 hnil1)
      all_goals
        go_roundw
        case rel =>
          refine ⟨k + 1, by omega, by go_num, ?_, (hnx.alloc (by omega) _).grown hgrow1 (by simp; omega) (fun j hj => (hown.lt j hj).1)⟩
          have e := hown1
          rw [lower_step s k hlt] at e
          · exact e
          · omega
        case measure => simp [intOf]; omega
    · obtain rfl : k = s.size := by omega
      rw [List.take_of_length_le (by simp)] at hown
      have hcv := string_of_row (P := Try.prog) (Row.owned hown) (src := 22) (dst := 9) Try.underlying22 Try.underlying5 Try.underlying9
      go_wp2
      go_ret
      exact ⟨rfl, hnx⟩

set_option maxHeartbeats 800000 in
theorem ref01_lower (s : ByteArray) (w : World) (hs : s.size ≤ 100000000) : Calls Try.prog 31 #[.string s] w fun e w' => e = .returned (.string (mk (lower (un s)))) ∧ Below w.heap.size w w' := by
  obtain ⟨iB0, iB⟩ := info_parts infoByte
  go_enter Try.func31, Try.ntmps31
  go_wp2
  go_loopw [3, 4] (fun v i wr => ∃ k : Nat, k ≤ s.size ∧ i = .int .i64 k ∧ wr.ownsRow w.heap.size 5 1 v k (bcells (lower ((un s).take k))) ∧ Below w.heap.size w wr)
    (fun _ i _ => s.size - (intOf i).toNat)
  case atStart => exact ⟨0, Nat.zero_le _, rfl, World.ownsRow_nil _ _ _ _, Below.refl _ _⟩
  case round =>
    obtain ⟨k, hk, rfl, hown, hnx⟩ := hrel
    have hsize := hnx.size
    by_cases hlt : k < s.size
    · go_wp2_with (at_builtin; refine wpList_append_own _ rfl (.tmp 23) (.tmp 25) 22 rfl (w.heap.size) 5 iB0 (.int .u8 0) 1 1 Try.underlying22 iB.1 iB.2.1 iB.2.2.1 iB.2.2.2 rfl (by decide) _ _ _ rfl (hown.alloc _) ⟨wr.heap.size, 0, none⟩ 1 1 [_] rfl rfl (cell_one_new _ _ _) (by intro u hu; simp at hu; subst hu; rfl) (by unfold maxLen; omega) (by omega) (by simp; omega) ?_; intro v1 w1 hown1 hgrow1 hnil1)
      all_goals
        go_roundw
        case rel =>
          refine ⟨k + 1, by omega, by go_num, ?_, (hnx.alloc (by omega) _).grown hgrow1 (by simp; omega) (fun j hj => (hown.lt j hj).1)⟩
          have e := hown1
          rw [lower_step s k hlt] at e
          · exact e
          · omega
        case measure => simp [intOf]; omega
    · obtain rfl : k = s.size := by omega
      rw [List.take_of_length_le (by simp)] at hown
      have hcv := string_of_row (P := Try.prog) (Row.owned hown) (src := 22) (dst := 9) Try.underlying22 Try.underlying5 Try.underlying9
      go_wp2
      go_ret
      exact ⟨rfl, hnx⟩

theorem ascii_equalFold (a b : ByteArray) (w : World) (ha : a.size ≤ 100000000) (hb : b.size ≤ 100000000) : Calls Try.prog 47 #[.string a, .string b] w fun e w' => e = .returned (.bool (lower (un a) == lower (un b))) ∧ Below w.heap.size w w' := by
  go_enter Try.func47, Try.ntmps47
  go_wp2_with fail
  refine (ascii_lower a _ ha).mono ?_; rintro e w1 ⟨rfl, hb1⟩
  go_wp2_with fail
  refine (ascii_lower b _ hb).mono ?_; rintro e w2 ⟨rfl, hb2⟩
  go_wp2_with fail
  go_ret
  exact ⟨ret_bool (by simp [toList_un]), hb1.trans (hb2.mono hb1.size)⟩

theorem ref01_equalFold (a b : ByteArray) (w : World) (ha : a.size ≤ 100000000) (hb : b.size ≤ 100000000) : Calls Try.prog 35 #[.string a, .string b] w fun e w' => e = .returned (.bool (lower (un a) == lower (un b))) ∧ Below w.heap.size w w' := by
  go_enter Try.func35, Try.ntmps35
  go_wp2_with fail
  refine (ref01_lower a _ ha).mono ?_; rintro e w1 ⟨rfl, hb1⟩
  go_wp2_with fail
  refine (ref01_lower b _ hb).mono ?_; rintro e w2 ⟨rfl, hb2⟩
  go_wp2_with fail
  go_ret
  exact ⟨ret_bool (by simp [toList_un]), hb1.trans (hb2.mono hb1.size)⟩

set_option maxHeartbeats 1000000 in
theorem ascii_trim (s : ByteArray) (w : World) (hs : s.size ≤ 100000000) : Calls Try.prog 27 #[.string s] w fun e w' => e = .returned (.string (mk (trim (un s)))) ∧ w = w' := by
  go_enter Try.func27, Try.ntmps27
  go_wp2
  go_loop [0] (fun v => ∃ t : ByteArray, v = .string t ∧ t.size ≤ s.size ∧ Hid (trimL (un t) = trimL (un s))) (fun v => strLen v)
  case atStart => exact ⟨s, rfl, Nat.le_refl _, rfl⟩
  case round =>
    obtain ⟨t, rfl, hts, ht⟩ := hrel
    by_cases h0 : 0 < t.size
    · have h0' : 0 < (un t).length := by simpa using h0
      cases hb : isBlank (t[0]'h0)
      · have hn := Lib.hid (trimL_not (un t) h0' hb)
        go_wp2_with (go_at_call 42; refine (ascii_isBlank _ _ rfl _).mono ?_; rintro e w' ⟨rfl, rfl⟩)
        have hstart : Hid (trimR (un t) = trim (un s)) := by
          have e1 := ht.out
          have e2 := hn.out
          show trimR (un t) = trimR (trimL (un s))
          rw [← e1, e2]
        clear hb ht hn
        go_loop [0] (fun v => ∃ u : ByteArray, v = .string u ∧ u.size ≤ s.size ∧ Hid (trimR (un u) = trim (un s))) (fun v => strLen v)
        case atStart => exact ⟨t, rfl, hts, hstart⟩
        case round =>
          obtain ⟨u, rfl, hus, hu⟩ := hrel
          by_cases h1 : 0 < u.size
          · have h1' : 0 < (un u).length := by simpa using h1
            have hlast : (un u)[(un u).length - 1]'(by omega) = u[u.size - 1]'(by omega) := by simp only [length_un]; rfl
            cases hc : isBlank (u[u.size - 1]'(by omega))
            · have hn := Lib.hid (trimR_not (un u) h1' (by rw [hlast]; exact hc))
              clear hlast
              go_wp2_with (go_at_call 42; refine (ascii_isBlank _ _ rfl _).mono ?_; rintro e w' ⟨rfl, rfl⟩)
              go_ret
              exact ⟨ret_str (by rw [un_mk, ← hu.out, hn.out]), rfl⟩
            · have hn := Lib.hid (trimR_blank (un u) h1' (by rw [hlast]; exact hc))
              clear hlast
              go_wp2_with (go_at_call 42; refine (ascii_isBlank _ _ rfl _).mono ?_; rintro e w' ⟨rfl, rfl⟩)
              go_round
              case rel => exact ⟨_, rfl, by rw [ByteArray.size_extract]; omega, by rw [extract_seg, un_mk, seg_zero, ← hu.out, hn.out, length_un]; rfl⟩
              case measure => simp only [strLen, ByteArray.size_extract]; omega
          · go_wp2
            go_ret
            have hz : un u = [] := List.eq_nil_of_length_eq_zero (by rw [length_un]; omega)
            exact ⟨ret_str (by rw [un_mk, ← hu.out, hz]; rfl), rfl⟩
      · have hn := Lib.hid (trimL_blank (un t) h0' hb)
        go_wp2_with (go_at_call 42; refine (ascii_isBlank _ _ rfl _).mono ?_; rintro e w' ⟨rfl, rfl⟩)
        go_round
        case rel => exact ⟨_, rfl, by rw [ByteArray.size_extract]; omega, by rw [extract_seg, un_mk, ← length_un, seg_full, ← ht.out, hn.out]; rfl⟩
        case measure => simp only [strLen, ByteArray.size_extract]; omega
    · have hz : un t = [] := List.eq_nil_of_length_eq_zero (by rw [length_un]; omega)
      have hstart : Hid (trimR (un t) = trim (un s)) := by
        have e1 := ht.out
        show trimR (un t) = trimR (trimL (un s))
        rw [← e1, hz]; rfl
      clear hz ht
      go_wp2
      go_loop [0] (fun v => ∃ u : ByteArray, v = .string u ∧ u.size ≤ s.size ∧ Hid (trimR (un u) = trim (un s))) (fun v => strLen v)
      case atStart => exact ⟨t, rfl, hts, hstart⟩
      case round =>
        obtain ⟨u, rfl, hus, hu⟩ := hrel
        by_cases h1 : 0 < u.size
        · have h1' : 0 < (un u).length := by simpa using h1
          have hlast : (un u)[(un u).length - 1]'(by omega) = u[u.size - 1]'(by omega) := by simp only [length_un]; rfl
          cases hc : isBlank (u[u.size - 1]'(by omega))
          · have hn := Lib.hid (trimR_not (un u) h1' (by rw [hlast]; exact hc))
            clear hlast
            go_wp2_with (go_at_call 42; refine (ascii_isBlank _ _ rfl _).mono ?_; rintro e w' ⟨rfl, rfl⟩)
            go_ret
            exact ⟨ret_str (by rw [un_mk, ← hu.out, hn.out]), rfl⟩
          · have hn := Lib.hid (trimR_blank (un u) h1' (by rw [hlast]; exact hc))
            clear hlast
            go_wp2_with (go_at_call 42; refine (ascii_isBlank _ _ rfl _).mono ?_; rintro e w' ⟨rfl, rfl⟩)
            go_round
            case rel => exact ⟨_, rfl, by rw [ByteArray.size_extract]; omega, by rw [extract_seg, un_mk, seg_zero, ← hu.out, hn.out, length_un]; rfl⟩
            case measure => simp only [strLen, ByteArray.size_extract]; omega
        · go_wp2
          go_ret
          have hz : un u = [] := List.eq_nil_of_length_eq_zero (by rw [length_un]; omega)
          exact ⟨ret_str (by rw [un_mk, ← hu.out, hz]; rfl), rfl⟩

set_option maxHeartbeats 1000000 in
theorem ref01_trim (s : ByteArray) (w : World) (hs : s.size ≤ 100000000) : Calls Try.prog 32 #[.string s] w fun e w' => e = .returned (.string (mk (trim (un s)))) ∧ w = w' := by
  go_enter Try.func32, Try.ntmps32
  go_wp2
  go_loop [0] (fun v => ∃ t : ByteArray, v = .string t ∧ t.size ≤ s.size ∧ Hid (trimL (un t) = trimL (un s))) (fun v => strLen v)
  case atStart => exact ⟨s, rfl, Nat.le_refl _, rfl⟩
  case round =>
    obtain ⟨t, rfl, hts, ht⟩ := hrel
    by_cases h0 : 0 < t.size
    · have h0' : 0 < (un t).length := by simpa using h0
      cases hb : isBlank (t[0]'h0)
      · have hn := Lib.hid (trimL_not (un t) h0' hb)
        go_wp2_with (go_at_call 45; refine (ref01_isBlank _ _ rfl _).mono ?_; rintro e w' ⟨rfl, rfl⟩)
        have hstart : Hid (trimR (un t) = trim (un s)) := by
          have e1 := ht.out
          have e2 := hn.out
          show trimR (un t) = trimR (trimL (un s))
          rw [← e1, e2]
        clear hb ht hn
        go_loop [0] (fun v => ∃ u : ByteArray, v = .string u ∧ u.size ≤ s.size ∧ Hid (trimR (un u) = trim (un s))) (fun v => strLen v)
        case atStart => exact ⟨t, rfl, hts, hstart⟩
        case round =>
          obtain ⟨u, rfl, hus, hu⟩ := hrel
          by_cases h1 : 0 < u.size
          · have h1' : 0 < (un u).length := by simpa using h1
            have hlast : (un u)[(un u).length - 1]'(by omega) = u[u.size - 1]'(by omega) := by simp only [length_un]; rfl
            cases hc : isBlank (u[u.size - 1]'(by omega))
            · have hn := Lib.hid (trimR_not (un u) h1' (by rw [hlast]; exact hc))
              clear hlast
              go_wp2_with (go_at_call 45; refine (ref01_isBlank _ _ rfl _).mono ?_; rintro e w' ⟨rfl, rfl⟩)
              go_ret
              exact ⟨ret_str (by rw [un_mk, ← hu.out, hn.out]), rfl⟩
            · have hn := Lib.hid (trimR_blank (un u) h1' (by rw [hlast]; exact hc))
              clear hlast
              go_wp2_with (go_at_call 45; refine (ref01_isBlank _ _ rfl _).mono ?_; rintro e w' ⟨rfl, rfl⟩)
              go_round
              case rel => exact ⟨_, rfl, by rw [ByteArray.size_extract]; omega, by rw [extract_seg, un_mk, seg_zero, ← hu.out, hn.out, length_un]; rfl⟩
              case measure => simp only [strLen, ByteArray.size_extract]; omega
          · go_wp2
            go_ret
            have hz : un u = [] := List.eq_nil_of_length_eq_zero (by rw [length_un]; omega)
            exact ⟨ret_str (by rw [un_mk, ← hu.out, hz]; rfl), rfl⟩
      · have hn := Lib.hid (trimL_blank (un t) h0' hb)
        go_wp2_with (go_at_call 45; refine (ref01_isBlank _ _ rfl _).mono ?_; rintro e w' ⟨rfl, rfl⟩)
        go_round
        case rel => exact ⟨_, rfl, by rw [ByteArray.size_extract]; omega, by rw [extract_seg, un_mk, ← length_un, seg_full, ← ht.out, hn.out]; rfl⟩
        case measure => simp only [strLen, ByteArray.size_extract]; omega
    · have hz : un t = [] := List.eq_nil_of_length_eq_zero (by rw [length_un]; omega)
      have hstart : Hid (trimR (un t) = trim (un s)) := by
        have e1 := ht.out
        show trimR (un t) = trimR (trimL (un s))
        rw [← e1, hz]; rfl
      clear hz ht
      go_wp2
      go_loop [0] (fun v => ∃ u : ByteArray, v = .string u ∧ u.size ≤ s.size ∧ Hid (trimR (un u) = trim (un s))) (fun v => strLen v)
      case atStart => exact ⟨t, rfl, hts, hstart⟩
      case round =>
        obtain ⟨u, rfl, hus, hu⟩ := hrel
        by_cases h1 : 0 < u.size
        · have h1' : 0 < (un u).length := by simpa using h1
          have hlast : (un u)[(un u).length - 1]'(by omega) = u[u.size - 1]'(by omega) := by simp only [length_un]; rfl
          cases hc : isBlank (u[u.size - 1]'(by omega))
          · have hn := Lib.hid (trimR_not (un u) h1' (by rw [hlast]; exact hc))
            clear hlast
            go_wp2_with (go_at_call 45; refine (ref01_isBlank _ _ rfl _).mono ?_; rintro e w' ⟨rfl, rfl⟩)
            go_ret
            exact ⟨ret_str (by rw [un_mk, ← hu.out, hn.out]), rfl⟩
          · have hn := Lib.hid (trimR_blank (un u) h1' (by rw [hlast]; exact hc))
            clear hlast
            go_wp2_with (go_at_call 45; refine (ref01_isBlank _ _ rfl _).mono ?_; rintro e w' ⟨rfl, rfl⟩)
            go_round
            case rel => exact ⟨_, rfl, by rw [ByteArray.size_extract]; omega, by rw [extract_seg, un_mk, seg_zero, ← hu.out, hn.out, length_un]; rfl⟩
            case measure => simp only [strLen, ByteArray.size_extract]; omega
        · go_wp2
          go_ret
          have hz : un u = [] := List.eq_nil_of_length_eq_zero (by rw [length_un]; omega)
          exact ⟨ret_str (by rw [un_mk, ← hu.out, hz]; rfl), rfl⟩
end Go.Proofs.Ytimfngfimnapoaa
