/- The walk of Split of hstsstoreref01: the parts between the bytes. Conditions: the string is of bounded length. -/
import Derived.Test.YtblcgicgbindlaaDoorAsciiWords
import Derived.Test.YtblcgicgbindlaaDoorPlainSplitTo
namespace Go.Proofs.YtblcgicgbindlaaDoor
open Go.RowKit Hs
set_option linter.unusedSimpArgs false
set_option linter.unusedVariables false

set_option maxHeartbeats 1500000 in
theorem ref01_split (s : ByteArray) (c : UInt8) (w : World) (hs : s.size ≤ 100000000) : Calls Tryd.prog 32 #[.string s, .int .u8 (c.toNat : Int)] w fun e w' => ∃ v, e = .returned v ∧ w'.ownsRow w.heap.size 9 1 v (splitD c (un s)).length (scells (splitD c (un s))) ∧ Below w.heap.size w w' := by
  obtain ⟨iS0, iS⟩ := info_parts infoStr
  go_enter Tryd.func32, Tryd.ntmps32
  go_wp2
  go_loopw [5, 6, 7] (fun v f i wr => ∃ (k fr : Nat) (D : List Bs), i = .int .i64 k ∧ f = .int .i64 fr ∧ fr ≤ k ∧ k ≤ s.size + 1 ∧ D.length ≤ k ∧ wr.ownsRow w.heap.size 9 1 v D.length (scells D) ∧ Below w.heap.size w wr ∧ Hid (SplitTo c (un s) D fr k))
    (fun _ _ i _ => s.size + 1 - (intOf i).toNat)
  case atStart => exact ⟨0, 0, [], rfl, rfl, by omega, by omega, by simp, World.ownsRow_nil _ _ _ _, Below.refl _ _, SplitTo.start _ _⟩
  case round =>
    obtain ⟨k, fr, D, rfl, rfl, hfk, hk, hD, hown, hnx, hwt⟩ := hrel
    have hsize := hnx.size
    by_cases hlt : k < s.size
    · have hne : ((k : Int) == (s.size : Int)) = false := by simp; omega
      by_cases hb : (s[k]'hlt) = c
      · have hb' : (un s)[k]'(by rw [length_un]; omega) = c := hb
        have hb1 : (((s[k]'hlt).toNat : Int) == (c.toNat : Int)) = true := by rw [hb]; simp
        have hcut := Lib.hid (hwt.out.cut hfk (by rw [length_un]; omega) hb')
        clear hwt hb' hb
        have ex := Lib.hid (extract_seg s fr k)
        go_wp2_with (first | (at_builtin; refine wpList_append_own _ rfl (.tmp 25) (.tmp 30) 50 rfl (w.heap.size) 9 iS0 (.string ByteArray.empty) 1 16 Tryd.underlying50 iS.1 iS.2.1 iS.2.2.1 iS.2.2.2 rfl (by decide) _ _ _ rfl (hown.alloc _) ⟨wr.heap.size, 0, none⟩ 1 1 [_] rfl rfl (cell_one_new _ _ _) (by intro u hu; simp at hu; subst hu; rfl) (by unfold maxLen; omega) (by omega) (by simp; omega) ?_; intro v1 w1 hown1 hgrow1 hnil1))
        go_roundw
        case rel =>
          refine ⟨k + 1, k + 1, D ++ [seg (un s) fr k], by go_num, by go_num, by omega, by omega, by simp; omega, ?_, (hnx.alloc (by omega) _).grown hgrow1 (by simp; omega) (fun j hj => (hown.lt j hj).1), hcut⟩
          have e := hown1
          rw [ex.out] at e
          rw [scells_append, List.length_append]
          exact e
        case measure => simp [intOf]; omega
      · have hb' : (un s)[k]'(by rw [length_un]; omega) ≠ c := hb
        have hb1 : (((s[k]'hlt).toNat : Int) == (c.toNat : Int)) = false := by
          rw [beq_eq_false_iff_ne]
          exact fun e => hb (UInt8.toNat_inj.1 (by omega))
        have hch := Lib.hid (hwt.out.char hfk (by rw [length_un]; omega) hb')
        clear hwt hb' hb
        go_wp2
        go_roundw
        case rel => exact ⟨k + 1, fr, D, by go_num, rfl, by omega, by omega, by omega, hown, hnx, hch⟩
        case measure => simp [intOf]; omega
    · by_cases he : k = s.size
      · have hne : ((k : Int) == (s.size : Int)) = true := by simp; omega
        have hle : (k : Int) ≤ (s.size : Int) := by omega
        have hfin := Lib.hid (hwt.out.fin hfk (by rw [length_un]; exact he))
        have ex := Lib.hid (extract_seg s fr k)
        have HE := Lib.hid he
        clear hwt he
        go_wp2_with (first | (at_builtin; refine wpList_append_own _ rfl (.tmp 25) (.tmp 30) 50 rfl (w.heap.size) 9 iS0 (.string ByteArray.empty) 1 16 Tryd.underlying50 iS.1 iS.2.1 iS.2.2.1 iS.2.2.2 rfl (by decide) _ _ _ rfl (hown.alloc _) ⟨wr.heap.size, 0, none⟩ 1 1 [_] rfl rfl (cell_one_new _ _ _) (by intro u hu; simp at hu; subst hu; rfl) (by unfold maxLen; omega) (by omega) (by simp; omega) ?_; intro v1 w1 hown1 hgrow1 hnil1))
        go_roundw
        case rel =>
          refine ⟨k + 1, k + 1, D ++ [seg (un s) fr k], by go_num, by go_num, by omega, by omega, by simp; omega, ?_, (hnx.alloc (by omega) _).grown hgrow1 (by simp; omega) (fun j hj => (hown.lt j hj).1), hfin⟩
          have e := hown1
          rw [ex.out] at e
          rw [scells_append, List.length_append]
          exact e
        case measure => simp [intOf]; omega
      · obtain rfl : k = s.size + 1 := by omega
        have hfin : Hid (D = splitD c (un s)) := hwt.out.2 (by rw [length_un])
        clear hwt he
        go_wp2
        go_ret
        have e := hfin.out
        subst e
        exact ⟨_, rfl, hown, hnx⟩
end Go.Proofs.YtblcgicgbindlaaDoor
