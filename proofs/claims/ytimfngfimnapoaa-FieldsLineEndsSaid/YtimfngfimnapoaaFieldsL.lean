/- The lines of a header section: the closure of fields.lines as an iterator that keeps its state in a cell. Conditions: the block's length is bounded; internal/bytealg.MaxLen holds some number. -/
import Derived.Test.YtimfngfimnapoaaRange
import Derived.Test.YtimfngfimnapoaaKit
import Derived.Test.YtimfngfimnapoaaPlainFields
import Derived.Test.YtimfngfimnapoaaShelf
import Derived.Shelf.Vars
import Derived.Shelf.Abstract
import Derived.Shelf.RegionOpen
import Derived.WalkKit
import Derived.OwnWalkIn
import Derived.TacticsInMore
import Derived.LoopNIn
import Derived.LoopIn
namespace Go.Proofs.Ytimfngfimnapoaa
open Go.RowKit Go.Shelf Hs
set_option linter.unusedSimpArgs false
set_option linter.unusedVariables false

attribute [local go_sem] Oper.semAt_some

/-- internal/bytealg.MaxLen holds some number. -/
def MaxOk (w : World) : Prop := ∃ m, w.cell? ⟨0, 0, none⟩ = some (.int .i64 m)
theorem MaxOk.below {w w' : World} {n : Nat} (h : MaxOk w) (hb : Below n w w') (hn : 0 < n) : MaxOk w' :=
  h.elim fun m hm => ⟨m, (hb.cell (p := ⟨0, 0, none⟩) hn).trans hm⟩
theorem MaxOk.lt {w : World} (h : MaxOk w) : 0 < w.heap.size := h.elim fun m hm => World.block_lt_of_cell? w _ hm

theorem maxOk_of_shaped {w : World} (h : w.ShapedOpen Try.prog) : MaxOk w :=
  Go.Proofs.cell_of_shapedOpen_int (zero := #[.int .i64 0]) (t := 3) h (of_decide_eq_true (by kernel_rfl)) (by kernel_rfl) rfl (by kernel_rfl) (by kernel_rfl) Try.underlying3
theorem cut_yes (s : ByteArray) (a r : Bs) (c : UInt8) (w : World) (hm : MaxOk w) (hs : s.size ≤ 100000000) (h : un s = a ++ c :: r) (hc : c ∉ a) :
    Calls Try.prog 23 #[.string s, .string ⟨#[c]⟩] w fun e w' => e = .returned (.tuple #[.string (mk a), .string (mk r), .bool true]) ∧ Below w.heap.size w w' := by
  obtain ⟨m, hm⟩ := hm
  refine (Try.strings_Cut s ⟨#[c]⟩ m w (by omega) hm).mono ?_
  rintro e w' ⟨rfl, n, rfl⟩
  have e1 : s.data.toList = a ++ c :: r := h
  refine ⟨?_, below_drewN (Below.refl _ w) n⟩
  rw [e1]
  show Ending.returned (.tuple #[.string ⟨(Lib.cut (a ++ c :: r) [c]).1.toArray⟩, .string ⟨(Lib.cut (a ++ c :: r) [c]).2.1.toArray⟩, .bool (Lib.cut (a ++ c :: r) [c]).2.2]) = _
  rw [cut_one_yes a r c hc]
  rfl
theorem cut_no (s : ByteArray) (c : UInt8) (w : World) (hm : MaxOk w) (hs : s.size ≤ 100000000) (hc : c ∉ un s) :
    Calls Try.prog 23 #[.string s, .string ⟨#[c]⟩] w fun e w' => e = .returned (.tuple #[.string s, .string ⟨#[]⟩, .bool false]) ∧ Below w.heap.size w w' := by
  obtain ⟨m, hm⟩ := hm
  refine (Try.strings_Cut s ⟨#[c]⟩ m w (by omega) hm).mono ?_
  rintro e w' ⟨rfl, n, rfl⟩
  refine ⟨?_, below_drewN (Below.refl _ w) n⟩
  show Ending.returned (.tuple #[.string ⟨(Lib.cut (un s) [c]).1.toArray⟩, .string ⟨(Lib.cut (un s) [c]).2.1.toArray⟩, .bool (Lib.cut (un s) [c]).2.2]) = _
  rw [cut_one_no (un s) c hc]
  show Ending.returned (.tuple #[.string (mk (un s)), _, _]) = _
  rw [mk_un]
theorem trim_cr (l : Bs) (w : World) (hs : l.length ≤ 100000000) : Calls Try.prog 39 #[.string (mk l), .string ⟨#[13]⟩] w fun e w' => e = .returned (.string (mk (stripCR l))) ∧ w = w' := by
  refine (Try.strings_TrimSuffix (mk l) ⟨#[13]⟩ w (by rw [size_mk]; omega)).mono ?_
  rintro e w' ⟨rfl, rfl⟩
  refine ⟨?_, rfl⟩
  show Ending.returned (.string ⟨(Lib.trimSuffix (un (mk l)) [13]).toArray⟩) = _
  rw [un_mk, trimSuffix_cr]
  rfl

set_option maxHeartbeats 1000000 in
theorem f_lines (s : ByteArray) (w : World) : Calls Try.prog 22 #[.string s] w fun e w' => e = .returned (.func (.func 38) #[] #[.pointer (some ⟨w.heap.size, 0, none⟩)]) ∧ w' = w.alloc (.cells #[.string s] 9) := by
  go_enter Try.func22, Try.ntmps22
  go_wp2
  go_ret
  exact ⟨rfl, rfl⟩

/-- A line, and whether a line feed follows, as yield gets them. -/
abbrev lineArgs (x : Bs × Bool) : Array Value := #[.string (mk x.1), .bool x.2]
/-- The length of the string in a cell, for a loop's measure. -/
def cellLen (c : Nat) (w : World) : Nat := match w.cell? ⟨c, 0, none⟩ with | some v => strLen v | none => 0
theorem cellLen_eq {c : Nat} {w : World} {t : TypeId} {s : ByteArray} (h : Boxed w c t (.string s)) : cellLen c w = s.size := by unfold cellLen; rw [h.cell]; rfl

set_option maxRecDepth 100000 in
set_option maxHeartbeats 2000000 in
theorem lines_seq (n c n₀ : Nat) (s : ByteArray) (w : World) (hn : 1 ≤ n) (hb : Boxed w c 9 (.string s)) (hs : s.size ≤ 1000000) (hm : MaxOk w) (hg : 0 < n₀) (hn₀ : n₀ ≤ w.heap.size) (hcn : n₀ ≤ c) :
    Seq Fence.wide n Try.prog 38 #[.pointer (some ⟨c, 0, none⟩)] lineArgs (fun k => k = c) n₀ (fun xs => xs = linesL (un s)) (fun pre => pre <+: linesL (un s)) w := fun l J Jx W hW hJ hJx hY h0 => by
  have hsp := World.size_alloc
  refine callsIn_of_wp Try.func38 rfl trivial ?_ rfl
  simp only [Try.ntmps38, List.size_toArray, List.length_cons, List.length_nil, Nat.reduceAdd, Nat.reduceSub, Array.replicate_succ, Array.replicate_zero, List.push_toArray, List.append_toArray, List.nil_append, List.cons_append]
  gi_wp2
  gi_loopw [] (fun wr => ∃ (pre : List (Bs × Bool)) (t : ByteArray) (G : Nat → Prop), Hid (pre ++ linesL (un t) = linesL (un s)) ∧ t.size ≤ s.size ∧ Boxed wr c 9 (.string t) ∧ J pre G wr ∧ G c ∧ MaxOk wr ∧ n₀ ≤ wr.heap.size) (fun wr => cellLen c wr)
  case atStart =>
    exact ⟨[], s, _, rfl, Nat.le_refl _, (hW.block c hb.lt).trans hb, h0, rfl, hm.below (n := w.heap.size) hW hm.lt, by have := hW.size; omega⟩
  case round =>
    obtain ⟨pre, t, G, hpre, hts, hbt, hJs, hG, hmx, hnx⟩ := hrel
    have hct := hbt.cell
    have hmeas := cellLen_eq hbt
    by_cases h0 : un t = []
    · have he : t.toList.isEmpty = true := by rw [toList_un, h0]; rfl
      have hfin : Hid (pre = linesL (un s)) := by rw [← hpre.out, h0, linesL_nil, List.append_nil]; rfl
      clear hpre h0
      gi_wp2
      go_end0
      exact ⟨⟨_, rfl⟩, .inl ⟨pre, G, hfin.out, hJs⟩⟩
    · have he : t.toList.isEmpty = false := by rw [toList_un]; simpa using h0
      rcases split_at (un t) 10 with ⟨a, r, e, hna⟩ | hno
      · have hcut := fun W hW => cut_yes t a r 10 W hW (by omega) e hna
        have hal : a.length ≤ 1000000 := by have := congrArg List.length e; simp at this; omega
        have hrl : r.length < t.size := by have := congrArg List.length e; simp at this; omega
        by_cases hz : stripCR a = []
        · have hz' : (mk (stripCR a)).toList.isEmpty = true := by rw [toList_un, un_mk, hz]; rfl
          have hfin : Hid (pre = linesL (un s)) := by rw [← hpre.out, e, linesL_end a r hna hz, List.append_nil]; rfl
          have HC := Lib.hid hcut
          clear hcut hpre h0 e hz
          gi_wp2
          refine ⟨trivial, ?_⟩; refine (callsIn_wide.2 (HC.out _ hmx)).mono ?_; rintro e w1 ⟨rfl, hb1⟩
          gi_wp2
          refine ⟨trivial, ?_⟩; refine (callsIn_wide.2 (trim_cr a _ (by omega))).mono ?_; rintro e w' ⟨rfl, rfl⟩
          gi_wp2
          refine ⟨fun _ h => (by cases h), ?_⟩
          gi_wp2
          refine bodyPost_ret (results_none rfl _ _ _) rfl ?_
          exact ⟨⟨_, rfl⟩, .inl ⟨pre, G, hfin.out, hJ.turn _ _ _ _ _ hJs (grown_of_below hb1) (fun r e => by cases e)⟩⟩
        · have hz' : (mk (stripCR a)).toList.isEmpty = false := by rw [toList_un, un_mk]; simpa using hz
          have hnext : Hid ((pre ++ [(stripCR a, true)]) ++ linesL r = linesL (un s)) := by rw [← hpre.out, e, linesL_line a r hna hz]; simp [Hid]
          have HC := Lib.hid hcut
          clear hcut hpre h0 e hz
          gi_wp2
          refine ⟨trivial, ?_⟩; refine (callsIn_wide.2 (HC.out _ hmx)).mono ?_; rintro e w1 ⟨rfl, hb1⟩; have hJ1 := hJ.turn _ _ _ _ _ hJs (grown_of_below hb1) (fun r e => by cases e); obtain ⟨fn, tmps, assign, body, hy, hR⟩ := hY pre (stripCR a, true) G w1 hJ1 ⟨_, hnext.out⟩
          gi_wp2
          refine ⟨trivial, ?_⟩; refine (callsIn_wide.2 (trim_cr a _ (by omega))).mono ?_; rintro e w' ⟨rfl, rfl⟩
          gi_wp2
          refine hR.mono ?_
          rintro e W3 (⟨rfl, hJ3, hk3⟩ | ⟨rfl, hJx3⟩)
          · have hb1' := hbt.kept (grown_of_below hb1) (by simp)
            have hb3 : Boxed W3 c 9 (.string t) := (hk3.block c hb1'.lt (.inl hG)).trans hb1'
            have hc3 := hb3.cell
            have hf3 := hb3.frozen
            gi_wp2
            go_roundw
            case rel => exact ⟨_, mk r, G, by rw [un_mk]; exact hnext, by rw [size_mk]; omega, hb3.set _, hJ.turn _ _ _ _ _ hJ3 (grown_setCell _ c 0 _) (fun r e => by cases e; exact hG), hG, ((hmx.below hb1 hmx.lt).below (n := n₀) (Keeps.below (hk3.mono fun k hk => .inr hk) (by have := hb1.size; omega)) hg).below (n := n₀) ((Below.refl _ _).setCell (p := ⟨c, 0, none⟩) hcn _) hg, by have := hb1.size; have := hk3.size; simp; omega⟩
            case measure => rw [cellLen_eq (hb3.set _), hmeas, size_mk]; exact hrl
          · gi_wp2
            refine bodyPost_ret (results_none rfl _ _ _) rfl ?_
            exact ⟨⟨_, rfl⟩, .inr ⟨_, G, ⟨_, hnext.out⟩, hJx3⟩⟩
      · have hcut := fun W hW => cut_no t 10 W hW (by omega) hno
        have htl : (un t).length ≤ 1000000 := by rw [length_un]; omega
        have hnext : Hid (pre ++ [(stripCR (un t), false)] = linesL (un s)) := by rw [← hpre.out, linesL_last _ hno h0]; rfl
        have HC := Lib.hid hcut
        have htr := fun W => trim_cr (un t) W (by omega)
        rw [mk_un] at htr
        have HT := Lib.hid htr
        have HNE := Lib.hid h0
        clear hcut hpre h0 htr hno
        gi_wp2
        refine ⟨trivial, ?_⟩; refine (callsIn_wide.2 (HC.out _ hmx)).mono ?_; rintro e w1 ⟨rfl, hb1⟩; have hJ1 := hJ.turn _ _ _ _ _ hJs (grown_of_below hb1) (fun r e => by cases e); obtain ⟨fn, tmps, assign, body, hy, hR⟩ := hY pre (stripCR (un t), false) G w1 hJ1 ⟨[], by rw [List.append_nil]; exact hnext.out⟩
        gi_wp2
        refine ⟨trivial, ?_⟩; refine (callsIn_wide.2 (HT.out _)).mono ?_; rintro e w' ⟨rfl, rfl⟩
        gi_wp2
        refine hR.mono ?_
        rintro e W3 (⟨rfl, hJ3, hk3⟩ | ⟨rfl, hJx3⟩)
        · have hb1' := hbt.kept (grown_of_below hb1) (by simp)
          have hb3 : Boxed W3 c 9 (.string t) := (hk3.block c hb1'.lt (.inl hG)).trans hb1'
          have hc3 := hb3.cell
          have hf3 := hb3.frozen
          gi_wp2
          go_roundw
          case rel => exact ⟨_, mk [], G, by rw [un_mk, linesL_nil, List.append_nil]; exact hnext, by rw [size_mk]; simp, hb3.set _, hJ.turn _ _ _ _ _ hJ3 (grown_setCell _ c 0 _) (fun r e => by cases e; exact hG), hG, ((hmx.below hb1 hmx.lt).below (n := n₀) (Keeps.below (hk3.mono fun k hk => .inr hk) (by have := hb1.size; omega)) hg).below (n := n₀) ((Below.refl _ _).setCell (p := ⟨c, 0, none⟩) hcn _) hg, by have := hb1.size; have := hk3.size; simp; omega⟩
          case measure => rw [show (⟨#[]⟩ : ByteArray) = mk [] from rfl, cellLen_eq (hb3.set (.string (mk []))), hmeas, size_mk]; have := List.length_pos_iff.2 (show un t ≠ [] from HNE.out); rw [length_un] at this; exact this
        · gi_wp2
          refine bodyPost_ret (results_none rfl _ _ _) rfl ?_
          exact ⟨⟨_, rfl⟩, .inr ⟨_, G, ⟨[], by rw [List.append_nil]; exact hnext.out⟩, hJx3⟩⟩
end Go.Proofs.Ytimfngfimnapoaa
