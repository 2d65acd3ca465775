/- The iterator that strings.SplitSeq makes of a string and a byte: it keeps its state in a cell. Conditions: the string's length is bounded. -/
import Derived.Test.YtimfngfimnapoaaDoorRangeS
import Derived.Test.YtimfngfimnapoaaDoorKit
import Derived.Test.YtimfngfimnapoaaDoorPlainCsp
import Derived.Test.YtimfngfimnapoaaDoorShelf
import Derived.Shelf.Abstract
import Derived.Shelf.RegionOpen
import Derived.WalkKit
import Derived.OwnWalkIn
import Derived.TacticsInMore
import Derived.LoopNIn
import Derived.LoopIn
namespace Go.Proofs.YtimfngfimnapoaaDoor
open Go.RowKit Go.Shelf Hs
set_option linter.unusedSimpArgs false
set_option linter.unusedVariables false

attribute [local go_sem] Oper.semAt_some

/-- The worlds behind the making of the iterator. -/
abbrev splitW (w : World) (s : ByteArray) (c : UInt8) : World := ((w.alloc (.cells #[.string s] 9)).alloc (.cells #[.string ⟨#[c]⟩] 9)).alloc (.cells #[.int .i64 0] 3)
theorem f_splitSeq0 (s : ByteArray) (c : UInt8) (w : World) : Calls Tryd.prog 27 #[.string s, .string ⟨#[c]⟩, .int .i64 0] w fun e w' => e = .returned (.func (.func 30) #[] #[.pointer (some ⟨w.heap.size + 1, 0, none⟩), .pointer (some ⟨w.heap.size, 0, none⟩), .pointer (some ⟨w.heap.size + 2, 0, none⟩)]) ∧ w' = splitW w s c := by
  go_enter Tryd.func27, Tryd.ntmps27
  go_wp2
  go_ret
  exact ⟨rfl, rfl⟩
theorem f_splitSeq (s : ByteArray) (c : UInt8) (w : World) : Calls Tryd.prog 21 #[.string s, .string ⟨#[c]⟩] w fun e w' => e = .returned (.func (.func 30) #[] #[.pointer (some ⟨w.heap.size + 1, 0, none⟩), .pointer (some ⟨w.heap.size, 0, none⟩), .pointer (some ⟨w.heap.size + 2, 0, none⟩)]) ∧ w' = splitW w s c := by
  go_enter Tryd.func21, Tryd.ntmps21
  go_wp2_with fail
  refine (f_splitSeq0 s c _).mono ?_; rintro e w' ⟨rfl, rfl⟩
  go_wp2_with fail
  go_ret
  exact ⟨rfl, rfl⟩
theorem splitW_size (w : World) (s : ByteArray) (c : UInt8) : (splitW w s c).heap.size = w.heap.size + 3 := by simp [splitW]
theorem splitW_below (w : World) (s : ByteArray) (c : UInt8) : Below w.heap.size w (splitW w s c) := (((Below.refl _ w).alloc (Nat.le_refl _) _).alloc (by simp) _).alloc (by simp; omega) _
theorem splitW_t (w : World) (s : ByteArray) (c : UInt8) : Boxed (splitW w s c) w.heap.size 9 (.string s) := ((Boxed.new w _ _).alloc _).alloc _
theorem splitW_s (w : World) (s : ByteArray) (c : UInt8) : Boxed (splitW w s c) (w.heap.size + 1) 9 (.string ⟨#[c]⟩) := by
  have := (Boxed.new (w.alloc (.cells #[.string s] 9)) 9 (.string ⟨#[c]⟩)).alloc (.cells #[.int .i64 0] 3)
  rwa [World.size_alloc] at this
theorem splitW_z (w : World) (s : ByteArray) (c : UInt8) : Boxed (splitW w s c) (w.heap.size + 2) 3 (.int .i64 0) := by
  have := Boxed.new ((w.alloc (.cells #[.string s] 9)).alloc (.cells #[.string ⟨#[c]⟩] 9)) 3 (.int .i64 0)
  simp only [World.size_alloc] at this
  exact this

/-- The length of the string in a cell, for a loop's measure. -/
def cellLen (c : Nat) (w : World) : Nat := match w.cell? ⟨c, 0, none⟩ with | some v => strLen v | none => 0
theorem cellLen_eq {c : Nat} {w : World} {t : TypeId} {s : ByteArray} (h : Boxed w c t (.string s)) : cellLen c w = s.size := by unfold cellLen; rw [h.cell]; rfl

set_option maxRecDepth 100000 in
set_option maxHeartbeats 2000000 in
theorem split_seq (n cs ct cz n₀ : Nat) (c : UInt8) (s : ByteArray) (w : World) (hn : 1 ≤ n) (bs : Boxed w cs 9 (.string ⟨#[c]⟩)) (bt : Boxed w ct 9 (.string s)) (bz : Boxed w cz 3 (.int .i64 0)) (hst : cs ≠ ct) (hzt : cz ≠ ct) (hs : s.size ≤ 1000000) :
    Seq Fence.wide n Tryd.prog 30 #[.pointer (some ⟨cs, 0, none⟩), .pointer (some ⟨ct, 0, none⟩), .pointer (some ⟨cz, 0, none⟩)] (fun x : Bs => #[.string (mk x)]) (fun k => k = cs ∨ k = ct ∨ k = cz) n₀ (fun xs => xs = splitD c (un s)) (fun pre => pre <+: splitD c (un s)) w := fun l J Jx W hW hJ hJx hY h0 => by
  have hsp := World.size_alloc
  have Bs0 : Boxed W cs 9 (.string ⟨#[c]⟩) := (hW.block cs bs.lt).trans bs
  have Bt0 : Boxed W ct 9 (.string s) := (hW.block ct bt.lt).trans bt
  have Bz0 : Boxed W cz 3 (.int .i64 0) := (hW.block cz bz.lt).trans bz
  have es0 := Bs0.cell
  have hsz1 : (⟨#[c]⟩ : ByteArray).size = 1 := rfl
  refine callsIn_of_wp Tryd.func30 rfl trivial ?_ rfl
  simp only [Tryd.ntmps30, List.size_toArray, List.length_cons, List.length_nil, Nat.reduceAdd, Nat.reduceSub, Array.replicate_succ, Array.replicate_zero, List.push_toArray, List.append_toArray, List.nil_append, List.cons_append]
  gi_wp2
  gi_loopw [] (fun wr => ∃ (pre : List Bs) (t : ByteArray) (G : Nat → Prop), Hid (pre ++ splitD c (un t) = splitD c (un s)) ∧ t.size ≤ s.size ∧ Boxed wr cs 9 (.string ⟨#[c]⟩) ∧ Boxed wr ct 9 (.string t) ∧ Boxed wr cz 3 (.int .i64 0) ∧ J pre G wr ∧ G cs ∧ G ct ∧ G cz) (fun wr => cellLen ct wr)
  case atStart =>
    exact ⟨[], s, _, rfl, Nat.le_refl _, Bs0, Bt0, Bz0, h0, .inl rfl, .inr (.inl rfl), .inr (.inr rfl)⟩
  case round =>
    obtain ⟨pre, t, G, hpre, hts, hbs, hbt, hbz, hJs, hGs, hGt, hGz⟩ := hrel
    have ec := hbs.cell
    have et := hbt.cell
    have ez := hbz.cell
    have hmeas := cellLen_eq hbt
    have hix := fun W => Tryd.strings_Index_one t c W
    rw [show t.data.toList = un t from rfl] at hix
    rcases cut_at (un t) c with ⟨a, r, e, hna⟩ | hno
    · rw [e, indexByte_cut a r c hna] at hix
      have HIX := Lib.hid hix
      have hal : a.length + 1 + r.length = t.size := by have := congrArg List.length e; rw [length_un] at this; simp at this; omega
      have hex1 : t.extract 0 a.length = mk a := by rw [extract_seg, e]; congr 1; simp [seg]
      have hex2 : t.extract (a.length + 1) t.size = mk r := by rw [extract_seg, ← length_un, seg_full, e]; congr 1; simp
      have hnext : Hid ((pre ++ [a]) ++ splitD c r = splitD c (un s)) := by rw [← hpre.out, e, splitD_at c r a (fun x hx e => hna (e ▸ hx))]; simp [Hid]
      obtain ⟨fn, tmps, assign, body, hy, hR⟩ := hY pre a G wr hJs ⟨_, hnext.out⟩
      clear hix hpre e hna
      gi_wp2
      refine ⟨trivial, ?_⟩; refine (callsIn_wide.2 (HIX.out _)).mono ?_; rintro e w' ⟨rfl, rfl⟩
      gi_wp2
      refine hR.mono ?_
      rintro e W3 (⟨rfl, hJ3, hk3⟩ | ⟨rfl, hJx3, hk3⟩)
      · have b3s : Boxed W3 cs 9 (.string ⟨#[c]⟩) := (hk3.block cs hbs.lt (.inl hGs)).trans hbs
        have b3t : Boxed W3 ct 9 (.string t) := (hk3.block ct hbt.lt (.inl hGt)).trans hbt
        have b3z : Boxed W3 cz 3 (.int .i64 0) := (hk3.block cz hbz.lt (.inl hGz)).trans hbz
        have e3s := b3s.cell
        have e3t := b3t.cell
        have f3t := b3t.frozen
        gi_wp2
        go_roundw
        case rel => exact ⟨_, mk r, G, by rw [un_mk]; exact hnext, by rw [size_mk]; omega, b3s.other hst _, b3t.set _, b3z.other hzt _, hJ.turn _ _ _ _ _ hJ3 (grown_setCell _ ct 0 _) (fun r e => by cases e; exact hGt), hGs, hGt, hGz⟩
        case measure => rw [cellLen_eq (b3t.set _), hmeas, size_mk]; omega
      · gi_wp2
        refine bodyPost_ret (results_none rfl _ _ _) rfl ?_
        exact ⟨⟨_, rfl⟩, .inr ⟨_, G, ⟨_, hnext.out⟩, hJx3⟩⟩
    · rw [indexByte_not _ _ hno] at hix
      have HIX := Lib.hid hix
      have hnext : Hid (pre ++ [un t] = splitD c (un s)) := by rw [← hpre.out, splitD_none c _ (fun x hx e => hno (e ▸ hx))]; rfl
      obtain ⟨fn, tmps, assign, body, hy, hR⟩ := hY pre (un t) G wr hJs ⟨[], by rw [List.append_nil]; exact hnext.out⟩
      rw [mk_un] at hy
      clear hix hpre hno
      gi_wp2
      refine ⟨trivial, ?_⟩; refine (callsIn_wide.2 (HIX.out _)).mono ?_; rintro e w' ⟨rfl, rfl⟩
      gi_wp2
      refine hR.mono ?_
      rintro e W3 (⟨rfl, hJ3, hk3⟩ | ⟨rfl, hJx3, hk3⟩)
      · gi_wp2
        go_end0
        exact ⟨⟨_, rfl⟩, .inl ⟨_, G, hnext.out, hJ3⟩⟩
      · gi_wp2
        go_end0
        exact ⟨⟨_, rfl⟩, .inr ⟨_, G, ⟨[], by rw [List.append_nil]; exact hnext.out⟩, hJx3⟩⟩
end Go.Proofs.YtimfngfimnapoaaDoor
