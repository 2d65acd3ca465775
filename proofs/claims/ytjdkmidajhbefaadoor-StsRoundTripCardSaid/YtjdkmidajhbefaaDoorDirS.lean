/- The walks of the parser's methods of the layer directive (program): blanks, is, accept. Conditions: the text's length is bounded; the parser's block holds the text and the index. -/
import Derived.Test.YtjdkmidajhbefaaDoorAsciiText
import Derived.Test.YtjdkmidajhbefaaDoorPlainDir
import Derived.Deep.LoopGhost
namespace Go.Proofs.YtjdkmidajhbefaaDoor
open Go.RowKit Hs
set_option linter.unusedSimpArgs false
set_option linter.unusedVariables false

/-- The parser's block g holds the text s and the index i. -/
def PAt (w : World) (g : Nat) (s : ByteArray) (i : Nat) : Prop := w.heap[g]? = some (.cells #[.string s, .int .i64 (i : Int)] 45 (0, 0))
theorem PAt.lt {w : World} {g : Nat} {s : ByteArray} {i : Nat} (h : PAt w g s i) : g < w.heap.size := (Array.getElem?_eq_some_iff.1 h).1
theorem PAt.c0 {w : World} {g : Nat} {s : ByteArray} {i : Nat} (h : PAt w g s i) : w.cell? ⟨g, 0, none⟩ = some (.string s) := by unfold PAt at h; simp [World.cell?, h]
theorem PAt.c1 {w : World} {g : Nat} {s : ByteArray} {i : Nat} (h : PAt w g s i) : w.cell? ⟨g, 1, none⟩ = some (.int .i64 (i : Int)) := by unfold PAt at h; simp [World.cell?, h]
theorem PAt.f1 {w : World} {g : Nat} {s : ByteArray} {i : Nat} (h : PAt w g s i) : w.frozen? ⟨g, 1, none⟩ = false := by unfold PAt at h; simp [World.frozen?, h]
theorem PAt.set {w : World} {g : Nat} {s : ByteArray} {i : Nat} (h : PAt w g s i) (k : Nat) : PAt (w.setCell ⟨g, 1, none⟩ (.int .i64 (k : Int))) g s k := by
  have hlt := h.lt
  have h' : w.heap[g] = .cells #[.string s, .int .i64 (i : Int)] 45 (0, 0) := by simpa [PAt, Array.getElem?_eq_getElem hlt] using h
  unfold PAt
  show (w.heap.modify g _)[g]? = _
  rw [Array.getElem?_eq_getElem (by simpa using hlt), Array.getElem_modify_self, h']
  rfl
theorem grown_trans {a w w' : World} {row : Option Nat} (h : a.grownBy w row) (k : w.grownBy w' row) : a.grownBy w' row :=
  ⟨k.os.trans h.os, k.tape.trans h.tape, k.output.trans h.output, Nat.le_trans h.size k.size, fun j hj hne => (k.block j (Nat.lt_of_lt_of_le hj h.size) hne).trans (h.block j hj hne)⟩
theorem grown_setCell (w : World) (g j : Nat) (v : Value) : w.grownBy (w.setCell ⟨g, j, none⟩ v) (some g) :=
  ⟨rfl, rfl, rfl, by simp, fun k _ hk => Below.heap_setCell w ⟨g, j, none⟩ v k (fun e => hk (by simp [e]))⟩
theorem grown_refl (w : World) (row : Option Nat) : w.grownBy w row := ⟨rfl, rfl, rfl, Nat.le_refl _, fun _ _ _ => rfl⟩
theorem grown_below {a w w' : World} {row : Option Nat} (h : a.grownBy w row) (hb : Below w.heap.size w w') : a.grownBy w' row :=
  grown_trans h ⟨hb.os, hb.tape, hb.output, hb.size, fun k hk _ => hb.block k hk⟩
theorem PAt.below {w w' : World} {g : Nat} {s : ByteArray} {i : Nat} (h : PAt w g s i) (hb : Below w.heap.size w w') : PAt w' g s i := (hb.block g h.lt).trans h
theorem PAt.alloc {w : World} {g : Nat} {s : ByteArray} {i : Nat} (h : PAt w g s i) (o : Obj) : PAt (w.alloc o) g s i := (Below.heap_alloc w o g h.lt).trans h

theorem grown_alloc {a w : World} {row : Option Nat} (h : a.grownBy w row) (o : Obj) : a.grownBy (w.alloc o) row :=
  ⟨h.os, h.tape, h.output, by have := h.size; simp; omega, fun k hk hn => (Below.heap_alloc w o k (by have := h.size; omega)).trans (h.block k hk hn)⟩
theorem grown_new {a w : World} {row : Option Nat} (h : a.grownBy w row) {b : Nat} (hb : a.heap.size ≤ b) (j : Nat) (v : Value) : a.grownBy (w.setCell ⟨b, j, none⟩ v) row :=
  ⟨h.os, h.tape, h.output, by have := h.size; simpa using this, fun k hk hn => (Below.heap_setCell w ⟨b, j, none⟩ v k (fun e => by have : k = b := e; omega)).trans (h.block k hk hn)⟩
theorem PAt.grown {w w' : World} {g : Nat} {s : ByteArray} {i : Nat} {row : Option Nat} (h : PAt w g s i) (hg : w.grownBy w' row) (hn : some g ≠ row) : PAt w' g s i := (hg.block g h.lt hn).trans h
theorem PAt.other {w : World} {g : Nat} {s : ByteArray} {i : Nat} (h : PAt w g s i) {p : Nat} (hp : g ≠ p) (j : Nat) (v : Value) : PAt (w.setCell ⟨p, j, none⟩ v) g s i := (Below.heap_setCell w ⟨p, j, none⟩ v g hp).trans h
theorem grown_drewN {a w : World} {row : Option Nat} (h : a.grownBy w row) (n : Nat) : a.grownBy (w.drewN n) row := ⟨h.os, h.tape, h.output, h.size, h.block⟩
theorem PAt.drewN {w : World} {g : Nat} {s : ByteArray} {i : Nat} (h : PAt w g s i) (n : Nat) : PAt (w.drewN n) g s i := h

set_option maxHeartbeats 1000000 in
theorem p_blanks (g : Nat) (s : ByteArray) (i : Nat) (w : World) (hp : PAt w g s i) (hi : i ≤ s.size) (hs : s.size ≤ 100000000) : Calls Tryd.prog 14 #[.pointer (some ⟨g, 0, none⟩)] w fun e w' => e = .returned (.tuple #[]) ∧ PAt w' g s (blkEnd (un s) i) ∧ w.grownBy w' (some g) := by
  go_enter Tryd.func14, Tryd.ntmps14
  go_wp2
  go_loopg [] (s.size - i) (fun m wr => ∃ k : Nat, k ≤ s.size ∧ m = s.size - k ∧ PAt wr g s k ∧ w.grownBy wr (some g) ∧ Hid (blkEnd (un s) i = blkEnd (un s) k))
  case atStart => exact ⟨i, hi, by omega, hp, grown_refl _ _, rfl⟩
  case round =>
    obtain ⟨k, hk, rfl, hpk, hgr, hbl⟩ := hrel
    have c0 := hpk.c0
    have c1 := hpk.c1
    have f1 := hpk.f1
    by_cases hlt : k < s.size
    · cases hb : isBlank (s[k]'hlt)
      · have hfin := Lib.hid (hbl.out.trans (blkEnd_no (un s) k (by rw [length_un]; exact hlt) hb))
        clear hbl
        go_wp2
        go_quiet ((go_at_call 18; exact Calls.quiet_of_same ((ascii_isBlank _ _ rfl _).mono (fun _ _ h => ⟨h.1, h.2.symm⟩))))
        go_wp2
        go_end0
        refine ⟨rfl, ?_, grown_drewN hgr _⟩
        rw [hfin.out]
        exact hpk.drewN _
      · have hst := Lib.hid (hbl.out.trans (blkEnd_yes (un s) k (by rw [length_un]; exact hlt) hb))
        clear hbl
        go_wp2
        go_quiet ((go_at_call 18; exact Calls.quiet_of_same ((ascii_isBlank _ _ rfl _).mono (fun _ _ h => ⟨h.1, h.2.symm⟩))))
        go_wp2
        go_roundg (s.size - (k + 1))
        case measure => omega
        case rel => exact ⟨k + 1, by omega, rfl, (hpk.drewN _).set (k + 1), grown_trans (grown_drewN hgr _) (grown_setCell _ _ _ _), hst⟩
    · obtain rfl : k = s.size := by omega
      have hfin := Lib.hid (hbl.out.trans (blkEnd_out (un s) s.size (by rw [length_un]; exact Nat.le_refl _)))
      clear hbl
      go_wp2
      go_quiet (fail)
      go_wp2
      go_end0
      refine ⟨rfl, ?_, grown_drewN hgr _⟩
      rw [hfin.out]
      exact hpk.drewN _

/-- Whether the next byte is n. -/
theorem p_is_q (g : Nat) (s : ByteArray) (i : Nat) (n : Nat) (w : World) (hp : PAt w g s i) (hi : i ≤ s.size) (hs : s.size ≤ 100000000) (hn : n < 256) : Calls Tryd.prog 19 #[.pointer (some ⟨g, 0, none⟩), .int .u8 (n : Int)] w fun e w' => e = .returned (.bool (decide (atN (un s) i = n))) ∧ ∃ m, w' = w.drewN m := by
  have c0 := hp.c0
  have c1 := hp.c1
  by_cases hlt : i < s.size
  · have ha := Lib.hid (atN_un s i hlt)
    go_enter Tryd.func19, Tryd.ntmps19
    go_wp2
    go_quiet (fail)
    go_wp2
    go_ret
    refine ⟨ret_bool ?_, _, rfl⟩
    rw [ha.out]
    first | (refine btrue ?_; omega) | (refine bfalse ?_; omega) | (refine bdec ?_; omega) | (refine beqdec ?_; omega) | (refine bnedec ?_; omega)
  · obtain rfl : i = s.size := by omega
    have ha := Lib.hid (atN_out (un s) s.size (by rw [length_un]; exact Nat.le_refl _))
    go_enter Tryd.func19, Tryd.ntmps19
    go_wp2
    go_quiet (fail)
    go_wp2
    go_ret
    refine ⟨ret_bool ?_, _, rfl⟩
    rw [ha.out]
    first | (refine btrue ?_; omega) | (refine bfalse ?_; omega) | (refine bdec ?_; omega) | (refine beqdec ?_; omega) | (refine bnedec ?_; omega)
theorem p_is (g : Nat) (s : ByteArray) (i : Nat) (n : Nat) (w : World) (hp : PAt w g s i) (hi : i ≤ s.size) (hs : s.size ≤ 100000000) (hn : n < 256) : Calls Tryd.prog 19 #[.pointer (some ⟨g, 0, none⟩), .int .u8 (n : Int)] w fun e w' => e = .returned (.bool (decide (atN (un s) i = n))) ∧ PAt w' g s i ∧ w.grownBy w' (some g) := by
  refine (p_is_q g s i n w hp hi hs hn).mono ?_
  rintro e w' ⟨rfl, m, rfl⟩
  exact ⟨rfl, hp.drewN _, grown_drewN (grown_refl _ _) _⟩

/-- Skips the byte n, if it is the next one. -/
theorem p_accept (g : Nat) (s : ByteArray) (i : Nat) (n : Nat) (w : World) (hp : PAt w g s i) (hi : i ≤ s.size) (hs : s.size ≤ 100000000) (hn : n < 256) : Calls Tryd.prog 15 #[.pointer (some ⟨g, 0, none⟩), .int .u8 (n : Int)] w fun e w' => e = .returned (.bool (decide (atN (un s) i = n))) ∧ PAt w' g s (if atN (un s) i = n then i + 1 else i) ∧ w.grownBy w' (some g) := by
  have c0 := hp.c0
  have c1 := hp.c1
  by_cases ha : atN (un s) i = n
  · have hd : decide (atN (un s) i = n) = true := decide_eq_true ha
    have hlt : i < s.size := by have := atN_in (un s) i (by omega); rwa [length_un] at this
    have he : (if atN (un s) i = n then i + 1 else i) = i + 1 := if_pos ha
    rw [hd, he]
    have HD := Lib.hid hd
    clear hd he ha
    go_enter Tryd.func15, Tryd.ntmps15
    go_wp2_with fail
    refine (p_is g s i n _ hp hi hs hn).mono ?_; rintro e w1 ⟨rfl, hp1, hg1⟩
    rw [HD.out]
    have d0 := hp1.c0
    have d1 := hp1.c1
    have df := hp1.f1
    go_wp2_with fail
    go_ret
    exact ⟨rfl, hp1.set (i + 1), grown_trans hg1 (grown_setCell _ _ _ _)⟩
  · have hd : decide (atN (un s) i = n) = false := decide_eq_false ha
    have he : (if atN (un s) i = n then i + 1 else i) = i := if_neg ha
    rw [hd, he]
    have HD := Lib.hid hd
    clear hd he ha
    go_enter Tryd.func15, Tryd.ntmps15
    go_wp2_with fail
    refine (p_is g s i n _ hp hi hs hn).mono ?_; rintro e w1 ⟨rfl, hp1, hg1⟩
    rw [HD.out]
    go_wp2_with fail
    go_ret
    exact ⟨rfl, hp1, hg1⟩
end Go.Proofs.YtjdkmidajhbefaaDoor
