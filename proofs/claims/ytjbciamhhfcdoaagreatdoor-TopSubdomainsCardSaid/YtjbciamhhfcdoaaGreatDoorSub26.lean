/- utf8.ValidString at texts that are ASCII. Conditions: the text's length is bounded.
   The walk of ToASCII of the program's labels at texts that are ASCII. Conditions: the text's length is bounded. -/
import Derived.Test.YtjbciamhhfcdoaaGreatDoorRows
import Derived.Test.YtjbciamhhfcdoaaGreatDoorSub01
import Derived.BigQuiet
import Derived.Deep.LoopGhost
import Derived.Deep.DeepCutAuto
import Derived.Test.YtjbciamhhfcdoaaGreatDoorSub15
import Derived.Test.YtjbciamhhfcdoaaGreatDoorSub19
namespace Go.Proofs.YtjbciamhhfcdoaaGreatDoor
open Go.RowKit Hs
set_option linter.unusedSimpArgs false
set_option linter.unusedVariables false
/-- Eight bytes as one number. -/
def wordE (a b c d e f g h : Nat) : Int := bits .or .u64 (bits .or .u64 (bits .or .u64 (bits .or .u64 (bits .or .u64 (bits .or .u64 (bits .or .u64 (IntKind.u64.wrap a) (IntKind.u64.wrap (IntKind.u64.wrap b * 256))) (IntKind.u64.wrap (IntKind.u64.wrap c * 65536))) (IntKind.u64.wrap (IntKind.u64.wrap d * 16777216))) (IntKind.u64.wrap (IntKind.u64.wrap e * 4294967296))) (IntKind.u64.wrap (IntKind.u64.wrap f * 1099511627776))) (IntKind.u64.wrap (IntKind.u64.wrap g * 281474976710656))) (IntKind.u64.wrap (IntKind.u64.wrap h * 72057594037927936))
set_option maxRecDepth 20000 in
set_option maxHeartbeats 4000000 in
theorem utf8_word (s : ByteArray) (h8 : 8 ≤ s.size) (hs : s.size ≤ 100000000) (w : World) : Calls Tryz.prog 253 #[.string s] w fun e w' => e = .returned (.int .u64 (wordE s[0].toNat s[1].toNat s[2].toNat s[3].toNat s[4].toNat s[5].toNat s[6].toNat s[7].toNat)) ∧ ∃ m, w' = w.drewN m := by
  have i0 : (0 : Int) < (s.size : Int) := by omega
  have i1 : (1 : Int) < (s.size : Int) := by omega
  have i2 : (2 : Int) < (s.size : Int) := by omega
  have i3 : (3 : Int) < (s.size : Int) := by omega
  have i4 : (4 : Int) < (s.size : Int) := by omega
  have i5 : (5 : Int) < (s.size : Int) := by omega
  have i6 : (6 : Int) < (s.size : Int) := by omega
  have i7 : (7 : Int) < (s.size : Int) := by omega
  have n0 : 0 < s.size := by omega
  have n1 : 1 < s.size := by omega
  have n2 : 2 < s.size := by omega
  have n3 : 3 < s.size := by omega
  have n4 : 4 < s.size := by omega
  have n5 : 5 < s.size := by omega
  have n6 : 6 < s.size := by omega
  have n7 : 7 < s.size := by omega
  go_enter Tryz.func253, Tryz.ntmps253
  go_wp2
  go_quiet (fail)
  go_wp2
  go_ret
  exact ⟨rfl, _, rfl⟩

theorem gbel_drewN {B : Nat} {a w : World} (h : Below B a w) (n : Nat) : Below B a (w.drewN n) := ⟨h.os, h.tape, h.output, h.size, h.block⟩
def Asc (t : ByteArray) : Prop := (un t).all (fun b => decide (b.toNat < 128)) = true
theorem Asc.part {t : ByteArray} (h : Asc t) (a b : Nat) : Asc (t.extract a b) := by
  unfold Asc at *
  rw [un_extract]
  rw [List.all_eq_true] at *
  intro x hx
  exact h x (List.mem_of_mem_drop (List.mem_of_mem_take hx))
theorem size_part (t : ByteArray) (a : Nat) (h : a ≤ t.size) : (t.extract a t.size).size = t.size - a := by
  have := congrArg List.length (un_extract t a t.size)
  rw [length_un, List.length_take, List.length_drop, length_un] at this
  omega
set_option maxRecDepth 20000 in
set_option maxHeartbeats 8000000 in
theorem utf8_valid_ascii (s : ByteArray) (w : World) (hs : s.size ≤ 100000000) (ha : (un s).all (fun b => decide (b.toNat < 128)) = true) : Calls Tryz.prog 236 #[.string s] w fun e w' => e = .returned (.bool true) ∧ Below w.heap.size w w' := by
  go_enter Tryz.func236, Tryz.ntmps236
  go_wp2
  all_goals (try (exfalso; omega))
  go_loopg [0] s.size (fun m sv wr => ∃ t : ByteArray, m = t.size ∧ sv = .string t ∧ t.size ≤ 100000000 ∧ Hid ((un t).all (fun b => decide (b.toNat < 128)) = true) ∧ Below w.heap.size w wr)
  case atStart => exact ⟨s, rfl, rfl, hs, Lib.hid ha, Below.refl _ _⟩
  case round =>
    obtain ⟨t, rfl, rfl, hts, hat, hnx⟩ := hrel
    rcases Nat.eq_zero_or_pos t.size with h0 | hpos
    · have h0I : (t.size : Int) = 0 := by omega
      go_wp2
      all_goals (try (exfalso; omega))
      go_ret
      exact ⟨rfl, hnx⟩
    · have hb : t[0].toNat < 128 := by
        have := List.all_eq_true.1 hat.out t[0] (by rw [← getElem_un t 0 hpos]; exact List.getElem_mem _)
        exact of_decide_eq_true this
      have hbI : decide ((t[0].toNat : Int) < 128) = true := decide_eq_true (by omega)
      have hword : ∀ X : ByteArray, 8 ≤ X.size → X.size ≤ 100000000 → ∃ x, ∀ W : World, Calls Tryz.prog 253 #[.string X] W fun e w' => e = .returned (.int .u64 x) ∧ ∃ m, w' = W.drewN m := fun X h8 hx => ⟨_, fun W => utf8_word X h8 hx W⟩
      have HWORD := Lib.hid hword
      clear hword
      have hA1 := Lib.hid (show Asc (t.extract 1 t.size) from Asc.part (show Asc t from hat.out) 1 t.size)
      have hs1 := size_part t 1 hpos
      obtain ⟨t1, ht1⟩ : ∃ t1, t.extract 1 t.size = t1 := ⟨_, rfl⟩
      rw [ht1] at hA1 hs1
      have hl1 : t1.size < t.size := by omega
      have hc1 : t1.size ≤ 100000000 := by omega
      clear hs1
      by_cases h9 : 8 < t1.size
      · obtain ⟨x, hx⟩ := HWORD.out t1 (by omega) (by omega)
        have HX := Lib.hid hx
        have g8 : decide ((8 : Int) < (t1.size : Int)) = true := decide_eq_true (by omega)
        clear hx
        go_wp2_with fail
        all_goals (try (exfalso; omega))
        refine (HX.out _).mono ?_; rintro e w2 ⟨rfl, m2, rfl⟩
        have hnx2 := gbel_drewN hnx m2
        generalize wr.drewN m2 = wr2 at hnx2 ⊢
        go_upto_if 24 with fail
        all_goals (try (exfalso; omega))
        generalize (bits BinOp.and IntKind.u64 x 9259542123273814144 == 0) = q
        cases q
        · go_wp2
          all_goals (try (exfalso; omega))
          all_goals
            go_roundg t1.size
            case measure => omega
            case rel => exact ⟨t1, rfl, rfl, by omega, hA1, hnx2⟩
        · have hA2 := Lib.hid (show Asc (t1.extract 8 t1.size) from Asc.part (show Asc t1 from hA1.out) 8 t1.size)
          have hs2 := size_part t1 8 (by omega)
          obtain ⟨t2, ht2⟩ : ∃ t2, t1.extract 8 t1.size = t2 := ⟨_, rfl⟩
          rw [ht2] at hA2 hs2
          have hl2 : t2.size < t1.size := by omega
          have hc2 : t2.size ≤ 100000000 := by omega
          clear hs2
          by_cases h16 : 16 < t2.size
          · have hs3 := size_part t2 8 (by omega)
            obtain ⟨t3, ht3⟩ : ∃ t3, t2.extract 8 t2.size = t3 := ⟨_, rfl⟩
            rw [ht3] at hs3
            have hl3 : 8 ≤ t3.size := by omega
            have hc3 : t3.size ≤ 100000000 := by omega
            clear hs3
            obtain ⟨y1, hy1⟩ := HWORD.out t2 (by omega) (by omega)
            obtain ⟨y2, hy2⟩ := HWORD.out t3 (by omega) (by omega)
            have HY1 := Lib.hid hy1
            have HY2 := Lib.hid hy2
            have g16 : decide ((16 : Int) < (t2.size : Int)) = true := decide_eq_true (by omega)
            have gn8 : 8 ≤ t2.size := by omega
            have gI8 : (8 : Int) ≤ (t2.size : Int) := by omega
            clear hy1 hy2
            go_wp2_with fail
            all_goals (try (exfalso; omega))
            refine wp_region_quiet_lit (by kernel_rfl) (by kernel_rfl) ?_
            repeat (go_big_quiet_step (fail))
            go_big_quiet_want
            go_big_quiet_op
            apply Exists.intro
            refine ⟨fun _ => ?_, ?_⟩
            · exact Calls.quiet_of (HY1.out _)
            go_big_quiet_on
            repeat (go_big_quiet_step (fail))
            go_big_quiet_want
            go_big_quiet_op
            apply Exists.intro
            refine ⟨fun _ => ?_, ?_⟩
            · exact Calls.quiet_of (HY2.out _)
            go_big_quiet_on
            repeat (go_big_quiet_step (fail))
            refine wpQuiet_nil ?_
            intro _ hw'
            obtain ⟨nq, hw''⟩ := hw'
            subst hw''
            generalize (bits BinOp.and IntKind.u64 (bits BinOp.or IntKind.u64 y1 y2) 9259542123273814144 == 0) = q2
            have hnx3 := gbel_drewN hnx2 nq
            generalize wr2.drewN nq = wr3 at hnx3 ⊢
            cases q2
            · go_wp2
              all_goals (try (exfalso; omega))
              all_goals
                go_roundg t2.size
                case measure => omega
                case rel => exact ⟨t2, rfl, rfl, by omega, hA2, hnx3⟩
            · have hA4 := Lib.hid (show Asc (t2.extract 16 t2.size) from Asc.part (show Asc t2 from hA2.out) 16 t2.size)
              have hs4 := size_part t2 16 (by omega)
              obtain ⟨t4, ht4⟩ : ∃ t4, t2.extract 16 t2.size = t4 := ⟨_, rfl⟩
              rw [ht4] at hA4 hs4
              have hl4 : t4.size < t.size := by omega
              have hc4 : t4.size ≤ 100000000 := by omega
              have gn16 : 16 ≤ t2.size := by omega
              have gI16 : (16 : Int) ≤ (t2.size : Int) := by omega
              clear hs4
              go_wp2
              all_goals (try (exfalso; omega))
              go_loopg [0] t4.size (fun m sv wr => ∃ v : ByteArray, m = v.size ∧ sv = .string v ∧ v.size < t.size ∧ v.size ≤ 100000000 ∧ Hid (Asc v) ∧ Below w.heap.size w wr)
              case atStart => exact ⟨t4, rfl, rfl, hl4, hc4, hA4, hnx3⟩
              case round =>
                obtain ⟨v, rfl, rfl, hvt, hvc, hva, hnv⟩ := hrel
                by_cases h32 : 32 < v.size
                · have q8 := size_part v 8 (by omega)
                  have q16 := size_part v 16 (by omega)
                  have q24 := size_part v 24 (by omega)
                  obtain ⟨v8, hv8⟩ : ∃ v8, v.extract 8 v.size = v8 := ⟨_, rfl⟩
                  obtain ⟨v16, hv16⟩ : ∃ v16, v.extract 16 v.size = v16 := ⟨_, rfl⟩
                  obtain ⟨v24, hv24⟩ : ∃ v24, v.extract 24 v.size = v24 := ⟨_, rfl⟩
                  rw [hv8] at q8
                  rw [hv16] at q16
                  rw [hv24] at q24
                  obtain ⟨z1, hz1⟩ := HWORD.out v (by omega) (by omega)
                  obtain ⟨z2, hz2⟩ := HWORD.out v8 (by omega) (by omega)
                  obtain ⟨z3, hz3⟩ := HWORD.out v16 (by omega) (by omega)
                  obtain ⟨z4, hz4⟩ := HWORD.out v24 (by omega) (by omega)
                  have HZ1 := Lib.hid hz1
                  have HZ2 := Lib.hid hz2
                  have HZ3 := Lib.hid hz3
                  have HZ4 := Lib.hid hz4
                  have g32 : decide ((32 : Int) < (v.size : Int)) = true := decide_eq_true (by omega)
                  have m8 : 8 ≤ v.size := by omega
                  have m16 : 16 ≤ v.size := by omega
                  have m24 : 24 ≤ v.size := by omega
                  have m32 : 32 ≤ v.size := by omega
                  have I8 : (8 : Int) ≤ (v.size : Int) := by omega
                  have I16 : (16 : Int) ≤ (v.size : Int) := by omega
                  have I24 : (24 : Int) ≤ (v.size : Int) := by omega
                  have I32 : (32 : Int) ≤ (v.size : Int) := by omega
                  clear hz1 hz2 hz3 hz4 q8 q16 q24
                  go_wp2_with fail
                  all_goals (try (exfalso; omega))
                  refine wp_region_quiet_lit (by kernel_rfl) (by kernel_rfl) ?_
                  repeat (go_big_quiet_step (fail))
                  go_big_quiet_want
                  go_big_quiet_op
                  apply Exists.intro
                  refine ⟨fun _ => ?_, ?_⟩
                  · exact Calls.quiet_of (HZ1.out _)
                  go_big_quiet_on
                  repeat (go_big_quiet_step (fail))
                  go_big_quiet_want
                  go_big_quiet_op
                  apply Exists.intro
                  refine ⟨fun _ => ?_, ?_⟩
                  · exact Calls.quiet_of (HZ2.out _)
                  go_big_quiet_on
                  repeat (go_big_quiet_step (fail))
                  go_big_quiet_want
                  go_big_quiet_op
                  apply Exists.intro
                  refine ⟨fun _ => ?_, ?_⟩
                  · exact Calls.quiet_of (HZ3.out _)
                  go_big_quiet_on
                  repeat (go_big_quiet_step (fail))
                  go_big_quiet_want
                  go_big_quiet_op
                  apply Exists.intro
                  refine ⟨fun _ => ?_, ?_⟩
                  · exact Calls.quiet_of (HZ4.out _)
                  go_big_quiet_on
                  repeat (go_big_quiet_step (fail))
                  refine wpQuiet_nil ?_
                  intro _ hw'
                  obtain ⟨nr, hw''⟩ := hw'
                  subst hw''
                  generalize (bits BinOp.and IntKind.u64 (bits BinOp.or IntKind.u64 (bits BinOp.or IntKind.u64 z1 z2) (bits BinOp.or IntKind.u64 z3 z4)) 9259542123273814144 == 0) = q3
                  have hnw := gbel_drewN hnv nr
                  cases q3
                  · go_wp2
                    all_goals (try (exfalso; omega))
                    all_goals
                      go_roundg v.size
                      case measure => omega
                      case rel => exact ⟨v, rfl, rfl, by omega, hva, hnw⟩
                  · have hA5 := Lib.hid (show Asc (v.extract 32 v.size) from Asc.part (show Asc v from hva.out) 32 v.size)
                    have hs5 := size_part v 32 (by omega)
                    obtain ⟨v5, hv5⟩ : ∃ v5, v.extract 32 v.size = v5 := ⟨_, rfl⟩
                    rw [hv5] at hA5 hs5
                    have hl5 : v5.size < v.size := by omega
                    clear hs5
                    go_wp2
                    all_goals (try (exfalso; omega))
                    all_goals
                      go_roundg v5.size
                      case measure => omega
                      case rel => exact ⟨v5, rfl, rfl, by omega, by omega, hA5, hnw⟩
                · have g32 : decide ((32 : Int) < (v.size : Int)) = false := decide_eq_false (by omega)
                  go_wp2_with fail
                  all_goals (try (exfalso; omega))
                  go_quiet (fail)
                  have hnw := gbel_drewN hnv nq
                  go_wp2
                  all_goals (try (exfalso; omega))
                  all_goals
                    go_roundg v.size
                    case measure => omega
                    case rel => exact ⟨v, rfl, rfl, by omega, hva, hnw⟩
          · have g16 : decide ((16 : Int) < (t2.size : Int)) = false := decide_eq_false (by omega)
            go_wp2_with fail
            all_goals (try (exfalso; omega))
            go_quiet (fail)
            have hnx3 := gbel_drewN hnx2 nq
            go_wp2
            all_goals (try (exfalso; omega))
            all_goals
              go_roundg t2.size
              case measure => omega
              case rel => exact ⟨t2, rfl, rfl, by omega, hA2, hnx3⟩
      · have g8 : decide ((8 : Int) < (t1.size : Int)) = false := decide_eq_false (by omega)
        go_wp2
        all_goals (try (exfalso; omega))
        all_goals
          go_roundg t1.size
          case measure => omega
          case rel => exact ⟨t1, rfl, rfl, by omega, hA1, hnx⟩
end Go.Proofs.YtjbciamhhfcdoaaGreatDoor
namespace Hs
open Go Go.RowKit
theorem below_iter {w : World} (s : ByteArray) (p : Nat) : Below w.heap.size w (w.iter s p) := (Below.refl _ _).alloc (Nat.le_refl _) _
end Hs
namespace Go.Proofs.YtjbciamhhfcdoaaGreatDoor
open Go.RowKit Hs
set_option linter.unusedSimpArgs false
set_option linter.unusedVariables false
theorem lib_runeCount_ascii (s : ByteArray) (w : World) (hs : s.size ≤ 100000000) (ha : Asc s) : Calls Tryz.prog 237 #[.string s] w fun e w' => e = .returned (.int .i64 (s.size : Int)) ∧ Below w.heap.size w w' := by
  refine (Tryz.utf8_RuneCountInString_ascii s w (by omega) ?_).mono ?_
  · intro j b hb
    have h1 : (un s)[j]? = some b := hb
    exact of_decide_eq_true (List.all_eq_true.1 ha b (List.mem_of_getElem? h1))
  · rintro e w' ⟨rfl, rfl⟩
    exact ⟨rfl, below_iter _ _⟩
set_option maxRecDepth 20000 in
set_option maxHeartbeats 4000000 in
theorem py_toASCII_ascii (s : ByteArray) (w : World) (hs : s.size ≤ 100000000) (ha : Asc s) : Calls Tryz.prog 212 #[.string s] w fun e w' => (∃ t c, e = .returned (.tuple #[.string t, .int .i64 c]) ∧ ((c = 0 ∧ toAsciiA (un s) = some (un t)) ∨ (c ≠ 0 ∧ t = ⟨#[]⟩ ∧ toAsciiA (un s) = none))) ∧ Below w.heap.size w w' := by
  have hlen : (un s).length = s.size := length_un s
  have hdef : toAsciiA (un s) = if 256 < s.size then none else if labelV (lower (un s)) = true then some (lower (un s)) else none := by unfold toAsciiA; rw [hlen]
  have hv := fun W => utf8_valid_ascii s W hs ha
  have hr := fun W => lib_runeCount_ascii s W hs ha
  have HV := Lib.hid hv
  have HR := Lib.hid hr
  have HDEF := Lib.hid hdef
  have hlow := fun W => ascii_lower s W hs
  have HLOW := Lib.hid hlow
  have hval := fun W => py_valid (mk (lower (un s))) W (by rw [size_mk, length_lower, hlen]; exact hs)
  rw [un_mk] at hval
  obtain ⟨ok, hok⟩ : ∃ ok, ok = labelV (lower (un s)) := ⟨_, rfl⟩
  rw [← hok] at hdef
  simp only [← hok] at hval
  have HVAL := Lib.hid hval
  have HDEF2 := Lib.hid hdef
  obtain ⟨n, hn⟩ : ∃ n, n = s.size := ⟨_, rfl⟩
  rw [← hn] at hs
  have hsI : (s.size : Int) = (n : Int) := by rw [hn]
  have HN := Lib.hid hn
  clear hv hr hdef hlow hval hok hlen HDEF hn
  go_enter Tryz.func212, Tryz.ntmps212
  go_wp2_with fail
  refine (HV.out _).mono ?_; rintro e w1 ⟨rfl, hb1⟩
  have HB1 := Lib.hid hb1
  clear hb1
  go_wp2_with fail
  all_goals (try (exfalso; omega))
  refine (HR.out _).mono ?_; rintro e w2 ⟨rfl, hb2⟩
  have HB2 := Lib.hid (HB1.out.trans (hb2.mono HB1.out.size))
  clear hb2
  by_cases h256 : 256 < n
  · have g1 : decide ((256 : Int) < (n : Int)) = true := decide_eq_true (by omega)
    have hfin := Lib.hid (HDEF2.out.trans (if_pos (by rw [← HN.out]; exact h256)))
    go_wp2
    all_goals (try (exfalso; omega))
    go_ret2
    exact ⟨⟨_, _, rfl, .inr ⟨by decide, rfl, hfin.out⟩⟩, HB2.out⟩
  · have g1 : decide ((256 : Int) < (n : Int)) = false := decide_eq_false (by omega)
    have hfin := Lib.hid (HDEF2.out.trans (if_neg (by rw [← HN.out]; exact h256)))
    go_wp2_with fail
    all_goals (try (exfalso; omega))
    refine (HLOW.out _).mono ?_; rintro e w3 ⟨rfl, hb3⟩
    have HB3 := Lib.hid (HB2.out.trans (hb3.mono HB2.out.size))
    clear hb3
    go_wp2_with fail
    all_goals (try (exfalso; omega))
    refine (HR.out _).mono ?_; rintro e w4 ⟨rfl, hb4⟩
    have HB4 := Lib.hid (HB3.out.trans (hb4.mono HB3.out.size))
    clear hb4
    go_wp2_with fail
    all_goals (try (exfalso; omega))
    refine (HVAL.out _).mono ?_; rintro e w5 ⟨rfl, hb5⟩
    have HB5 := Lib.hid (HB4.out.trans (hb5.mono HB4.out.size))
    clear hb5
    cases ok
    · have hf := Lib.hid (hfin.out.trans (if_neg (by simp)))
      go_wp2
      all_goals (try (exfalso; omega))
      go_ret2
      exact ⟨⟨_, _, rfl, .inr ⟨by decide, rfl, hf.out⟩⟩, HB5.out⟩
    · have hf := Lib.hid (hfin.out.trans (if_pos rfl))
      go_wp2
      all_goals (try (exfalso; omega))
      go_ret2
      exact ⟨⟨_, _, rfl, .inl ⟨rfl, by rw [hf.out, un_mk]⟩⟩, HB5.out⟩
end Go.Proofs.YtjbciamhhfcdoaaGreatDoor
