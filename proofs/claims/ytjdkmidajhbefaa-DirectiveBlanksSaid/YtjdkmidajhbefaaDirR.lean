/- The walks of the reference of the layer directive: skip and element. Conditions: the text's length is bounded. -/
import Derived.Test.YtjdkmidajhbefaaQuotedR
import Derived.Test.YtjdkmidajhbefaaPlainDir
import Derived.Test.YtjdkmidajhbefaaDirV
namespace Go.Proofs.Ytjdkmidajhbefaa
open Go.RowKit Hs
set_option linter.unusedSimpArgs false
set_option linter.unusedVariables false

set_option maxHeartbeats 1000000 in
theorem r18_skip (s : ByteArray) (i : Nat) (w : World) (hi : i ≤ s.size) (hs : s.size ≤ 100000000) : Calls Try.prog 48 #[.string s, .int .i64 (i : Int)] w fun e w' => e = .returned (.int .i64 (blkEnd (un s) i)) ∧ w = w' := by
  go_enter Try.func48, Try.ntmps48
  go_wp2
  go_loop [1] (fun v => ∃ k : Nat, v = .int .i64 k ∧ k ≤ s.size ∧ Hid (blkEnd (un s) i = blkEnd (un s) k)) (fun v => s.size - (intOf v).toNat)
  case atStart => exact ⟨i, rfl, hi, rfl⟩
  case round =>
    obtain ⟨k, rfl, hk, hbl⟩ := hrel
    by_cases hlt : k < s.size
    · cases hb : isBlank (s[k]'hlt)
      · have hfin := Lib.hid (hbl.out.trans (blkEnd_no (un s) k (by rw [length_un]; exact hlt) hb))
        clear hbl
        go_wp2_with (go_at_call 59; refine (ref01_isBlank _ _ rfl _).mono ?_; rintro e w' ⟨rfl, rfl⟩)
        go_ret
        exact ⟨by rw [hfin.out]; rfl, rfl⟩
      · have hst := Lib.hid (hbl.out.trans (blkEnd_yes (un s) k (by rw [length_un]; exact hlt) hb))
        clear hbl
        go_wp2_with (go_at_call 59; refine (ref01_isBlank _ _ rfl _).mono ?_; rintro e w' ⟨rfl, rfl⟩)
        go_round
        case rel => exact ⟨k + 1, by go_num, by omega, hst⟩
        case measure => simp [intOf]; omega
    · obtain rfl : k = s.size := by omega
      have hfin := Lib.hid (hbl.out.trans (blkEnd_out (un s) s.size (by rw [length_un]; exact Nat.le_refl _)))
      clear hbl
      go_wp2
      go_ret
      exact ⟨by rw [hfin.out]; rfl, rfl⟩


set_option maxHeartbeats 1000000 in
theorem r18_element_no (s : ByteArray) (i n m : Nat) (nm : Bs) (w : World) (hi : i ≤ s.size) (hs : s.size ≤ 100000000) (hn : n = tokEnd (un s) i) (hm : m = blkEnd (un s) n) (hin : n = i) (hnm : n ≤ m) (hms : m ≤ s.size) (hnmv : nm = lower (seg (un s) i n)) : Calls Try.prog 49 #[.string s, .int .i64 (i : Int)] w fun e w' => ∃ d : Dir, e = .returned (.tuple #[dirVal d, .int .i64 0, .bool false]) ∧ Below w.heap.size w w' := by
  have ex := Lib.hid (extract_seg s i n)
  have hexs : (s.extract i n).size ≤ 100000000 := by rw [ByteArray.size_extract]; omega
  have hlow : Hid (∀ W : World, Calls Try.prog 55 #[.string (s.extract i n)] W fun e w' => e = .returned (.string (mk nm)) ∧ Below W.heap.size W w') := Lib.hid fun W => by
    have := ref01_lower (s.extract i n) W hexs
    rw [ex.out, un_mk, ← hnmv] at this
    rw [ex.out]
    exact this
  have HN := Lib.hid hn
  have HM := Lib.hid hm
  clear hn hm hnmv ex
  go_enter Try.func49, Try.ntmps49
  go_wp2_with fail
  refine (r_token s i _ hs).mono ?_; rintro e w' ⟨rfl, rfl⟩
  rw [← HN.out]
  go_wp2_with fail
  have r0 := Blk3.new w 41 (.string ⟨#[]⟩) (.string ⟨#[]⟩) (.bool false)
  have B0 := ((Below.refl w.heap.size w).alloc (Nat.le_refl _) (.cells #[.string ⟨#[]⟩, .string ⟨#[]⟩, .bool false] 41))
  refine bodyPost_ret (results_ctt rfl _ _ w.heap.size 41 _ _ rfl r0 Try.underlying41 rfl dirSize) rfl ?_
  exact ⟨([], [], false), rfl, B0⟩

set_option maxHeartbeats 1000000 in
theorem r18_element_bare (s : ByteArray) (i n m : Nat) (nm : Bs) (w : World) (hi : i ≤ s.size) (hs : s.size ≤ 100000000) (hn : n = tokEnd (un s) i) (hm : m = blkEnd (un s) n) (hin : i < n) (hnm : n ≤ m) (hms : m ≤ s.size) (hnmv : nm = lower (seg (un s) i n)) (ha : atN (un s) m ≠ 61) (hend : m < s.size) : Calls Try.prog 49 #[.string s, .int .i64 (i : Int)] w fun e w' => e = .returned (.tuple #[dirVal (nm, [], false), .int .i64 (m : Int), .bool true]) ∧ Below w.heap.size w w' := by
  have ex := Lib.hid (extract_seg s i n)
  have hexs : (s.extract i n).size ≤ 100000000 := by rw [ByteArray.size_extract]; omega
  have hlow : Hid (∀ W : World, Calls Try.prog 55 #[.string (s.extract i n)] W fun e w' => e = .returned (.string (mk nm)) ∧ Below W.heap.size W w') := Lib.hid fun W => by
    have := ref01_lower (s.extract i n) W hexs
    rw [ex.out, un_mk, ← hnmv] at this
    rw [ex.out]
    exact this
  have HN := Lib.hid hn
  have HM := Lib.hid hm
  clear hn hm hnmv ex
  rw [atN_un s m hend] at ha
  go_enter Try.func49, Try.ntmps49
  go_wp2_with fail
  refine (r_token s i _ hs).mono ?_; rintro e w' ⟨rfl, rfl⟩
  rw [← HN.out]
  go_wp2_with fail
  refine (hlow.out _).mono ?_; rintro e w1 ⟨rfl, hb1⟩
  have r1 := (Blk3.new w 41 (.string ⟨#[]⟩) (.string ⟨#[]⟩) (.bool false)).below hb1
  have B1 := (((Below.refl w.heap.size w).alloc (Nat.le_refl _) _).trans (hb1.mono (by simp)))
  clear hb1
  go_wp2_with fail
  have d2 := Blk3.new w1 41 (.string (mk nm)) (.string ⟨#[]⟩) (.bool false)
  have r2 := r1.alloc (.cells #[.string (mk nm), .string ⟨#[]⟩, .bool false] 41)
  have B2 := B1.alloc B1.size (.cells #[.string (mk nm), .string ⟨#[]⟩, .bool false] 41)
  have hne : w.heap.size ≠ w1.heap.size := by have := r1.lt; omega
  have hne2 : w1.heap.size ≠ w.heap.size := fun e => hne e.symm
  generalize w1.alloc (.cells #[.string (mk nm), .string ⟨#[]⟩, .bool false] 41) = W2 at *
  have hwl := r1.lt
  generalize w1.heap.size = g at *
  clear r1 B1
  refine (r18_skip s n _ (by omega) hs).mono ?_; rintro e w' ⟨rfl, rfl⟩
  rw [← HM.out]
  have c0 := d2.c0; have c1 := d2.c1; have c2 := d2.c2; have e1 := d2.f1; have e2 := d2.f2
  have k0 := r2.c0; have k1 := r2.c1; have k2 := r2.c2
  have f0 := r2.f0; have f1 := r2.f1; have f2 := r2.f2
  go_wp2_with fail
  refine bodyPost_ret (results_ctt rfl _ _ w.heap.size 41 _ _ rfl (((r2.set0 _).set1 _).set2 _) Try.underlying41 rfl dirSize) rfl ?_
  exact ⟨rfl, ((B2.setCell (by simp) _).setCell (by simp) _).setCell (by simp) _⟩

set_option maxHeartbeats 1000000 in
theorem r18_element_end (s : ByteArray) (i n m : Nat) (nm : Bs) (w : World) (hi : i ≤ s.size) (hs : s.size ≤ 100000000) (hn : n = tokEnd (un s) i) (hm : m = blkEnd (un s) n) (hin : i < n) (hnm : n ≤ m) (hms : m ≤ s.size) (hnmv : nm = lower (seg (un s) i n)) (hend : m = s.size) : Calls Try.prog 49 #[.string s, .int .i64 (i : Int)] w fun e w' => e = .returned (.tuple #[dirVal (nm, [], false), .int .i64 (m : Int), .bool true]) ∧ Below w.heap.size w w' := by
  have ex := Lib.hid (extract_seg s i n)
  have hexs : (s.extract i n).size ≤ 100000000 := by rw [ByteArray.size_extract]; omega
  have hlow : Hid (∀ W : World, Calls Try.prog 55 #[.string (s.extract i n)] W fun e w' => e = .returned (.string (mk nm)) ∧ Below W.heap.size W w') := Lib.hid fun W => by
    have := ref01_lower (s.extract i n) W hexs
    rw [ex.out, un_mk, ← hnmv] at this
    rw [ex.out]
    exact this
  have HN := Lib.hid hn
  have HM := Lib.hid hm
  clear hn hm hnmv ex
  go_enter Try.func49, Try.ntmps49
  go_wp2_with fail
  refine (r_token s i _ hs).mono ?_; rintro e w' ⟨rfl, rfl⟩
  rw [← HN.out]
  go_wp2_with fail
  refine (hlow.out _).mono ?_; rintro e w1 ⟨rfl, hb1⟩
  have r1 := (Blk3.new w 41 (.string ⟨#[]⟩) (.string ⟨#[]⟩) (.bool false)).below hb1
  have B1 := (((Below.refl w.heap.size w).alloc (Nat.le_refl _) _).trans (hb1.mono (by simp)))
  clear hb1
  go_wp2_with fail
  have d2 := Blk3.new w1 41 (.string (mk nm)) (.string ⟨#[]⟩) (.bool false)
  have r2 := r1.alloc (.cells #[.string (mk nm), .string ⟨#[]⟩, .bool false] 41)
  have B2 := B1.alloc B1.size (.cells #[.string (mk nm), .string ⟨#[]⟩, .bool false] 41)
  have hne : w.heap.size ≠ w1.heap.size := by have := r1.lt; omega
  have hne2 : w1.heap.size ≠ w.heap.size := fun e => hne e.symm
  generalize w1.alloc (.cells #[.string (mk nm), .string ⟨#[]⟩, .bool false] 41) = W2 at *
  have hwl := r1.lt
  generalize w1.heap.size = g at *
  clear r1 B1
  refine (r18_skip s n _ (by omega) hs).mono ?_; rintro e w' ⟨rfl, rfl⟩
  rw [← HM.out]
  have c0 := d2.c0; have c1 := d2.c1; have c2 := d2.c2; have e1 := d2.f1; have e2 := d2.f2
  have k0 := r2.c0; have k1 := r2.c1; have k2 := r2.c2
  have f0 := r2.f0; have f1 := r2.f1; have f2 := r2.f2
  go_wp2_with fail
  refine bodyPost_ret (results_ctt rfl _ _ w.heap.size 41 _ _ rfl (((r2.set0 _).set1 _).set2 _) Try.underlying41 rfl dirSize) rfl ?_
  exact ⟨by rw [hend]; rfl, ((B2.setCell (by simp) _).setCell (by simp) _).setCell (by simp) _⟩

set_option maxHeartbeats 1000000 in
theorem r18_element_quote (s : ByteArray) (i n m : Nat) (nm : Bs) (w : World) (hi : i ≤ s.size) (hs : s.size ≤ 100000000) (hn : n = tokEnd (un s) i) (hm : m = blkEnd (un s) n) (hin : i < n) (hnm : n ≤ m) (hms : m ≤ s.size) (hnmv : nm = lower (seg (un s) i n)) (k : Nat) (hk : k = blkEnd (un s) (m + 1)) (ha : atN (un s) m = 61) (hend : m < s.size) (v : Bs) (n2 : Nat) (z : Int) (hkend : k < s.size) (hq : atN (un s) k = 34) (hz : z = 0) (hv : parseQ (un s) k = ⟨v, n2, z⟩) : Calls Try.prog 49 #[.string s, .int .i64 (i : Int)] w fun e w' => e = .returned (.tuple #[dirVal (nm, v, true), .int .i64 (n2 : Int), .bool true]) ∧ Below w.heap.size w w' := by
  have ex := Lib.hid (extract_seg s i n)
  have hexs : (s.extract i n).size ≤ 100000000 := by rw [ByteArray.size_extract]; omega
  have hlow : Hid (∀ W : World, Calls Try.prog 55 #[.string (s.extract i n)] W fun e w' => e = .returned (.string (mk nm)) ∧ Below W.heap.size W w') := Lib.hid fun W => by
    have := ref01_lower (s.extract i n) W hexs
    rw [ex.out, un_mk, ← hnmv] at this
    rw [ex.out]
    exact this
  have HN := Lib.hid hn
  have HM := Lib.hid hm
  clear hn hm hnmv ex
  have HK := Lib.hid hk
  have hkm : m + 1 ≤ k := by rw [hk]; exact blkEnd_ge _ _
  have hks : k ≤ s.size := by rw [hk]; have := blkEnd_le (un s) (m + 1) (by rw [length_un]; omega); rwa [length_un] at this
  rw [atN_un s m hend] at ha
  clear hk
  have hc : Hid (∀ W : World, Calls Try.prog 19 #[.string s, .int .i64 (k : Int)] W fun e w' => e = .returned (.tuple #[.string (mk v), .int .i64 (n2 : Int), .int .i64 z]) ∧ Below W.heap.size W w') := Lib.hid fun W => by
    have := r_parse s k W hs
    rw [hv] at this
    exact this
  clear hv
  rw [atN_un s k hkend] at hq
  subst hz
  go_enter Try.func49, Try.ntmps49
  go_wp2_with fail
  refine (r_token s i _ hs).mono ?_; rintro e w' ⟨rfl, rfl⟩
  rw [← HN.out]
  go_wp2_with fail
  refine (hlow.out _).mono ?_; rintro e w1 ⟨rfl, hb1⟩
  have r1 := (Blk3.new w 41 (.string ⟨#[]⟩) (.string ⟨#[]⟩) (.bool false)).below hb1
  have B1 := (((Below.refl w.heap.size w).alloc (Nat.le_refl _) _).trans (hb1.mono (by simp)))
  clear hb1
  go_wp2_with fail
  have d2 := Blk3.new w1 41 (.string (mk nm)) (.string ⟨#[]⟩) (.bool false)
  have r2 := r1.alloc (.cells #[.string (mk nm), .string ⟨#[]⟩, .bool false] 41)
  have B2 := B1.alloc B1.size (.cells #[.string (mk nm), .string ⟨#[]⟩, .bool false] 41)
  have hne : w.heap.size ≠ w1.heap.size := by have := r1.lt; omega
  have hne2 : w1.heap.size ≠ w.heap.size := fun e => hne e.symm
  generalize w1.alloc (.cells #[.string (mk nm), .string ⟨#[]⟩, .bool false] 41) = W2 at *
  have hwl := r1.lt
  generalize w1.heap.size = g at *
  clear r1 B1
  refine (r18_skip s n _ (by omega) hs).mono ?_; rintro e w' ⟨rfl, rfl⟩
  rw [← HM.out]
  have c0 := d2.c0; have c1 := d2.c1; have c2 := d2.c2; have e1 := d2.f1; have e2 := d2.f2
  have k0 := r2.c0; have k1 := r2.c1; have k2 := r2.c2
  have f0 := r2.f0; have f1 := r2.f1; have f2 := r2.f2
  go_wp2_with fail
  have r3 := r2.other (p := g) hne 2 (.bool true)
  have d3 := d2.set2 (.bool true)
  have B3 := B2.setCell (p := ⟨g, 2, none⟩) (by have := hwl; simp; omega) (.bool true)
  clear r2 d2 B2 c0 c1 c2 e1 e2 k0 k1 k2 f0 f1 f2
  generalize W2.setCell ⟨g, 2, none⟩ (.bool true) = W3 at *
  refine (r18_skip s (m + 1) _ (by omega) hs).mono ?_; rintro e w' ⟨rfl, rfl⟩
  rw [← HK.out]
  have c0 := d3.c0; have c1 := d3.c1; have c2 := d3.c2; have e1 := d3.f1; have e2 := d3.f2
  have k0 := r3.c0; have k1 := r3.c1; have k2 := r3.c2
  have f0 := r3.f0; have f1 := r3.f1; have f2 := r3.f2
  go_wp2_with fail
  refine (hc.out _).mono ?_; rintro e w4 ⟨rfl, hb4⟩
  have r4 := r3.below hb4
  have d4 := d3.below hb4
  have B4 := B3.trans (hb4.mono B3.size)
  clear r3 d3 B3 c0 c1 c2 e1 e2 k0 k1 k2 f0 f1 f2 hb4
  have c0 := d4.c0; have c1 := d4.c1; have c2 := d4.c2; have e1 := d4.f1; have e2 := d4.f2
  have k0 := r4.c0; have k1 := r4.c1; have k2 := r4.c2
  have f0 := r4.f0; have f1 := r4.f1; have f2 := r4.f2
  go_wp2_with fail
  refine bodyPost_ret (results_ctt rfl _ _ w.heap.size 41 _ _ rfl ((((r4.other (p := g) hne 1 _).set0 _).set1 _).set2 _) Try.underlying41 rfl dirSize) rfl ?_
  exact ⟨rfl, (((B4.setCell (p := ⟨g, 1, none⟩) (by have := hwl; simp; omega) _).setCell (by simp) _).setCell (by simp) _).setCell (by simp) _⟩

set_option maxHeartbeats 1000000 in
theorem r18_element_bad (s : ByteArray) (i n m : Nat) (nm : Bs) (w : World) (hi : i ≤ s.size) (hs : s.size ≤ 100000000) (hn : n = tokEnd (un s) i) (hm : m = blkEnd (un s) n) (hin : i < n) (hnm : n ≤ m) (hms : m ≤ s.size) (hnmv : nm = lower (seg (un s) i n)) (k : Nat) (hk : k = blkEnd (un s) (m + 1)) (ha : atN (un s) m = 61) (hend : m < s.size) (v : Bs) (n2 : Nat) (z : Int) (hkend : k < s.size) (hq : atN (un s) k = 34) (hz : z ≠ 0) (hv : parseQ (un s) k = ⟨v, n2, z⟩) : Calls Try.prog 49 #[.string s, .int .i64 (i : Int)] w fun e w' => e = .returned (.tuple #[dirVal (nm, v, true), .int .i64 (n2 : Int), .bool false]) ∧ Below w.heap.size w w' := by
  have ex := Lib.hid (extract_seg s i n)
  have hexs : (s.extract i n).size ≤ 100000000 := by rw [ByteArray.size_extract]; omega
  have hlow : Hid (∀ W : World, Calls Try.prog 55 #[.string (s.extract i n)] W fun e w' => e = .returned (.string (mk nm)) ∧ Below W.heap.size W w') := Lib.hid fun W => by
    have := ref01_lower (s.extract i n) W hexs
    rw [ex.out, un_mk, ← hnmv] at this
    rw [ex.out]
    exact this
  have HN := Lib.hid hn
  have HM := Lib.hid hm
  clear hn hm hnmv ex
  have HK := Lib.hid hk
  have hkm : m + 1 ≤ k := by rw [hk]; exact blkEnd_ge _ _
  have hks : k ≤ s.size := by rw [hk]; have := blkEnd_le (un s) (m + 1) (by rw [length_un]; omega); rwa [length_un] at this
  rw [atN_un s m hend] at ha
  clear hk
  have hc : Hid (∀ W : World, Calls Try.prog 19 #[.string s, .int .i64 (k : Int)] W fun e w' => e = .returned (.tuple #[.string (mk v), .int .i64 (n2 : Int), .int .i64 z]) ∧ Below W.heap.size W w') := Lib.hid fun W => by
    have := r_parse s k W hs
    rw [hv] at this
    exact this
  clear hv
  rw [atN_un s k hkend] at hq
  go_enter Try.func49, Try.ntmps49
  go_wp2_with fail
  refine (r_token s i _ hs).mono ?_; rintro e w' ⟨rfl, rfl⟩
  rw [← HN.out]
  go_wp2_with fail
  refine (hlow.out _).mono ?_; rintro e w1 ⟨rfl, hb1⟩
  have r1 := (Blk3.new w 41 (.string ⟨#[]⟩) (.string ⟨#[]⟩) (.bool false)).below hb1
  have B1 := (((Below.refl w.heap.size w).alloc (Nat.le_refl _) _).trans (hb1.mono (by simp)))
  clear hb1
  go_wp2_with fail
  have d2 := Blk3.new w1 41 (.string (mk nm)) (.string ⟨#[]⟩) (.bool false)
  have r2 := r1.alloc (.cells #[.string (mk nm), .string ⟨#[]⟩, .bool false] 41)
  have B2 := B1.alloc B1.size (.cells #[.string (mk nm), .string ⟨#[]⟩, .bool false] 41)
  have hne : w.heap.size ≠ w1.heap.size := by have := r1.lt; omega
  have hne2 : w1.heap.size ≠ w.heap.size := fun e => hne e.symm
  generalize w1.alloc (.cells #[.string (mk nm), .string ⟨#[]⟩, .bool false] 41) = W2 at *
  have hwl := r1.lt
  generalize w1.heap.size = g at *
  clear r1 B1
  refine (r18_skip s n _ (by omega) hs).mono ?_; rintro e w' ⟨rfl, rfl⟩
  rw [← HM.out]
  have c0 := d2.c0; have c1 := d2.c1; have c2 := d2.c2; have e1 := d2.f1; have e2 := d2.f2
  have k0 := r2.c0; have k1 := r2.c1; have k2 := r2.c2
  have f0 := r2.f0; have f1 := r2.f1; have f2 := r2.f2
  go_wp2_with fail
  have r3 := r2.other (p := g) hne 2 (.bool true)
  have d3 := d2.set2 (.bool true)
  have B3 := B2.setCell (p := ⟨g, 2, none⟩) (by have := hwl; simp; omega) (.bool true)
  clear r2 d2 B2 c0 c1 c2 e1 e2 k0 k1 k2 f0 f1 f2
  generalize W2.setCell ⟨g, 2, none⟩ (.bool true) = W3 at *
  refine (r18_skip s (m + 1) _ (by omega) hs).mono ?_; rintro e w' ⟨rfl, rfl⟩
  rw [← HK.out]
  have c0 := d3.c0; have c1 := d3.c1; have c2 := d3.c2; have e1 := d3.f1; have e2 := d3.f2
  have k0 := r3.c0; have k1 := r3.c1; have k2 := r3.c2
  have f0 := r3.f0; have f1 := r3.f1; have f2 := r3.f2
  go_wp2_with fail
  refine (hc.out _).mono ?_; rintro e w4 ⟨rfl, hb4⟩
  have r4 := r3.below hb4
  have d4 := d3.below hb4
  have B4 := B3.trans (hb4.mono B3.size)
  clear r3 d3 B3 c0 c1 c2 e1 e2 k0 k1 k2 f0 f1 f2 hb4
  have c0 := d4.c0; have c1 := d4.c1; have c2 := d4.c2; have e1 := d4.f1; have e2 := d4.f2
  have k0 := r4.c0; have k1 := r4.c1; have k2 := r4.c2
  have f0 := r4.f0; have f1 := r4.f1; have f2 := r4.f2
  go_wp2_with fail
  refine bodyPost_ret (results_ctt rfl _ _ w.heap.size 41 _ _ rfl ((((r4.other (p := g) hne 1 _).set0 _).set1 _).set2 _) Try.underlying41 rfl dirSize) rfl ?_
  exact ⟨by first | rfl | (rw [show (z == 0) = false from by simp [hz]]; rfl) | (rw [decide_eq_false hz]; rfl), (((B4.setCell (p := ⟨g, 1, none⟩) (by have := hwl; simp; omega) _).setCell (by simp) _).setCell (by simp) _).setCell (by simp) _⟩

set_option maxHeartbeats 1000000 in
theorem r18_element_tok (s : ByteArray) (i n m : Nat) (nm : Bs) (w : World) (hi : i ≤ s.size) (hs : s.size ≤ 100000000) (hn : n = tokEnd (un s) i) (hm : m = blkEnd (un s) n) (hin : i < n) (hnm : n ≤ m) (hms : m ≤ s.size) (hnmv : nm = lower (seg (un s) i n)) (k : Nat) (hk : k = blkEnd (un s) (m + 1)) (ha : atN (un s) m = 61) (hend : m < s.size) (n2 : Nat) (hkend : k < s.size) (hq : atN (un s) k ≠ 34) (hn2 : n2 = tokEnd (un s) k) : Calls Try.prog 49 #[.string s, .int .i64 (i : Int)] w fun e w' => e = .returned (.tuple #[dirVal (nm, seg (un s) k n2, true), .int .i64 (n2 : Int), .bool (decide (k < n2))]) ∧ Below w.heap.size w w' := by
  have ex := Lib.hid (extract_seg s i n)
  have hexs : (s.extract i n).size ≤ 100000000 := by rw [ByteArray.size_extract]; omega
  have hlow : Hid (∀ W : World, Calls Try.prog 55 #[.string (s.extract i n)] W fun e w' => e = .returned (.string (mk nm)) ∧ Below W.heap.size W w') := Lib.hid fun W => by
    have := ref01_lower (s.extract i n) W hexs
    rw [ex.out, un_mk, ← hnmv] at this
    rw [ex.out]
    exact this
  have HN := Lib.hid hn
  have HM := Lib.hid hm
  clear hn hm hnmv ex
  have HK := Lib.hid hk
  have hkm : m + 1 ≤ k := by rw [hk]; exact blkEnd_ge _ _
  have hks : k ≤ s.size := by rw [hk]; have := blkEnd_le (un s) (m + 1) (by rw [length_un]; omega); rwa [length_un] at this
  rw [atN_un s m hend] at ha
  clear hk
  have hge2 : k ≤ n2 := by rw [hn2]; exact tokEnd_ge _ _
  have hle2 : n2 ≤ s.size := by rw [hn2]; have := tokEnd_le (un s) k (by rw [length_un]; exact hks); rwa [length_un] at this
  have ex := Lib.hid (extract_seg s k n2)
  have HN2 := Lib.hid hn2
  clear hn2
  rw [atN_un s k hkend] at hq
  go_enter Try.func49, Try.ntmps49
  go_wp2_with fail
  refine (r_token s i _ hs).mono ?_; rintro e w' ⟨rfl, rfl⟩
  rw [← HN.out]
  go_wp2_with fail
  refine (hlow.out _).mono ?_; rintro e w1 ⟨rfl, hb1⟩
  have r1 := (Blk3.new w 41 (.string ⟨#[]⟩) (.string ⟨#[]⟩) (.bool false)).below hb1
  have B1 := (((Below.refl w.heap.size w).alloc (Nat.le_refl _) _).trans (hb1.mono (by simp)))
  clear hb1
  go_wp2_with fail
  have d2 := Blk3.new w1 41 (.string (mk nm)) (.string ⟨#[]⟩) (.bool false)
  have r2 := r1.alloc (.cells #[.string (mk nm), .string ⟨#[]⟩, .bool false] 41)
  have B2 := B1.alloc B1.size (.cells #[.string (mk nm), .string ⟨#[]⟩, .bool false] 41)
  have hne : w.heap.size ≠ w1.heap.size := by have := r1.lt; omega
  have hne2 : w1.heap.size ≠ w.heap.size := fun e => hne e.symm
  generalize w1.alloc (.cells #[.string (mk nm), .string ⟨#[]⟩, .bool false] 41) = W2 at *
  have hwl := r1.lt
  generalize w1.heap.size = g at *
  clear r1 B1
  refine (r18_skip s n _ (by omega) hs).mono ?_; rintro e w' ⟨rfl, rfl⟩
  rw [← HM.out]
  have c0 := d2.c0; have c1 := d2.c1; have c2 := d2.c2; have e1 := d2.f1; have e2 := d2.f2
  have k0 := r2.c0; have k1 := r2.c1; have k2 := r2.c2
  have f0 := r2.f0; have f1 := r2.f1; have f2 := r2.f2
  go_wp2_with fail
  have r3 := r2.other (p := g) hne 2 (.bool true)
  have d3 := d2.set2 (.bool true)
  have B3 := B2.setCell (p := ⟨g, 2, none⟩) (by have := hwl; simp; omega) (.bool true)
  clear r2 d2 B2 c0 c1 c2 e1 e2 k0 k1 k2 f0 f1 f2
  generalize W2.setCell ⟨g, 2, none⟩ (.bool true) = W3 at *
  refine (r18_skip s (m + 1) _ (by omega) hs).mono ?_; rintro e w' ⟨rfl, rfl⟩
  rw [← HK.out]
  have c0 := d3.c0; have c1 := d3.c1; have c2 := d3.c2; have e1 := d3.f1; have e2 := d3.f2
  have k0 := r3.c0; have k1 := r3.c1; have k2 := r3.c2
  have f0 := r3.f0; have f1 := r3.f1; have f2 := r3.f2
  go_wp2_with fail
  refine (r_token s k _ hs).mono ?_; rintro e w' ⟨rfl, rfl⟩
  rw [← HN2.out]
  go_wp2_with fail
  refine bodyPost_ret (results_ctt rfl _ _ w.heap.size 41 _ _ rfl ((((r3.other (p := g) hne 1 _).set0 _).set1 _).set2 _) Try.underlying41 rfl dirSize) rfl ?_
  exact ⟨by rw [ex.out]; by_cases h : k < n2 <;> simp [h, dirVal], (((B3.setCell (p := ⟨g, 1, none⟩) (by have := hwl; simp; omega) _).setCell (by simp) _).setCell (by simp) _).setCell (by simp) _⟩
end Go.Proofs.Ytjdkmidajhbefaa
