/- The walk of the parser's element of the layer directive (program). Conditions: the text's length is bounded; the parser's block holds the text and the index. -/
import Derived.Test.YtjdkmidajhbefaaDoorDirP
import Derived.Test.YtjdkmidajhbefaaDoorDirV
import Derived.Deep.RegionHeld3
import Derived.BigRegion
namespace Go.Proofs.YtjdkmidajhbefaaDoor
open Go.RowKit Hs
set_option linter.unusedSimpArgs false
set_option linter.unusedVariables false

set_option maxHeartbeats 1000000 in
theorem p_element_val_none (g : Nat) (s : ByteArray) (i n m : Nat) (nm : Bs) (w : World) (hp : PAt w g s i) (hi : i ≤ s.size) (hs : s.size ≤ 100000000) (hn : n = tokEnd (un s) i) (hm : m = blkEnd (un s) n) (hnm : n ≤ m) (hms : m ≤ s.size) (hnmv : nm = lower (seg (un s) i n)) (hin : i < n) (k : Nat) (hk : k = blkEnd (un s) (m + 1)) (hks : k ≤ s.size) (ha : atN (un s) m = 61) (hend : m < s.size) (hv : valI (un s) k = none) (hk2 : blkEnd (un s) k = k) : Calls Tryd.prog 16 #[.pointer (some ⟨g, 0, none⟩)] w fun e w' => e = .returned (.tuple #[dirVal (nm, [], true), .bool false]) ∧ PAt w' g s k ∧ w.grownBy w' (some g) := by
  have hlow : Hid (∀ W : World, Calls Tryd.prog 21 #[.string (mk (seg (un s) i n))] W fun e w' => e = .returned (.string (mk nm)) ∧ Below W.heap.size W w') := Lib.hid fun W => by
    have := ascii_lower (mk (seg (un s) i n)) W (by rw [size_mk]; unfold seg; rw [List.length_take, List.length_drop, length_un]; omega)
    rw [un_mk, ← hnmv] at this
    exact this
  have HN := Lib.hid hn
  have HM := Lib.hid hm
  have hgl := hp.lt
  clear hn hm hnmv
  have OK := Lib.hid (decide_eq_true (by omega : i < n))
  have hda := Lib.hid (decide_eq_true ha)
  have HA := Lib.hid ha
  have HK := Lib.hid hk
  clear ha hk
  have HV := Lib.hid hv
  have HJ := Lib.hid hk2
  clear hv hk2
  have hv := HV
  go_enter Tryd.func16, Tryd.ntmps16
  go_wp2_with fail
  refine (p_token g s i _ (hp.alloc _) hi hs).mono ?_; rintro e w1 ⟨rfl, p1, hg1⟩
  rw [← HN.out, OK.out]
  rw [← HN.out] at p1
  have r1 := (Blk3.new w 37 (.string ⟨#[]⟩) (.string ⟨#[]⟩) (.bool false)).grown hg1 (by simp; omega)
  have G1 := grown_trans (grown_alloc (grown_refl w (some g)) _) hg1
  have hbl := r1.lt
  clear hg1
  go_wp2_with fail
  refine (hlow.out _).mono ?_; rintro e w2 ⟨rfl, hb2⟩
  have p2 := p1.below hb2
  have r2 := r1.below hb2
  have G2 := grown_below G1 hb2
  clear p1 r1 G1
  go_wp2_with fail
  have d3 := Blk3.new w2 37 (.string (mk nm)) (.string ⟨#[]⟩) (.bool false)
  have r3 := r2.alloc (.cells #[.string (mk nm), .string ⟨#[]⟩, .bool false] 37)
  have p3 := p2.alloc (.cells #[.string (mk nm), .string ⟨#[]⟩, .bool false] 37)
  have G3 := grown_alloc G2 (.cells #[.string (mk nm), .string ⟨#[]⟩, .bool false] 37)
  have hb0 : w.heap.size < w2.heap.size := r2.lt
  clear p2 r2 G2 hb2 hbl
  generalize w2.alloc (.cells #[.string (mk nm), .string ⟨#[]⟩, .bool false] 37) = W3 at *
  generalize w2.heap.size = q at *
  have hne : w.heap.size ≠ q := by omega
  have hne2 : q ≠ w.heap.size := by omega
  have hqg : some q ≠ some g := by simp; omega
  have hwg : some w.heap.size ≠ some g := by simp; omega
  have hgw : g ≠ w.heap.size := by omega
  have hgw2 : w.heap.size ≠ g := by omega
  refine (p_blanks g s n _ p3 (by omega) hs).mono ?_; rintro e w4 ⟨rfl, p, hg4⟩
  rw [← HM.out] at p
  have r := r3.grown hg4 hwg
  have d := d3.grown hg4 hqg
  have G := grown_trans G3 hg4
  clear p3 r3 d3 G3 hg4
  have q0 := p.c0; have q1 := p.c1
  have c0 := d.c0; have c1 := d.c1; have c2 := d.c2; have e1 := d.f1; have e2 := d.f2
  have k0 := r.c0; have k1 := r.c1; have k2 := r.c2
  have f0 := r.f0; have f1 := r.f1; have f2 := r.f2
  go_wp2_with fail
  refine (p_accept g s m 61 _ p hms hs (by decide)).mono ?_; rintro e w5 ⟨rfl, p5, hg5⟩
  rw [if_pos HA.out] at p5
  rw [hda.out]
  have r5 := r.grown hg5 hwg
  have d5 := d.grown hg5 hqg
  have G5 := grown_trans G hg5
  clear hg5 p r d G q0 q1 c0 c1 c2 e1 e2 k0 k1 k2 f0 f1 f2
  have p := p5; have r := r5; have d := d5; have G := G5
  clear p5 r5 d5 G5
  have q0 := p.c0; have q1 := p.c1
  have c0 := d.c0; have c1 := d.c1; have c2 := d.c2; have e1 := d.f1; have e2 := d.f2
  have k0 := r.c0; have k1 := r.c1; have k2 := r.c2
  have f0 := r.f0; have f1 := r.f1; have f2 := r.f2
  go_wp2_with fail
  refine (p_blanks g s (m + 1) _ p (by omega) hs).mono ?_; rintro e w6 ⟨rfl, p6, hg6⟩
  rw [← HK.out] at p6
  have r6 := r.grown hg6 hwg
  have d6 := d.grown hg6 hqg
  have G6 := grown_trans G hg6
  clear hg6 p r d G q0 q1 c0 c1 c2 e1 e2 k0 k1 k2 f0 f1 f2
  have p := p6; have r := r6; have d := d6; have G := G6
  clear p6 r6 d6 G6
  have q0 := p.c0; have q1 := p.c1
  have c0 := d.c0; have c1 := d.c1; have c2 := d.c2; have e1 := d.f1; have e2 := d.f2
  have k0 := r.c0; have k1 := r.c1; have k2 := r.c2
  have f0 := r.f0; have f1 := r.f1; have f2 := r.f2
  go_wp2_with fail
  have r7 := r.other (p := q) hne 2 (.bool true)
  have d7 := d.set2 (.bool true)
  have p7 := p.other (p := q) (by omega) 2 (.bool true)
  have G7 := grown_new G (b := q) (by omega) 2 (.bool true)
  clear r d p G q0 q1 c0 c1 c2 e1 e2 k0 k1 k2 f0 f1 f2
  generalize w6.setCell ⟨q, 2, none⟩ (.bool true) = W7 at *
  have p := p7; have r := r7; have d := d7; have G := G7
  clear p7 r7 d7 G7
  refine (p_value g s k _ p hks hs).mono ?_; rintro e w8 ⟨rfl, p8, hg8⟩
  rw [hv.out] at p8 ⊢
  simp only [vval, vat] at p8 ⊢
  have r8 := r.grown hg8 hwg
  have d8 := d.grown hg8 hqg
  have G8 := grown_trans G hg8
  clear hg8 p r d G
  have p := p8; have r := r8; have d := d8; have G := G8
  clear p8 r8 d8 G8
  have q0 := p.c0; have q1 := p.c1
  have c0 := d.c0; have c1 := d.c1; have c2 := d.c2; have e1 := d.f1; have e2 := d.f2
  have k0 := r.c0; have k1 := r.c1; have k2 := r.c2
  have f0 := r.f0; have f1 := r.f1; have f2 := r.f2
  go_wp2_with fail
  have r9 := r.other (p := q) hne 1 (.string ByteArray.empty)
  have d9 := d.set1 (.string ByteArray.empty)
  have p9 := p.other (p := q) (by omega) 1 (.string ByteArray.empty)
  have G9 := grown_new G (b := q) (by omega) 1 (.string ByteArray.empty)
  clear r d p G q0 q1 c0 c1 c2 e1 e2 k0 k1 k2 f0 f1 f2
  generalize w8.setCell ⟨q, 1, none⟩ (.string ByteArray.empty) = W9 at *
  have p := p9; have r := r9; have d := d9; have G := G9
  clear p9 r9 d9 G9
  refine (p_blanks g s k _ p (by omega) hs).mono ?_; rintro e w10 ⟨rfl, p10, hg10⟩
  rw [HJ.out] at p10
  have r10 := r.grown hg10 hwg
  have d10 := d.grown hg10 hqg
  have G10 := grown_trans G hg10
  clear hg10 p r d G
  have p := p10; have r := r10; have d := d10; have G := G10
  clear p10 r10 d10 G10
  have q0 := p.c0; have q1 := p.c1
  have c0 := d.c0; have c1 := d.c1; have c2 := d.c2; have e1 := d.f1; have e2 := d.f2
  have k0 := r.c0; have k1 := r.c1; have k2 := r.c2
  have f0 := r.f0; have f1 := r.f1; have f2 := r.f2
  go_wp2_with fail
  go_region
  all_goals go_wp2_with fail
  refine bodyPost_ret (results_ct rfl _ _ w.heap.size 37 _ _ rfl ((((r.drewN _).set0 _).set1 _).set2 _) Tryd.underlying37 rfl dirSize) rfl ?_
  exact ⟨rfl, (((p.drewN _).other (by omega) 0 _).other (by omega) 1 _).other (by omega) 2 _, grown_new (grown_new (grown_new (grown_drewN G _) (Nat.le_refl _) 0 _) (Nat.le_refl _) 1 _) (Nat.le_refl _) 2 _⟩
end Go.Proofs.YtjdkmidajhbefaaDoor
