/- The walk of Find of the layer coverage. Conditions: the table is nil or holds one pin, the list is nil; the host can be; the library's tables stand. -/
import Derived.Test.YtjbciamhhfcdoaaGreatDoorSub39
import Derived.Test.YtjbciamhhfcdoaaGreatDoorSub40
import Derived.Sort.CutIn
namespace Hs
open Go
theorem covSup_skip (now : Int) (T : List PinP) (L : List EntP) : ∀ (pre r : List Bs), (∀ s ∈ pre, covAt now T L s false = none) → covSup now T L (pre ++ r) = covSup now T L r
  | [], r, _ => rfl
  | s :: p, r, h => by
    rw [List.cons_append, covSup, h s (List.mem_cons_self ..)]
    exact covSup_skip now T L p r (fun x hx => h x (List.mem_cons_of_mem _ hx))
theorem covSup_hit (now : Int) (T : List PinP) (L : List EntP) (pre : List Bs) (x : Bs) (r : List Bs) (c : CovP) (h : ∀ s ∈ pre, covAt now T L s false = none) (hx : covAt now T L x false = some c) : covSup now T L (pre ++ x :: r) = c := by
  rw [covSup_skip now T L pre _ h, covSup, hx]
theorem covV_no {now : Int} {T : List PinP} {L : List EntP} {h : HostP} (hk : ¬ (h.kind = 1 ∧ hostOk h = true)) : covV now T L h = cov0 := if_neg hk
theorem covV_hit {now : Int} {T : List PinP} {L : List EntP} {h : HostP} (hk : h.kind = 1 ∧ hostOk h = true) {c : CovP} (hc : covAt now T L h.name true = some c) : covV now T L h = c := by
  unfold covV
  rw [if_pos hk, hc]
theorem covV_sup {now : Int} {T : List PinP} {L : List EntP} {h : HostP} (hk : h.kind = 1 ∧ hostOk h = true) (hc : covAt now T L h.name true = none) : covV now T L h = covSup now T L (supers h.name) := by
  unfold covV
  rw [if_pos hk, hc]
end Hs
namespace Go.Proofs.YtjbciamhhfcdoaaGreatDoor
open Go.RowKit Go.Shelf Hs
set_option linter.unusedSimpArgs false
set_option linter.unusedVariables false
attribute [local go_sem] Oper.semAt_some
/-- Between two rounds over the superdomains. y: the iterator's box. -/
def CInv (w : World) (z y : Nat) (now : Int) (q : Option Addr) (T : List PinP) (pre : List Bs) (G : Nat → Prop) (W : World) : Prop :=
  (∀ s ∈ pre, covAt now T [] s false = none) ∧ BlkL W z 3 [.int .i64 now] ∧ BlkL W (z + 1) 27 [.pointer q] ∧ BlkL W (z + 2) 51 [.pointer none] ∧ BlkL W (z + 4) 67 (vcells cov0) ∧ BlkL W (z + 5) 67 (vcells cov0) ∧ W.heap[y + 1]? = some (.deferred (some [])) ∧ Below z w W ∧ (∀ k, G k → z + 5 < k ∧ k ≠ y + 1)
def COut (w : World) (z y : Nat) (now : Int) (T : List PinP) (S : List Bs) (c : Code) (pre : List Bs) (G : Nat → Prop) (W : World) : Prop :=
  c = .exit 0 ∧ BlkL W (z + 4) 67 (vcells cov0) ∧ BlkL W (z + 5) 67 (vcells (covSup now T [] S)) ∧ W.heap[y + 1]? = some (.deferred (some [])) ∧ Below z w W ∧ (∀ k, G k → z + 5 < k ∧ k ≠ y + 1)
theorem CInv.turn {w : World} {z y : Nat} {now : Int} {q : Option Addr} {T : List PinP} {pre : List Bs} {G : Nat → Prop} {A B : World} {row : Option Nat} (h : CInv w z y now q T pre G A) (hz : z ≤ w.heap.size) (hy : z + 5 < y) (hg : A.grownBy B row) (hr : ∀ r, row = some r → G r ∨ r = y + 2) : CInv w z y now q T pre G B := by
  obtain ⟨h1, b0, b1, b2, b4, b5, h3, h4, h5⟩ := h
  have hlow : ∀ r, row = some r → z + 5 < r ∧ r ≠ y + 1 := fun r e => (hr r e).elim (h5 r) (fun h => by omega)
  have ne : ∀ k, k ≤ z + 5 → some k ≠ row := fun k hk e => by have := hlow _ e.symm; omega
  exact ⟨h1, b0.grown hg (ne _ (by omega)), b1.grown hg (ne _ (by omega)), b2.grown hg (ne _ (by omega)), b4.grown hg (ne _ (by omega)), b5.grown hg (ne _ (by omega)), (hg.block _ (Array.getElem?_eq_some_iff.1 h3).1 (fun e => (hlow _ e.symm).2 rfl)).trans h3, h4.grown hg (by have := h4.size; omega) (fun j hj => by have := hlow j hj; omega), h5⟩
theorem CInv.lay {w : World} {z y : Nat} {now : Int} {q : Option Addr} {T : List PinP} {pre : List Bs} {G : Nat → Prop} {A B : World} (h : CInv w z y now q T pre G A) (hz : z ≤ w.heap.size) (hy : z + 5 < y) (hg : A.grownBy B none) : CInv w z y now q T pre (fun k => G k ∨ (A.heap.size ≤ k ∧ k < B.heap.size)) B := by
  obtain ⟨h1, b0, b1, b2, b4, b5, h3, h4, h5⟩ := h
  have hlt := (Array.getElem?_eq_some_iff.1 h3).1
  exact ⟨h1, b0.grown hg (by simp), b1.grown hg (by simp), b2.grown hg (by simp), b4.grown hg (by simp), b5.grown hg (by simp), (hg.block _ hlt (by simp)).trans h3, h4.grown hg (by have := h4.size; omega) (fun j hj => by cases hj), fun k hk => hk.elim (h5 k) (fun h => ⟨by have := b5.lt; omega, by omega⟩)⟩
theorem COut.turn {w : World} {z y : Nat} {now : Int} {T : List PinP} {S : List Bs} {c : Code} {pre : List Bs} {G : Nat → Prop} {A B : World} {row : Option Nat} (h : COut w z y now T S c pre G A) (hz : z ≤ w.heap.size) (hy : z + 5 < y) (hg : A.grownBy B row) (hr : ∀ r, row = some r → G r ∨ r = y + 2) : COut w z y now T S c pre G B := by
  obtain ⟨h1, b4, b5, h3, h4, h5⟩ := h
  have hlow : ∀ r, row = some r → z + 5 < r ∧ r ≠ y + 1 := fun r e => (hr r e).elim (h5 r) (fun h => by omega)
  have ne : ∀ k, k ≤ z + 5 → some k ≠ row := fun k hk e => by have := hlow _ e.symm; omega
  exact ⟨h1, b4.grown hg (ne _ (by omega)), b5.grown hg (ne _ (by omega)), (hg.block _ (Array.getElem?_eq_some_iff.1 h3).1 (fun e => (hlow _ e.symm).2 rfl)).trans h3, h4.grown hg (by have := h4.size; omega) (fun j hj => by have := hlow j hj; omega), h5⟩
theorem COut.lay {w : World} {z y : Nat} {now : Int} {T : List PinP} {S : List Bs} {c : Code} {pre : List Bs} {G : Nat → Prop} {A B : World} (h : COut w z y now T S c pre G A) (hz : z ≤ w.heap.size) (hy : z + 5 < y) (hg : A.grownBy B none) : COut w z y now T S c pre (fun k => G k ∨ (A.heap.size ≤ k ∧ k < B.heap.size)) B := by
  obtain ⟨h1, b4, b5, h3, h4, h5⟩ := h
  have hlt := (Array.getElem?_eq_some_iff.1 h3).1
  exact ⟨h1, b4.grown hg (by simp), b5.grown hg (by simp), (hg.block _ hlt (by simp)).trans h3, h4.grown hg (by have := h4.size; omega) (fun j hj => by cases hj), fun k hk => hk.elim (h5 k) (fun h => ⟨by have := b5.lt; omega, by omega⟩)⟩
theorem blk_three {W : World} {g : Nat} {T : TypeId} {l : List Value} (h : BlkL W g T l) (hl : l.length = 3) (a b c : Value) : BlkL (((W.setCell ⟨g, 0, none⟩ a).setCell ⟨g, 1, none⟩ b).setCell ⟨g, 2, none⟩ c) g T [a, b, c] := by
  have h2 := ((h.set 0 (by omega) a).set 1 (by simp; omega) b).set 2 (by simp; omega) c
  match l, hl with
  | [x, y, z], _ => exact h2
theorem below_three {B : Nat} {w W : World} (h : Below B w W) {g : Nat} (hg : B ≤ g) (a b c : Value) : Below B w (((W.setCell ⟨g, 0, none⟩ a).setCell ⟨g, 1, none⟩ b).setCell ⟨g, 2, none⟩ c) :=
  ((h.trans (below_setB _ g 0 a hg)).trans (below_setB _ g 1 b hg)).trans (below_setB _ g 2 c hg)
theorem other_three {W : World} {k : Nat} {o : Obj} (h : W.heap[k]? = some o) {g : Nat} (hg : k ≠ g) (a b c : Value) : (((W.setCell ⟨g, 0, none⟩ a).setCell ⟨g, 1, none⟩ b).setCell ⟨g, 2, none⟩ c).heap[k]? = some o :=
  (Below.heap_setCell _ _ _ k hg).trans ((Below.heap_setCell _ _ _ k hg).trans ((Below.heap_setCell _ _ _ k hg).trans h))
theorem cov_at3 (now : Int) (v : Value) (T : List PinP) (x : Bs) (exact : Bool) (w : World) (ht : TabV w v T) (hx : x.length ≤ 100000) : Calls Tryz.prog 74 #[.int .i64 now, v, .pointer none, .string (mk x), .bool exact] w fun e w' => e = .returned (.tuple #[.agg #[.int .i64 (((covAt now T [] x exact).getD cov0).source : Int), .string (mk ((covAt now T [] x exact).getD cov0).name), .bool ((covAt now T [] x exact).getD cov0).exact], .bool (covAt now T [] x exact).isSome]) ∧ Below w.heap.size w w' := cov_at now v T x exact w ht hx
set_option maxRecDepth 100000 in
set_option maxHeartbeats 8000000 in
theorem cov_find (now : Int) (v : Value) (T : List PinP) (h : HostP) (w : World) (hB : Base w) (hw : HostW h) (hn : h.name.length ≤ 20000) (ht : TabV w v T) : Calls Tryz.prog 37 #[.int .i64 now, v, .pointer none, .agg (hcells h).toArray] w fun e w' => e = .returned (.agg (vcells (covV now T [] h)).toArray) ∧ Below w.heap.size w w' := by
  refine (callsIn_wide (n := 9)).1 ?_
  refine callsIn_of_wp_marks Tryz.func37 rfl trivial ?_ rfl
  simp only [Tryz.ntmps37, List.size_toArray, List.length_cons, List.length_nil, Nat.reduceAdd, Nat.reduceSub, Array.replicate_succ, Array.replicate_zero, List.push_toArray, List.append_toArray, List.nil_append, List.cons_append]
  obtain ⟨kd, nm, va, v6⟩ := h
  obtain ⟨a, b, c, d, e, f, g, i, rfl⟩ := len8 hw.1
  simp only at hn
  obtain ⟨q, rfl⟩ : ∃ q, v = .pointer q := by
    rcases ht with ⟨rfl, _⟩ | ⟨t, g, p, rfl, _⟩
    · exact ⟨_, rfl⟩
    · exact ⟨_, rfl⟩
  obtain ⟨W5, hW5⟩ : ∃ W5, W5 = ((((w.alloc (.cells #[.int .i64 now] 3)).alloc (.cells #[.pointer q] 27)).alloc (.cells #[.pointer none] 51)).alloc (.cells (hcells ⟨kd, nm, va, [a, b, c, d, e, f, g, i]⟩).toArray 60)).alloc (.cells #[.int .i64 0, .string ⟨#[]⟩, .bool false] 67) := ⟨_, rfl⟩
  have HW5 := Lib.hid hW5.symm
  obtain ⟨z, hz⟩ : ∃ z, z = w.heap.size := ⟨_, rfl⟩
  have hsz5 : W5.heap.size = z + 5 := by rw [hW5, hz]; simp
  have hB5 : Below z w W5 := by rw [hW5, hz]; exact (((((Below.refl _ w).alloc (Nat.le_refl _) _).alloc (by simp) _).alloc (by simp; omega) _).alloc (by simp; omega) _).alloc (by simp; omega) _
  have b0 : BlkL W5 z 3 [.int .i64 now] := by rw [hW5, hz]; exact ((((BlkL.new w _ _).alloc _).alloc _).alloc _).alloc _
  have b1 : BlkL W5 (z + 1) 27 [.pointer q] := by
    rw [hW5, hz]
    have := (((BlkL.new (w.alloc (.cells #[.int .i64 now] 3)) 27 [.pointer q]).alloc (.cells #[.pointer none] 51)).alloc (.cells (hcells ⟨kd, nm, va, [a, b, c, d, e, f, g, i]⟩).toArray 60)).alloc (.cells #[.int .i64 0, .string ⟨#[]⟩, .bool false] 67)
    simpa using this
  have b2 : BlkL W5 (z + 2) 51 [.pointer none] := by
    rw [hW5, hz]
    have := ((BlkL.new ((w.alloc (.cells #[.int .i64 now] 3)).alloc (.cells #[.pointer q] 27)) 51 [.pointer none]).alloc (.cells (hcells ⟨kd, nm, va, [a, b, c, d, e, f, g, i]⟩).toArray 60)).alloc (.cells #[.int .i64 0, .string ⟨#[]⟩, .bool false] 67)
    simp only [World.size_alloc] at this
    exact this
  have b3 : BlkL W5 (z + 3) 60 (hcells ⟨kd, nm, va, [a, b, c, d, e, f, g, i]⟩) := by
    rw [hW5, hz]
    have := (BlkL.new (((w.alloc (.cells #[.int .i64 now] 3)).alloc (.cells #[.pointer q] 27)).alloc (.cells #[.pointer none] 51)) 60 (hcells ⟨kd, nm, va, [a, b, c, d, e, f, g, i]⟩)).alloc (.cells #[.int .i64 0, .string ⟨#[]⟩, .bool false] 67)
    simp only [World.size_alloc] at this
    exact this
  have b4 : BlkL W5 (z + 4) 67 (vcells cov0) := by
    rw [hW5, hz]
    have := BlkL.new ((((w.alloc (.cells #[.int .i64 now] 3)).alloc (.cells #[.pointer q] 27)).alloc (.cells #[.pointer none] 51)).alloc (.cells (hcells ⟨kd, nm, va, [a, b, c, d, e, f, g, i]⟩).toArray 60)) 67 (vcells cov0)
    simp only [World.size_alloc] at this
    exact this
  have ht5 := ht.below (hz ▸ hB5)
  clear hW5
  gi_upto_region 2 with fail
  rw [HW5.out, ← hz]
  have hz' := Nat.le_of_eq hz
  have HZ := Lib.hid hz
  clear HW5 hz
  rw [show z + 1 + 1 + 1 + 1 = z + 4 from rfl, show z + 1 + 1 + 1 = z + 3 from rfl, show z + 1 + 1 = z + 2 from rfl]
  refine wpIn_wide.2 (wp_scope_straight ((wpIn_wide (n := 9)).1 ?_))
  gi_upto_region 2 with fail
  have c5 : BlkL (W5.alloc (.cells #[.int .i64 0, .string ⟨#[]⟩, .bool false] 67)) (z + 5) 67 (vcells cov0) := by
    have := BlkL.new W5 67 (vcells cov0)
    rw [hsz5] at this
    exact this
  have a0 := b0.alloc (.cells #[.int .i64 0, .string ⟨#[]⟩, .bool false] 67)
  have a1 := b1.alloc (.cells #[.int .i64 0, .string ⟨#[]⟩, .bool false] 67)
  have a2 := b2.alloc (.cells #[.int .i64 0, .string ⟨#[]⟩, .bool false] 67)
  have a3 := b3.alloc (.cells #[.int .i64 0, .string ⟨#[]⟩, .bool false] 67)
  have a4 := b4.alloc (.cells #[.int .i64 0, .string ⟨#[]⟩, .bool false] 67)
  have ht6 : TabV (W5.alloc (.cells #[.int .i64 0, .string ⟨#[]⟩, .bool false] 67)) (.pointer q) T := ht5.below ((Below.refl _ W5).alloc (Nat.le_refl _) _)
  have hB6 := hB5.alloc (by omega) (.cells #[.int .i64 0, .string ⟨#[]⟩, .bool false] 67)
  have hsz6 : (W5.alloc (.cells #[.int .i64 0, .string ⟨#[]⟩, .bool false] 67)).heap.size = z + 6 := by simp [hsz5]
  generalize W5.alloc (.cells #[.int .i64 0, .string ⟨#[]⟩, .bool false] 67) = W6 at *
  clear b0 b1 b2 b3 b4 ht5 hB5 hsz5
  have hk0 := a3.c 0 _ rfl
  have hv := h_valid ⟨kd, nm, va, [a, b, c, d, e, f, g, i]⟩ W6 (hB.below (HZ.out ▸ hB6)) hw (by show nm.length ≤ 100000; omega)
  obtain ⟨ok, hok⟩ : ∃ ok, ok = hostOk ⟨kd, nm, va, [a, b, c, d, e, f, g, i]⟩ := ⟨_, rfl⟩
  rw [← hok] at hv
  have HV := Lib.hid hv
  have HOK := Lib.hid hok
  clear hv hok
  by_cases hk : kd = 1
  · subst hk
    have h1 := a3.c 1 _ rfl
    have h2 := a3.c 2 _ rfl
    have h3 := a3.c 3 _ rfl
    have h4 := a3.c 4 _ rfl
    have h5 := a3.c 5 _ rfl
    have h6 := a3.c 6 _ rfl
    have h7 := a3.c 7 _ rfl
    have h8 := a3.c 8 _ rfl
    have h9 := a3.c 9 _ rfl
    have h10 := a3.c 10 _ rfl
    gi_wp2
    refine ⟨trivial, ?_⟩
    refine (callsIn_wide.2 HV.out).mono ?_
    rintro e w1 ⟨rfl, hb1⟩
    have hs1 := hb1.size
    have d0 := a0.below (by omega) hb1
    have d1 := a1.below (by omega) hb1
    have d2 := a2.below (by omega) hb1
    have d3 := a3.below (by omega) hb1
    have d4 := a4.below (by omega) hb1
    have d5 := c5.below (by omega) hb1
    have ht7 := ht6.below hb1
    have HB7 := Lib.hid (hB6.trans (hb1.mono (by omega)))
    clear hb1 HV a0 a1 a2 a3 a4 c5 ht6 hB6 hk0 h1 h2 h3 h4 h5 h6 h7 h8 h9 h10
    cases ok
    · have hfin := Lib.hid (covV_no (now := now) (T := T) (L := []) (h := ⟨1, nm, va, [a, b, c, d, e, f, g, i]⟩) (fun hh => by rw [← HOK.out] at hh; exact absurd hh.2 (by simp)))
      have e0 := d5.c 0 _ rfl
      have e1 := d5.c 1 _ rfl
      have e2 := d5.c 2 _ rfl
      have k0 := d4.c 0 _ rfl
      have k1 := d4.c 1 _ rfl
      have k2 := d4.c 2 _ rfl
      have m0 := d4.f 0
      have m1 := d4.f 1
      have m2 := d4.f 2
      gi_wp2
      all_goals (try (exfalso; omega))
      (try rw [Exit.noGoto_ret])
      refine leaves_marks [] _ (by simp) List.nodup_nil (fun W' hW' => ?_)
      have hr := blk_three d4 rfl (.int .i64 ((cov0).source : Int)) (.string (mk (cov0).name)) (.bool (cov0).exact)
      have hr2 : BlkL W' (z + 4) 67 (vcells (cov0)) := (hW'.block _ hr.lt (by simp)).trans hr
      refine ⟨_, results_cell_row rfl _ _ (z + 4) 67 _ _ _ rfl hr2 Tryz.underlying67 rfl infoCov, ?_⟩
      rw [hfin.out, ← HZ.out]
      exact ⟨rfl, (below_three HB7.out (by omega) _ _ _).trans (Keeps.below (hW'.mono fun k _ => by simp) (by have := (HB7.out).size; simp; omega))⟩
    · have n0 := d0.c 0 _ rfl
      have n1 := d1.c 0 _ rfl
      have n2 := d2.c 0 _ rfl
      have n3 := d3.c 1 _ rfl
      have hat := cov_at3 now (.pointer q) T nm true w1 ht7 (by omega)
      have hhit := fun cc => @covV_hit now T [] ⟨1, nm, va, [a, b, c, d, e, f, g, i]⟩ ⟨rfl, HOK.out.symm⟩ cc
      have hsup := @covV_sup now T [] ⟨1, nm, va, [a, b, c, d, e, f, g, i]⟩ ⟨rfl, HOK.out.symm⟩
      simp only at hhit hsup
      obtain ⟨o, ho⟩ : ∃ o, o = covAt now T [] nm true := ⟨_, rfl⟩
      rw [← ho] at hat hsup
      simp only [← ho] at hhit
      have HAT := Lib.hid hat
      have HHIT := Lib.hid hhit
      have HSUP := Lib.hid hsup
      clear hat hhit hsup ho
      gi_wp2
      refine ⟨trivial, ?_⟩
      refine (callsIn_wide.2 HAT.out).mono ?_
      rintro e w2 ⟨rfl, hb2⟩
      have hs2 := hb2.size
      have x0 := d0.below (by omega) hb2
      have x1 := d1.below (by omega) hb2
      have x2 := d2.below (by omega) hb2
      have x3 := d3.below (by omega) hb2
      have x4 := d4.below (by omega) hb2
      have x5 := d5.below (by omega) hb2
      have ht8 := ht7.below hb2
      have HB8 := Lib.hid (HB7.out.trans (hb2.mono (by omega)))
      clear hb2 HAT d0 d1 d2 d3 d4 d5 ht7 HB7 n0 n1 n2 n3
      cases o with
      | none =>
        have hfin := Lib.hid (HSUP.out rfl)
        clear HSUP HHIT
        simp only [Option.getD_none, Option.isSome_none]
        gi_upto_region 5 with fail
        obtain ⟨W9, hW9⟩ : ∃ W9, W9 = w2.alloc (.cells #[.int .i64 (cov0.source : Int), .string (mk cov0.name), .bool cov0.exact] 67) := ⟨_, rfl⟩
        have y0 := x0.alloc (.cells #[.int .i64 (cov0.source : Int), .string (mk cov0.name), .bool cov0.exact] 67)
        have y1 := x1.alloc (.cells #[.int .i64 (cov0.source : Int), .string (mk cov0.name), .bool cov0.exact] 67)
        have y2 := x2.alloc (.cells #[.int .i64 (cov0.source : Int), .string (mk cov0.name), .bool cov0.exact] 67)
        have y3 := x3.alloc (.cells #[.int .i64 (cov0.source : Int), .string (mk cov0.name), .bool cov0.exact] 67)
        have y4 := x4.alloc (.cells #[.int .i64 (cov0.source : Int), .string (mk cov0.name), .bool cov0.exact] 67)
        have y5 := x5.alloc (.cells #[.int .i64 (cov0.source : Int), .string (mk cov0.name), .bool cov0.exact] 67)
        have yn := BlkL.new w2 67 (vcells cov0)
        have ht9 : TabV (w2.alloc (.cells #[.int .i64 (cov0.source : Int), .string (mk cov0.name), .bool cov0.exact] 67)) (.pointer q) T := ht8.below ((Below.refl _ w2).alloc (Nat.le_refl _) _)
        have HB9 := Lib.hid (HB8.out.alloc (by omega) (.cells #[.int .i64 (cov0.source : Int), .string (mk cov0.name), .bool cov0.exact] 67))
        have hs9 : (w2.alloc (.cells #[.int .i64 (cov0.source : Int), .string (mk cov0.name), .bool cov0.exact] 67)).heap.size = w2.heap.size + 1 := by simp
        have hyn : BlkL (w2.alloc (.cells #[.int .i64 (cov0.source : Int), .string (mk cov0.name), .bool cov0.exact] 67)) w2.heap.size 67 (vcells cov0) := yn
        rw [← hW9] at y0 y1 y2 y3 y4 y5 ht9 HB9 hs9 hyn ⊢
        clear hW9 yn x0 x1 x2 x3 x4 x5 ht8 HB8
        have n3 := y3.c 1 _ rfl
        gi_upto_region 7 with fail
        refine wpIn_label ?_
        gi_wp2
        refine ⟨trivial, ?_⟩
        refine (callsIn_wide.2 (f_supers (mk nm) _)).mono ?_
        rintro e w10 ⟨rfl, rfl⟩
        gi_wp2
        have hsup2 : supV (un (mk nm)) = supers nm := by
          rw [un_mk]
          unfold supV
          have : nameV nm = true := by
            have h := HOK.out.symm
            rw [hostOk_def, if_pos rfl] at h
            simp only [Bool.and_eq_true] at h
            exact h.1.1
          rw [if_pos this]
        have hct0 := Boxed.new W9 9 (.string (mk nm))
        have z0 := y0.alloc (.cells #[.string (mk nm)] 9)
        have z1 := y1.alloc (.cells #[.string (mk nm)] 9)
        have z2 := y2.alloc (.cells #[.string (mk nm)] 9)
        have z4 := y4.alloc (.cells #[.string (mk nm)] 9)
        have z5 := y5.alloc (.cells #[.string (mk nm)] 9)
        have HB10 := Lib.hid (HB9.out.alloc (by omega) (.cells #[.string (mk nm)] 9))
        have hs10 : (W9.alloc (.cells #[.string (mk nm)] 9)).heap.size = W9.heap.size + 1 := by simp
        obtain ⟨y, hy⟩ : ∃ y, y = W9.heap.size := ⟨_, rfl⟩
        rw [← hy] at hct0 hs10
        rw [← hs9, ← hy]
        have hyz : z + 5 < y := by omega
        generalize W9.alloc (.cells #[.string (mk nm)] 9) = W10 at *
        clear y0 y1 y2 y3 y4 y5 n3 ht9 HB9 hyn hs9
        have hent := fun (a : Act) ps asg bd => enter_outer (F := Fence.wide) (P := Tryz.prog) rfl W10 a ps asg bd
        rw [hs10] at hent
        have hBK : ∀ W', Keeps (fun k => k < z) W10 W' → Base W' := fun W' hk => hB.below (HZ.out ▸ HB10.out.trans (hk.below (by omega)))
        refine range_law (w₁ := W10.alloc (.deferred (some []))) (L := y + 2) (by omega) (by simp; omega) (hent _ _ _ _) (gf := 118) (lb := #[.pointer (some ⟨y, 0, none⟩)]) rfl trivial (enters_of Tryz.func118 (by kernel_rfl) rfl)
          (supers_seq 8 y z (mk nm) W10 (by omega) hct0 (by omega) hBK (by omega) (by rw [size_mk]; omega)) ((Below.refl _ W10).alloc (Nat.le_refl _) _) (fun _ => rfl) (by omega) (by omega)
          (CInv w z y now q T) (COut w z y now T (supers nm)) (fun _ _ _ _ _ h hg hr => h.turn hz' hyz hg hr) (fun _ _ _ _ h hg => h.lay hz' hyz hg) (fun _ _ _ _ _ _ h hg hr => h.turn hz' hyz hg hr) (fun _ _ _ _ _ h hg => h.lay hz' hyz hg) ?start
          (fun x a' W' => a' = { tmps := #[.int .i64 now, .pointer q, .pointer none, .agg (hcells ⟨1, nm, va, [a, b, c, d, e, f, g, i]⟩).toArray, .pointer (some ⟨z, 0, none⟩), .pointer (some ⟨z + 1, 0, none⟩), .pointer (some ⟨z + 2, 0, none⟩), .pointer (some ⟨z + 3, 0, none⟩), .pointer (some ⟨z + 4, 0, none⟩), .pointer (some ⟨z + 5, 0, none⟩), .pointer (some ⟨w2.heap.size, 0, none⟩), .bool false, .string (mk x), undef, undef, .pointer (some ⟨z + 3, 0, none⟩), .int .i64 1, .bool false, .bool false, .agg #[.int .i64 1, .string (mk nm), .int .u32 (va : Int), .int .u16 (a : Int), .int .u16 (b : Int), .int .u16 (c : Int), .int .u16 (d : Int), .int .u16 (e : Int), .int .u16 (f : Int), .int .u16 (g : Int), .int .u16 (i : Int)], .bool true, .bool false, .bool false, undef, (.tuple #[.agg #[.int .i64 (cov0.source : Int), .string (mk cov0.name), .bool cov0.exact], .bool false]), .int .i64 now, .pointer q, .pointer none, .pointer (some ⟨z + 3, 1, none⟩), .string (mk nm), (.tuple #[.agg #[.int .i64 (cov0.source : Int), .string (mk cov0.name), .bool cov0.exact], .bool false]), .agg #[.int .i64 (cov0.source : Int), .string (mk cov0.name), .bool cov0.exact], .bool false, .bool false, undef, .pointer (some ⟨z + 3, 1, none⟩), .string (mk nm), .func (.func 118) #[] #[.pointer (some ⟨y, 0, none⟩)], .string (mk x), undef, undef, undef, undef, undef, undef, undef, undef, undef, undef, undef], defers := [] }) (fun _ _ _ _ _ h _ _ => h) ?assign ?body ?done ?stop
        case start =>
          intro o
          have hd := World.alloc_heap_new W10 (.deferred (some []))
          rw [hs10] at hd
          refine ⟨(fun s hs => by cases hs), (z0.alloc _).alloc _, (z1.alloc _).alloc _, (z2.alloc _).alloc _, (z4.alloc _).alloc _, (z5.alloc _).alloc _, (Below.heap_alloc _ o _ (by simp; omega)).trans hd, (HB10.out.alloc (by omega) _).alloc (by simp; omega) _, ?_⟩
          rintro k rfl
          omega
        case assign =>
          intro pre x G W' K hI hsp hK
          gi_wp2
          exact hK _ _ rfl (Keeps.refl _ _) hI (by rw [hy])
        case body =>
          rintro pre x G a' Wb ⟨r0, hr0⟩ hI rfl ⟨post, hpost⟩
          rw [hsup2] at hpost
          have hxn : x ∈ supers nm := by rw [← hpost]; simp
          have hI' := hI
          obtain ⟨i1, i0, j1, j2, j4, j5, i6, i7, i8⟩ := hI'
          have ht11 : TabV Wb (.pointer q) T := ht.below (HZ.out ▸ i7)
          have hxl : x.length ≤ 100000 := by have := supers_len nm x hxn; omega
          have hat2 := cov_at3 now (.pointer q) T x false Wb ht11 hxl
          obtain ⟨o, ho⟩ : ∃ o, o = covAt now T [] x false := ⟨_, rfl⟩
          rw [← ho] at hat2
          have HAT2 := Lib.hid hat2
          have HO := Lib.hid ho
          have n0 := i0.c 0 _ rfl
          have n1 := j1.c 0 _ rfl
          have n2 := j2.c 0 _ rfl
          have HI := Lib.hid hI
          have HPO := Lib.hid hpost
          clear hat2 ho hI i0 j1 j2 j4 j5 i1 i6 i7 i8 hpost
          gi_wp2
          refine ⟨trivial, ?_⟩
          refine (CallsIn.inRound _ (callsIn_wide.2 HAT2.out)).mono ?_
          rintro e w3 ⟨rfl, hb3⟩
          have hg3 := grown_of_below hb3
          have HI3 := Lib.hid (HI.out.turn hz' hyz hg3 (fun r e => by cases e))
          have hy4 : y + 2 < Wb.heap.size := (Array.getElem?_eq_some_iff.1 hr0).1
          have hL3 : w3.heap[y + 2]? = Wb.heap[y + 2]? := hb3.block _ hy4
          have hK3 : Keeps (fun k => G k ∨ k < z) Wb w3 := Keeps.of_below hb3
          have hs3 := hb3.size
          clear hb3 HI HAT2 n0 n1 n2 hg3
          cases o with
          | none =>
            simp only [Option.getD_none, Option.isSome_none]
            gi_wp2
            obtain ⟨i1, j0, j1, j2, j4, j5, i6, i7, i8⟩ := HI3.out
            refine (show _ ∧ _ ∧ _ from ⟨(Below.heap_alloc _ _ _ (by omega)).trans hL3, hK3.trans (Keeps.alloc _ _ _), ?_, j0.alloc _, j1.alloc _, j2.alloc _, j4.alloc _, j5.alloc _, (Below.heap_alloc _ _ _ (Array.getElem?_eq_some_iff.1 i6).1).trans i6, i7.alloc (by have := j0.lt; omega) _, i8⟩)
            intro s hs
            rcases List.mem_append.1 hs with hs | hs
            · exact i1 s hs
            · rw [List.mem_singleton.1 hs]; exact HO.out.symm
          | some cc =>
            simp only [Option.getD_some, Option.isSome_some]
            gi_upto_region 10 with fail
            obtain ⟨i1, j0, j1, j2, j4, j5, i6, i7, i8⟩ := HI3.out
            have hyn : BlkL (w3.alloc (.cells #[.int .i64 (cc.source : Int), .string (mk cc.name), .bool cc.exact] 67)) w3.heap.size 67 (vcells cc) := BlkL.new w3 67 (vcells cc)
            have v4 := j4.alloc (.cells #[.int .i64 (cc.source : Int), .string (mk cc.name), .bool cc.exact] 67)
            have v5 := j5.alloc (.cells #[.int .i64 (cc.source : Int), .string (mk cc.name), .bool cc.exact] 67)
            have v6 := (Below.heap_alloc w3 (.cells #[.int .i64 (cc.source : Int), .string (mk cc.name), .bool cc.exact] 67) _ (Array.getElem?_eq_some_iff.1 i6).1).trans i6
            have v7 := i7.alloc (by have := j0.lt; omega) (.cells #[.int .i64 (cc.source : Int), .string (mk cc.name), .bool cc.exact] 67)
            have vL := (Below.heap_alloc w3 (.cells #[.int .i64 (cc.source : Int), .string (mk cc.name), .bool cc.exact] 67) (y + 2) (by omega)).trans hL3
            have vK := hK3.trans (Keeps.alloc _ w3 (.cells #[.int .i64 (cc.source : Int), .string (mk cc.name), .bool cc.exact] 67))
            have e0 := hyn.c 0 _ rfl
            have e1 := hyn.c 1 _ rfl
            have e2 := hyn.c 2 _ rfl
            have k0 := v5.c 0 _ rfl
            have k1 := v5.c 1 _ rfl
            have k2 := v5.c 2 _ rfl
            have m0 := v5.f 0
            have m1 := v5.f 1
            have m2 := v5.f 2
            have hcs : covSup now T [] (supers nm) = cc := by rw [← HPO.out, List.append_assoc, List.singleton_append]; exact covSup_hit now T [] pre x post cc i1 HO.out.symm
            have HCS := Lib.hid hcs
            have HV5 := Lib.hid v5
            have HV4 := Lib.hid v4
            have HV6 := Lib.hid v6
            have HV7 := Lib.hid v7
            have HVL := Lib.hid vL
            have HVK := Lib.hid vK
            have HI8 := Lib.hid i8
            clear hcs v5 v4 v6 v7 vL vK i1 i6 i7 i8 j0 j1 j2 j4 j5 HI3 hyn hL3 hK3
            gi_wp2
            all_goals (try (exfalso; omega))
            have hr := blk_three HV5.out rfl (.int .i64 (cc.source : Int)) (.string (mk cc.name)) (.bool cc.exact)
            refine (show _ ∧ _ ∧ _ from ⟨?_, ?_, rfl, ?_, ?_, ?_, ?_, HI8.out⟩)
            · exact ((Below.heap_setCell _ _ _ _ (by simp; omega)).trans ((Below.heap_setCell _ _ _ _ (by simp; omega)).trans (Below.heap_setCell _ _ _ _ (by simp; omega)))).trans HVL.out
            · have hne : ¬ (G (z + 5) ∨ z + 5 < z) := fun h => h.elim (fun h => by have := (HI8.out _ h).1; omega) (fun h => by omega)
              exact ((HVK.out.trans (Keeps.setCell _ _ _ hne _)).trans (Keeps.setCell _ _ _ hne _)).trans (Keeps.setCell _ _ _ hne _)
            · exact ((HV4.out.other (by omega) _ _).other (by omega) _ _).other (by omega) _ _
            · rw [HCS.out]; exact hr
            · exact other_three HV6.out (by omega) _ _ _
            · exact below_three HV7.out (by omega) _ _ _
        case done =>
          rintro xs G W' hxs hI
          rw [hsup2] at hxs
          obtain ⟨i1, j0, j1, j2, j4, j5, i6, i7, i8⟩ := hI
          have hcs : covSup now T [] (supers nm) = cov0 := by
            have := covSup_skip now T [] xs [] i1
            rw [List.append_nil, hxs] at this
            rw [this]; rfl
          rw [hcs] at hfin
          have e0 := j5.c 0 _ rfl
          have e1 := j5.c 1 _ rfl
          have e2 := j5.c 2 _ rfl
          have k0 := j4.c 0 _ rfl
          have k1 := j4.c 1 _ rfl
          have k2 := j4.c 2 _ rfl
          have m0 := j4.f 0
          have m1 := j4.f 1
          have m2 := j4.f 2
          have HJ4 := Lib.hid j4
          have HI6 := Lib.hid i6
          have HI7 := Lib.hid i7
          clear j4 i6 i7 i1 i8 j0 j1 j2 j5 hcs hxs
          gi_wp2
          all_goals (try (exfalso; omega))
          (try rw [Exit.noGoto_ret])
          refine leaves_marks [y + 1] _ (fun r hr => ?_) (by simp) (fun W'' hW' => ?_)
          · rw [List.mem_singleton.1 hr]
            exact other_three HI6.out (by omega) _ _ _
          · have hr := blk_three HJ4.out rfl (.int .i64 (cov0.source : Int)) (.string (mk cov0.name)) (.bool cov0.exact)
            have hr2 : BlkL W'' (z + 4) 67 (vcells cov0) := (hW'.block _ hr.lt (by simp; omega)).trans hr
            refine ⟨_, results_cell_row rfl _ _ (z + 4) 67 _ _ _ rfl hr2 Tryz.underlying67 rfl infoCov, ?_⟩
            rw [hfin.out, ← HZ.out]
            exact ⟨rfl, (below_three HI7.out (by omega) _ _ _).trans (Keeps.below (hW'.mono fun k _ => by simp; omega) (by have := HI7.out.size; simp; omega))⟩
        case stop =>
          rintro c pre G W' _ hO
          obtain ⟨rfl, j4, j5, i6, i7, i8⟩ := hO
          obtain ⟨cs, hcs⟩ : ∃ cs, cs = covSup now T [] (supers nm) := ⟨_, rfl⟩
          rw [← hcs] at hfin j5
          have e0 := j5.c 0 _ rfl
          have e1 := j5.c 1 _ rfl
          have e2 := j5.c 2 _ rfl
          have k0 := j4.c 0 _ rfl
          have k1 := j4.c 1 _ rfl
          have k2 := j4.c 2 _ rfl
          have m0 := j4.f 0
          have m1 := j4.f 1
          have m2 := j4.f 2
          have HJ4 := Lib.hid j4
          have HI6 := Lib.hid i6
          have HI7 := Lib.hid i7
          clear j4 i6 i7 i8 j5 hcs
          gi_wp2
          all_goals (try (exfalso; omega))
          (try rw [Exit.noGoto_ret])
          refine leaves_marks [y + 1] _ (fun r hr => ?_) (by simp) (fun W'' hW' => ?_)
          · rw [List.mem_singleton.1 hr]
            exact other_three HI6.out (by omega) _ _ _
          · have hr := blk_three HJ4.out rfl (.int .i64 (cs.source : Int)) (.string (mk cs.name)) (.bool cs.exact)
            have hr2 : BlkL W'' (z + 4) 67 (vcells cs) := (hW'.block _ hr.lt (by simp; omega)).trans hr
            refine ⟨_, results_cell_row rfl _ _ (z + 4) 67 _ _ _ rfl hr2 Tryz.underlying67 rfl infoCov, ?_⟩
            rw [hfin.out, ← HZ.out]
            exact ⟨rfl, (below_three HI7.out (by omega) _ _ _).trans (Keeps.below (hW'.mono fun k _ => by simp; omega) (by have := HI7.out.size; simp; omega))⟩
      | some cc =>
        have hfin := Lib.hid (HHIT.out cc rfl)
        clear HSUP HHIT
        simp only [Option.getD_some, Option.isSome_some]
        gi_upto_region 5 with fail
        obtain ⟨W9, hW9⟩ : ∃ W9, W9 = w2.alloc (.cells #[.int .i64 (cc.source : Int), .string (mk cc.name), .bool cc.exact] 67) := ⟨_, rfl⟩
        have y0 := x0.alloc (.cells #[.int .i64 (cc.source : Int), .string (mk cc.name), .bool cc.exact] 67)
        have y1 := x1.alloc (.cells #[.int .i64 (cc.source : Int), .string (mk cc.name), .bool cc.exact] 67)
        have y2 := x2.alloc (.cells #[.int .i64 (cc.source : Int), .string (mk cc.name), .bool cc.exact] 67)
        have y3 := x3.alloc (.cells #[.int .i64 (cc.source : Int), .string (mk cc.name), .bool cc.exact] 67)
        have y4 := x4.alloc (.cells #[.int .i64 (cc.source : Int), .string (mk cc.name), .bool cc.exact] 67)
        have y5 := x5.alloc (.cells #[.int .i64 (cc.source : Int), .string (mk cc.name), .bool cc.exact] 67)
        have yn := BlkL.new w2 67 (vcells cc)
        have ht9 : TabV (w2.alloc (.cells #[.int .i64 (cc.source : Int), .string (mk cc.name), .bool cc.exact] 67)) (.pointer q) T := ht8.below ((Below.refl _ w2).alloc (Nat.le_refl _) _)
        have HB9 := Lib.hid (HB8.out.alloc (by omega) (.cells #[.int .i64 (cc.source : Int), .string (mk cc.name), .bool cc.exact] 67))
        have hs9 : (w2.alloc (.cells #[.int .i64 (cc.source : Int), .string (mk cc.name), .bool cc.exact] 67)).heap.size = w2.heap.size + 1 := by simp
        have hyn : BlkL (w2.alloc (.cells #[.int .i64 (cc.source : Int), .string (mk cc.name), .bool cc.exact] 67)) w2.heap.size 67 (vcells cc) := yn
        rw [← hW9] at y0 y1 y2 y3 y4 y5 ht9 HB9 hs9 hyn ⊢
        clear hW9 yn x0 x1 x2 x3 x4 x5 ht8 HB8
        have e0 := hyn.c 0 _ rfl
        have e1 := hyn.c 1 _ rfl
        have e2 := hyn.c 2 _ rfl
        have k0 := y4.c 0 _ rfl
        have k1 := y4.c 1 _ rfl
        have k2 := y4.c 2 _ rfl
        have m0 := y4.f 0
        have m1 := y4.f 1
        have m2 := y4.f 2
        gi_wp2
        all_goals (try (exfalso; omega))
        (try rw [Exit.noGoto_ret])
        refine leaves_marks [] _ (by simp) List.nodup_nil (fun W' hW' => ?_)
        have hr := blk_three y4 rfl (.int .i64 (cc.source : Int)) (.string (mk cc.name)) (.bool cc.exact)
        have hr2 : BlkL W' (z + 4) 67 (vcells cc) := (hW'.block _ hr.lt (by simp)).trans hr
        refine ⟨_, results_cell_row rfl _ _ (z + 4) 67 _ _ _ rfl hr2 Tryz.underlying67 rfl infoCov, ?_⟩
        rw [hfin.out, ← HZ.out]
        exact ⟨rfl, (below_three HB9.out (by omega) _ _ _).trans (Keeps.below (hW'.mono fun k _ => by simp) (by have := HB9.out.size; simp; omega))⟩
  · have g1 : ((kd : Int) != 1) = true := by simp; omega
    have hfin := Lib.hid (covV_no (now := now) (T := T) (L := []) (h := ⟨kd, nm, va, [a, b, c, d, e, f, g, i]⟩) (fun hh => hk hh.1))
    clear hk HV HOK
    have e0 := c5.c 0 _ rfl
    have e1 := c5.c 1 _ rfl
    have e2 := c5.c 2 _ rfl
    have k0 := a4.c 0 _ rfl
    have k1 := a4.c 1 _ rfl
    have k2 := a4.c 2 _ rfl
    have m0 := a4.f 0
    have m1 := a4.f 1
    have m2 := a4.f 2
    gi_wp2
    all_goals (try (exfalso; omega))
    refine ⟨trivial, ?_⟩
    gi_wp2
    all_goals (try (exfalso; omega))
    (try rw [Exit.noGoto_ret])
    refine leaves_marks [] _ (by simp) List.nodup_nil (fun W' hW' => ?_)
    have hr := blk_three a4 rfl (.int .i64 ((cov0).source : Int)) (.string (mk (cov0).name)) (.bool (cov0).exact)
    have hr2 : BlkL W' (z + 4) 67 (vcells (cov0)) := (hW'.block _ hr.lt (by simp)).trans hr
    refine ⟨_, results_cell_row rfl _ _ (z + 4) 67 _ _ _ rfl hr2 Tryz.underlying67 rfl infoCov, ?_⟩
    rw [hfin.out, ← HZ.out]
    exact ⟨rfl, (below_three hB6 (by omega) _ _ _).trans (Keeps.below (hW'.mono fun k _ => by simp) (by have := (hB6).size; simp; omega))⟩
end Go.Proofs.YtjbciamhhfcdoaaGreatDoor
