/- The walks of Merge and Parse of the reference of layer 20. Conditions: lengths are bounded. -/
import Derived.Test.YtimfngfimnapoaaDoorCspR
import Derived.Test.YtimfngfimnapoaaDoorLaw20
namespace Go.Proofs.YtimfngfimnapoaaDoor
open Go.RowKit Hs
set_option linter.unusedSimpArgs false
set_option linter.unusedVariables false

theorem own_lower {w : World} {base base' : Nat} {e : TypeId} {size n : Nat} {v : Value} {xs : List Value} (h : w.ownsRow base e size v n xs) (hb : base' ≤ base) : w.ownsRow base' e size v n xs := by
  refine ⟨h.1, ?_⟩
  rcases h.2 with h0 | ⟨g, cap, cur, rfl, hg, rest⟩
  · exact .inl h0
  · exact .inr ⟨g, cap, cur, rfl, Nat.le_trans hb hg, rest⟩
set_option maxRecDepth 20000 in
set_option maxHeartbeats 4000000 in
theorem r20_merge (v : Value) (vs : List Bs) (w : World) (hv : Strs w v vs) (hl : vs.length ≤ 1000) (hs : ∀ x ∈ vs, x.length ≤ maxLen) :
    Calls Tryd.prog 12 #[v] w fun e w' => ∃ u b1 b2, e = .returned (.tuple #[.agg #[.bool b1, .bool b2, u], .int .i64 (cspM vs).2]) ∧ b1 = decide (un upB ∈ (cspM vs).1) ∧ b2 = decide (un blB ∈ (cspM vs).1) ∧ w'.ownsRow w.heap.size 9 1 u (cspM vs).1.length (scells (cspM vs).1) ∧ Below w.heap.size w w' := by
  obtain ⟨a, cap, rfl, hn, hm, hc⟩ := hv.open
  unfold maxLen at hm
  have HC := Lib.hid hc
  have HS := Lib.hid hs
  clear hc hs hv
  have r0 := (Blk3.new w 26 (.bool false) (.bool false) (.slice none 0 0)).alloc (.cells #[.bool false, .bool false, .slice none 0 0] 26)
  have c0 := Blk3.new (w.alloc (.cells #[.bool false, .bool false, .slice none 0 0] 26)) 26 (.bool false) (.bool false) (.slice none 0 0)
  rw [World.size_alloc] at c0
  have B0 : Below w.heap.size w ((w.alloc (.cells #[.bool false, .bool false, .slice none 0 0] 26)).alloc (.cells #[.bool false, .bool false, .slice none 0 0] 26)) := ((Below.refl _ w).alloc (Nat.le_refl _) _).alloc (by simp) _
  have HR := Lib.hid r0
  have HCC := Lib.hid c0
  have HB := Lib.hid B0
  clear r0 c0 B0
  go_enter Tryd.func12, Tryd.ntmps12
  go_wp2
  go_loopw [5] (fun iv wr => ∃ (k : Nat) (N : List Bs) (u : Value), iv = .int .i64 k ∧ k ≤ vs.length ∧ Hid (mergeN vs [] = mergeN (vs.drop k) N) ∧ N.length ≤ 20259001 * k ∧ Blk3 wr w.heap.size 26 (.bool false) (.bool false) (.slice none 0 0) ∧ Blk3 wr (w.heap.size + 1) 26 (.bool (decide (un upB ∈ N))) (.bool (decide (un blB ∈ N))) u ∧
    wr.ownsRow (w.heap.size + 2) 9 1 u N.length (scells N) ∧ Below w.heap.size w wr) (fun iv _ => vs.length - (intOf iv).toNat)
  case atStart => exact ⟨0, [], _, rfl, by omega, Lib.hid rfl, by simp, HR.out, HCC.out, World.ownsRow_nil _ _ _ _, HB.out⟩
  case round =>
    clear HR HCC HB
    obtain ⟨k, N, u, rfl, hk, hmg, hNl, hr0, hcb, hrow, hnx⟩ := hrel
    have hws := hcb.lt
    by_cases hlt : k < vs.length
    · obtain ⟨b, off, rfl, hb, hcell⟩ := HC.out (by omega)
      have c0 := (hnx.cell (p := ⟨b, off + k, none⟩) hb).trans (hcell k hlt)
      have hsz := HS.out vs[k] (List.getElem_mem hlt)
      have hdrop := Lib.hid (List.drop_eq_getElem_cons hlt)
      clear hcell
      obtain ⟨x, hx⟩ : ∃ x, x = vs[k] := ⟨_, rfl⟩
      rw [← hx] at c0 hsz hdrop
      clear hx
      unfold maxLen at hsz
      by_cases hlong : 4096 < x.length
      · have hlong' : (4096 : Int) < (x.length : Int) := by omega
        have hfin : Hid (cspM vs = ([], 3)) := Lib.hid (by unfold cspM; rw [hmg.out, hdrop.out, mergeN_long _ _ _ hlong])
        have p0 := hr0.c0; have p1 := hr0.c1; have p2 := hr0.c2
        have f0 := hr0.f0; have f1 := hr0.f1; have f2 := hr0.f2
        clear hmg hdrop hlong hsz hNl
        go_wp2
        have r3 := ((hr0.set0 (.bool false)).set1 (.bool false)).set2 (.slice none 0 0)
        refine bodyPost_ret (results_ct rfl _ _ w.heap.size 26 _ _ rfl r3 Tryd.underlying26 rfl (by kernel_rfl)) rfl ?_
        rw [hfin.out]
        exact ⟨_, false, false, rfl, rfl, rfl, World.ownsRow_nil _ _ _ _, ((hnx.setCell (p := ⟨w.heap.size, 0, none⟩) (Nat.le_refl _) (.bool false)).setCell (p := ⟨w.heap.size, 1, none⟩) (Nat.le_refl _) (.bool false)).setCell (p := ⟨w.heap.size, 2, none⟩) (Nat.le_refl _) (.slice none 0 0)⟩
      · have hlong' : ((x.length : Int) ≤ 4096) := by omega
        have hmg2 := Lib.hid ((hmg.out.trans (congrArg (fun l => mergeN l N) hdrop.out)).trans (mergeN_short x (vs.drop (k + 1)) N hlong))
        have hadd := fun W (h : W.ownsRow (w.heap.size + 2) 9 1 u N.length (scells N)) (h2 : w.heap.size + 2 ≤ W.heap.size) => r20_add N u (mk x) W (w.heap.size + 2) h h2 (by omega) (by rw [size_mk]; omega)
        simp only [un_mk] at hadd
        unfold cspVal at hadd
        have hxl : (headsV x).length ≤ 20259001 := length_headsV x (by omega)
        have hMl : Hid ((uniqN N (headsV x)).length ≤ 20259001 * (k + 1)) := Lib.hid (by have := length_uniqN (headsV x) N; omega)
        obtain ⟨M, hM⟩ : ∃ M, M = uniqN N (headsV x) := ⟨_, rfl⟩
        rw [← hM] at hmg2 hMl
        simp only [← hM] at hadd
        have HADD := Lib.hid hadd
        have hsz2 : w.heap.size + 2 ≤ wr.heap.size := by omega
        obtain ⟨b1, hb1⟩ : ∃ b1, b1 = decide (un upB ∈ N) := ⟨_, rfl⟩
        obtain ⟨b2, hb2⟩ : ∃ b2, b2 = decide (un blB ∈ N) := ⟨_, rfl⟩
        rw [← hb1, ← hb2] at hcb
        simp only [← hb1, ← hb2] at HADD
        clear hmg hdrop hadd hM hb1 hb2 hxl hlong hsz
        obtain ⟨au, cu, rfl⟩ := own_slice hrow
        have q0 := hcb.c0; have q1 := hcb.c1; have q2 := hcb.c2
        go_wp2
        -- REGION
        refine wp_region_any (by kernel_rfl) ?_
        refine wpAny_take (i := 1) (v := .slice (some ⟨b, off, none⟩) vs.length cap) rfl (by kernel_rfl) (by kernel_rfl) (by kernel_rfl) (fun _ _ _ h => h) (Or.inl ⟨by rfl, by intro w; go_simp; all_goals (try (rw [IntKind.wrap_i64]; omega))⟩) ?_
        refine wpAny_take (i := 2) (v := .int .i64 (k : Int)) rfl (by kernel_rfl) (by kernel_rfl) (by kernel_rfl) (fun _ _ _ h => h) (Or.inl ⟨by rfl, by intro w; go_simp; all_goals (try (rw [IntKind.wrap_i64]; omega))⟩) ?_
        refine wpAny_take (i := 3) (v := .pointer (some ⟨b, off + k, none⟩)) rfl (by kernel_rfl) (by kernel_rfl) (by kernel_rfl) (fun _ _ _ h => h) (Or.inl ⟨by rfl, by intro w; go_simp; all_goals (try (rw [IntKind.wrap_i64]; omega))⟩) ?_
        refine wpAny_ready (rs := [0, 4]) (by kernel_rfl) (by simp) ?_
        refine AllReady.cons rfl (fun K hK => ?_) (AllReady.cons rfl (fun K hK => ?_) AllReady.nil)
        · go_simp
          refine hK _ _ ?_; clear hK K
          refine wpAny_ready (rs := [4]) (by kernel_rfl) (by simp) ?_
          refine AllReady.cons rfl (fun K hK => ?_) AllReady.nil
          go_simp
          refine hK _ _ ?_; clear hK K
          refine wpAny_ready (rs := [5]) (by kernel_rfl) (by simp) ?_
          refine AllReady.cons rfl (fun K hK => ?_) AllReady.nil
          go_simp
          have hcbD : Blk3 wr.drew (w.heap.size + 1) 26 (.bool b1) (.bool b2) (.slice au N.length cu) := hcb
          have hr0D : Blk3 wr.drew w.heap.size 26 (.bool false) (.bool false) (.slice none 0 0) := hr0
          refine (HADD.out wr.drew hrow.drew hsz2).mono ?_
          rintro e w2 ⟨u', rfl, hown2, hg2, hf2⟩
          have hu1 : ∀ k, k < w.heap.size + 2 → (Value.slice au N.length cu).ownBlock ≠ some k := fun k hk e2 => by have := (hrow.lt _ e2).1; omega
          obtain ⟨au', cu', rfl⟩ := own_slice hown2
          have hu2 : ∀ k, k < w.heap.size + 2 → (Value.slice au' M.length cu').ownBlock ≠ some k := fun k hk e2 => by have := (hown2.lt _ e2).1; omega
          have hcb2 := hcbD.grown hg2 (fun e2 => hu1 (w.heap.size + 1) (by omega) e2.symm)
          have hr02 := hr0D.grown hg2 (fun e2 => hu1 w.heap.size (by omega) e2.symm)
          have hnx2 := hnx.drew.grown hg2 hnx.size (fun j hj => by have h9 := (hrow.lt _ hj).1; omega)
          have hsz3 := hg2.size
          have g0 := hcb2.c0; have g1 := hcb2.c1; have g2 := hcb2.c2
          have f0 := hcb2.f0; have f1 := hcb2.f1; have f2 := hcb2.f2
          obtain ⟨d1, hd1⟩ : ∃ d1, d1 = decide (un upB ∈ M) := ⟨_, rfl⟩
          obtain ⟨d2, hd2⟩ : ∃ d2, d2 = decide (un blB ∈ M) := ⟨_, rfl⟩
          rw [← hd1, ← hd2]
          have HD1 := Lib.hid hd1
          have HD2 := Lib.hid hd2
          clear hd1 hd2
          refine hK _ _ ?_; clear hK K
          refine wpAny_ready (rs := [6]) (by kernel_rfl) (by simp) ?_
          refine AllReady.cons rfl (fun K hK => ?_) AllReady.nil
          go_simp
          refine hK _ _ ?_; clear hK K
          refine wpAny_done (by kernel_rfl) ?_ _
          go_wp2
          go_roundw
          case rel =>
            have hne : ∀ k, some (w.heap.size + 1) = some k → (Value.slice au' M.length cu').ownBlock ≠ some k := fun k e => by cases e; exact hu2 _ (by omega)
            refine ⟨k + 1, M, .slice au' M.length cu', by go_num, by omega, hmg2, hMl.out, ((hr02.other (by omega) 0 _).other (by omega) 1 _).other (by omega) 2 _, ?_, ?_, ?_⟩
            · rw [← HD1.out, ← HD2.out]; exact ((hcb2.set0 _).set1 _).set2 _
            · exact ((hown2.kept (grown_setCell _ (w.heap.size + 1) 0 (.bool d1)) (own_ne_of hne)).kept (grown_setCell _ (w.heap.size + 1) 1 (.bool d2)) (own_ne_of hne)).kept (grown_setCell _ (w.heap.size + 1) 2 (.slice au' M.length cu')) (own_ne_of hne)
            · exact ((hnx2.setCell (p := ⟨w.heap.size + 1, 0, none⟩) (Nat.le_succ _) (.bool d1)).setCell (p := ⟨w.heap.size + 1, 1, none⟩) (Nat.le_succ _) (.bool d2)).setCell (p := ⟨w.heap.size + 1, 2, none⟩) (Nat.le_succ _) (.slice au' M.length cu')
          case measure => simp only [intOf]; omega
        · go_simp
          refine hK _ _ ?_; clear hK K
          refine wpAny_ready (rs := [0]) (by kernel_rfl) (by simp) ?_
          refine AllReady.cons rfl (fun K hK => ?_) AllReady.nil
          go_simp
          refine hK _ _ ?_; clear hK K
          refine wpAny_ready (rs := [5]) (by kernel_rfl) (by simp) ?_
          refine AllReady.cons rfl (fun K hK => ?_) AllReady.nil
          go_simp
          have hcbD : Blk3 wr.drew (w.heap.size + 1) 26 (.bool b1) (.bool b2) (.slice au N.length cu) := hcb
          have hr0D : Blk3 wr.drew w.heap.size 26 (.bool false) (.bool false) (.slice none 0 0) := hr0
          refine (HADD.out wr.drew hrow.drew hsz2).mono ?_
          rintro e w2 ⟨u', rfl, hown2, hg2, hf2⟩
          have hu1 : ∀ k, k < w.heap.size + 2 → (Value.slice au N.length cu).ownBlock ≠ some k := fun k hk e2 => by have := (hrow.lt _ e2).1; omega
          obtain ⟨au', cu', rfl⟩ := own_slice hown2
          have hu2 : ∀ k, k < w.heap.size + 2 → (Value.slice au' M.length cu').ownBlock ≠ some k := fun k hk e2 => by have := (hown2.lt _ e2).1; omega
          have hcb2 := hcbD.grown hg2 (fun e2 => hu1 (w.heap.size + 1) (by omega) e2.symm)
          have hr02 := hr0D.grown hg2 (fun e2 => hu1 w.heap.size (by omega) e2.symm)
          have hnx2 := hnx.drew.grown hg2 hnx.size (fun j hj => by have h9 := (hrow.lt _ hj).1; omega)
          have hsz3 := hg2.size
          have g0 := hcb2.c0; have g1 := hcb2.c1; have g2 := hcb2.c2
          have f0 := hcb2.f0; have f1 := hcb2.f1; have f2 := hcb2.f2
          obtain ⟨d1, hd1⟩ : ∃ d1, d1 = decide (un upB ∈ M) := ⟨_, rfl⟩
          obtain ⟨d2, hd2⟩ : ∃ d2, d2 = decide (un blB ∈ M) := ⟨_, rfl⟩
          rw [← hd1, ← hd2]
          have HD1 := Lib.hid hd1
          have HD2 := Lib.hid hd2
          clear hd1 hd2
          refine hK _ _ ?_; clear hK K
          refine wpAny_ready (rs := [6]) (by kernel_rfl) (by simp) ?_
          refine AllReady.cons rfl (fun K hK => ?_) AllReady.nil
          go_simp
          refine hK _ _ ?_; clear hK K
          refine wpAny_done (by kernel_rfl) ?_ _
          go_wp2
          go_roundw
          case rel =>
            have hne : ∀ k, some (w.heap.size + 1) = some k → (Value.slice au' M.length cu').ownBlock ≠ some k := fun k e => by cases e; exact hu2 _ (by omega)
            refine ⟨k + 1, M, .slice au' M.length cu', by go_num, by omega, hmg2, hMl.out, ((hr02.other (by omega) 0 _).other (by omega) 1 _).other (by omega) 2 _, ?_, ?_, ?_⟩
            · rw [← HD1.out, ← HD2.out]; exact ((hcb2.set0 _).set1 _).set2 _
            · exact ((hown2.kept (grown_setCell _ (w.heap.size + 1) 0 (.bool d1)) (own_ne_of hne)).kept (grown_setCell _ (w.heap.size + 1) 1 (.bool d2)) (own_ne_of hne)).kept (grown_setCell _ (w.heap.size + 1) 2 (.slice au' M.length cu')) (own_ne_of hne)
            · exact ((hnx2.setCell (p := ⟨w.heap.size + 1, 0, none⟩) (Nat.le_succ _) (.bool d1)).setCell (p := ⟨w.heap.size + 1, 1, none⟩) (Nat.le_succ _) (.bool d2)).setCell (p := ⟨w.heap.size + 1, 2, none⟩) (Nat.le_succ _) (.slice au' M.length cu')
          case measure => simp only [intOf]; omega
        -- REGION END
    · obtain rfl : k = vs.length := by omega
      have hfin : Hid (cspM vs = (N, 0)) := Lib.hid (by unfold cspM; rw [hmg.out, List.drop_length, mergeN_nil])
      obtain ⟨b1, hb1⟩ : ∃ b1, b1 = decide (un upB ∈ N) := ⟨_, rfl⟩
      obtain ⟨b2, hb2⟩ : ∃ b2, b2 = decide (un blB ∈ N) := ⟨_, rfl⟩
      rw [← hb1, ← hb2] at hcb
      have HB1 := Lib.hid hb1
      have HB2 := Lib.hid hb2
      obtain ⟨au, cu, rfl⟩ := own_slice hrow
      have q0 := hcb.c0; have q1 := hcb.c1; have q2 := hcb.c2
      have p0 := hr0.c0; have p1 := hr0.c1; have p2 := hr0.c2
      have f0 := hr0.f0; have f1 := hr0.f1; have f2 := hr0.f2
      clear hmg hb1 hb2 hNl
      go_wp2
      have r3 := ((hr0.set0 (.bool b1)).set1 (.bool b2)).set2 (.slice au N.length cu)
      have hne : ∀ k, some w.heap.size = some k → (Value.slice au N.length cu).ownBlock ≠ some k := fun k e => by cases e; exact fun e2 => by have := (hrow.lt _ e2).1; omega
      have hrow3 := ((hrow.kept (grown_setCell _ w.heap.size 0 (.bool b1)) (own_ne_of hne)).kept (grown_setCell _ w.heap.size 1 (.bool b2)) (own_ne_of hne)).kept (grown_setCell _ w.heap.size 2 (.slice au N.length cu)) (own_ne_of hne)
      refine bodyPost_ret (results_ct rfl _ _ w.heap.size 26 _ _ rfl r3 Tryd.underlying26 rfl (by kernel_rfl)) rfl ?_
      rw [hfin.out]
      exact ⟨_, b1, b2, rfl, HB1.out, HB2.out, own_lower hrow3 (by omega), ((hnx.setCell (p := ⟨w.heap.size, 0, none⟩) (Nat.le_refl _) (.bool b1)).setCell (p := ⟨w.heap.size, 1, none⟩) (Nat.le_refl _) (.bool b2)).setCell (p := ⟨w.heap.size, 2, none⟩) (Nat.le_refl _) (.slice au N.length cu)⟩
end Go.Proofs.YtimfngfimnapoaaDoor
