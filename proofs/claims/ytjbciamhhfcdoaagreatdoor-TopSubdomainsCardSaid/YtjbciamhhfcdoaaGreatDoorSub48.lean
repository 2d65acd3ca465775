/- The walk of Merge of the layer csp (program). Conditions: lengths are bounded. -/
import Derived.Test.YtjbciamhhfcdoaaGreatDoorSub37
namespace Go.Proofs.YtjbciamhhfcdoaaGreatDoor
open Go.RowKit Go.Shelf Hs
set_option linter.unusedSimpArgs false
set_option linter.unusedVariables false

attribute [local go_sem] Oper.semAt_some

/-- The answer of Merge: the names and the error. -/
def cspM (vs : List Bs) : List Bs × Int := match mergeN vs [] with | none => ([], 3) | some N => (N, 0)

set_option maxRecDepth 100000 in
set_option maxHeartbeats 4000000 in
theorem csp_merge (v : Value) (vs : List Bs) (w : World) (hv : Strs w v vs) (hl : vs.length ≤ 1000) (hs : ∀ x ∈ vs, x.length ≤ maxLen) :
    Calls Tryz.prog 46 #[v] w fun e w' => ∃ u, e = .returned (.tuple #[cspVal (cspM vs).1 u, .int .i64 (cspM vs).2]) ∧ w'.ownsRow w.heap.size 9 1 u (cspM vs).1.length (scells (cspM vs).1) ∧ Below w.heap.size w w' := by
  obtain ⟨iS0, iS⟩ := info_parts infoStr
  obtain ⟨a, cap, rfl, hn, hm, hc⟩ := hv.open
  unfold maxLen at hm
  have HC := Lib.hid hc
  have HS := Lib.hid hs
  clear hc hs hv
  have hmm := @run_makeMap Tryz.prog
  refine (callsIn_wide (n := 9)).1 ?_
  refine callsIn_of_wp_marks Tryz.func46 rfl trivial ?_ rfl
  simp only [Tryz.ntmps46, List.size_toArray, List.length_cons, List.length_nil, Nat.reduceAdd, Nat.reduceSub, Array.replicate_succ, Array.replicate_zero, List.push_toArray, List.append_toArray, List.nil_append, List.cons_append]
  gi_wp2
  obtain ⟨W4, hW4⟩ : ∃ W4, W4 = (((w.alloc (.cells #[.bool false, .bool false, .slice none 0 0] 98)).alloc (.cells #[.bool false, .bool false, .slice none 0 0] 98)).alloc (.map #[] 0)).alloc (.cells #[.map (some (w.heap.size + 1 + 1))] 128) := ⟨_, rfl⟩
  have hcore : MCore w w.heap.size [] (.slice none 0 0) [] W4 := by
    rw [hW4]
    refine ⟨(((Blk3.new w _ _ _ _).alloc _).alloc _).alloc _, ?_, World.ownsRow_nil _ _ _ _, ?_, ?_, (fun r h => by cases h), ((((Below.refl _ w).alloc (Nat.le_refl _) _).alloc (by simp) _).alloc (by simp; omega) _).alloc (by simp; omega) _⟩
    · have := ((Blk3.new (w.alloc (.cells #[.bool false, .bool false, .slice none 0 0] 98)) 98 (.bool false) (.bool false) (.slice none 0 0)).alloc (.map #[] 0)).alloc (.cells #[.map (some (w.heap.size + 1 + 1))] 128)
      rwa [World.size_alloc] at this
    · have := (World.ownsMap_made ((w.alloc (.cells #[.bool false, .bool false, .slice none 0 0] 98)).alloc (.cells #[.bool false, .bool false, .slice none 0 0] 98)) Tryz.prog 9 boolElem).alloc (.cells #[.map (some (w.heap.size + 1 + 1))] 128)
      simp only [World.size_alloc] at this
      exact this
    · have := Boxed.new (((w.alloc (.cells #[.bool false, .bool false, .slice none 0 0] 98)).alloc (.cells #[.bool false, .bool false, .slice none 0 0] 98)).alloc (.map #[] 0)) 128 (.map (some (w.heap.size + 1 + 1)))
      simp only [World.size_alloc] at this
      exact this
  rw [← hW4]
  clear hW4 hmm
  obtain ⟨z, hz⟩ : ∃ z, z = w.heap.size := ⟨_, rfl⟩
  simp only [← hz] at hcore ⊢
  have hzz := Nat.le_of_eq hz
  have HZ := Lib.hid hz
  clear hz
  rw [show z + 1 + 1 + 1 = z + 3 from rfl, show z + 1 + 1 = z + 2 from rfl]
  refine wpIn_loop (fun a' W => ∃ (k : Nat) (ds : List Nat) (N : List Bs) (v : Value) (u6 u7 u8 u13 u14 u15 u16 u17 u18 u19 u20 u21 u22 u23 u24 u25 u26 u27 u28 u29 u30 u31 u32 u33 u34 u35 : Value), a' = { tmps := #[.slice a vs.length cap, undef, .pointer (some ⟨z, 0, none⟩), .int .i64 0, .pointer (some ⟨z + 1, 0, none⟩), .pointer (some ⟨z + 3, 0, none⟩), u6, u7, u8, .map (some (z + 2)), .slice a vs.length cap, .int .i64 (vs.length : Int), .int .i64 (k : Int), u13, u14, u15, u16, u17, u18, u19, u20, u21, u22, u23, u24, u25, u26, u27, u28, u29, u30, u31, u32, u33, u34, u35, undef, undef, undef, undef, undef, undef, undef, undef, undef], defers := marksOf ds } ∧ k ≤ vs.length ∧ MCore w z N v ds W ∧ ds.Nodup ∧ Hid (mergeN vs [] = mergeN (vs.drop k) N) ∧ N.length ≤ 20259001 * k) (fun a' _ => vs.length - (intOf (a'.tmps.getD 12 undef)).toNat) ?_ ?_
  · exact ⟨0, [], [], _, _, _, _, _, _, _, _, _, _, _, _, _, _, _, _, _, _, _, _, _, _, _, _, _, _, _, rfl, Nat.zero_le _, hcore, List.nodup_nil, rfl, by simp⟩
  · rintro a' W ⟨k, ds, N, v, u6, u7, u8, u13, u14, u15, u16, u17, u18, u19, u20, u21, u22, u23, u24, u25, u26, u27, u28, u29, u30, u31, u32, u33, u34, u35, rfl, hk, hco, hnd, hmg, hNl⟩
    have hWs := hco.size
    have hzW : z ≤ W.heap.size := by omega
    by_cases hlt : k < vs.length
    · obtain ⟨b, off, rfl, hb1, hcell⟩ := HC.out (by omega)
      have c0 := (hco.below.cell (p := ⟨b, off + k, none⟩) (by rw [HZ.out]; exact hb1)).trans (hcell k hlt)
      have hsz := HS.out vs[k] (List.getElem_mem hlt)
      have hdrop := Lib.hid (List.drop_eq_getElem_cons hlt)
      clear hcell
      obtain ⟨x, hx⟩ : ∃ x, x = vs[k] := ⟨_, rfl⟩
      rw [← hx] at c0 hsz hdrop
      clear hx
      unfold maxLen at hsz
      by_cases hlong : 4096 < x.length
      · have hlong' : (4096 : Int) < (x.length : Int) := by omega
        have hfin : Hid (cspM vs = ([], 3)) := Lib.hid (by unfold cspM; rw [hmg.out, hdrop.out, mergeN_long _ _ _ hlong])
        have p0 := hco.res.c0; have p1 := hco.res.c1; have p2 := hco.res.c2
        have f0 := hco.res.f0; have f1 := hco.res.f1; have f2 := hco.res.f2
        clear hmg hdrop hlong hsz
        gi_wp2
        have r3 := ((hco.res.set0 (.bool false)).set1 (.bool false)).set2 (.slice none 0 0)
        have hbl := ((hco.below.setCell (p := ⟨z, 0, none⟩) (Nat.le_refl _) (.bool false)).setCell (p := ⟨z, 1, none⟩) (Nat.le_refl _) (.bool false)).setCell (p := ⟨z, 2, none⟩) (Nat.le_refl _) (.slice none 0 0)
        refine leaves_marks ds _ (fun r hr => ?_) hnd (fun W' hW' => ?_)
        · obtain ⟨h1, h2⟩ := hco.marks r hr
          exact (Below.heap_setCell _ _ _ _ (by simp; omega)).trans ((Below.heap_setCell _ _ _ _ (by simp; omega)).trans ((Below.heap_setCell _ _ _ _ (by simp; omega)).trans h2))
        · have hzd : z ∉ ds := fun h => by have := (hco.marks z h).1; omega
          have r4 := (hW'.block z r3.lt hzd).trans r3
          refine ⟨_, results_ct rfl _ _ z 98 _ _ rfl r4 Tryz.underlying98 rfl (by kernel_rfl), _, ?_, by rw [hfin.out]; exact World.ownsRow_nil _ _ _ _, ?_⟩
          · rw [hfin.out]; rfl
          · rw [← HZ.out]
            exact hbl.trans (Keeps.below (hW'.mono fun k hk hm => by have := (hco.marks k hm).1; omega) (by have := hbl.size; have := hco.below.size; omega))
      · have hlong' : ((x.length : Int) ≤ 4096) := by omega
        have hmg2 := Lib.hid ((hmg.out.trans (congrArg (fun l => mergeN l N) hdrop.out)).trans (mergeN_short x (vs.drop (k + 1)) N hlong))
        clear hmg hdrop
        gi_wp2
        refine ⟨trivial, ?_⟩
        refine (callsIn_wide.2 (f_directives (mk x) _)).mono ?_
        rintro e w1 ⟨rfl, rfl⟩
        gi_wp2
        have hS5 : (W.alloc (.cells #[.string (mk x)] 9)).heap.size = W.heap.size + 1 := by simp
        have hB5 : Below W.heap.size W (W.alloc (.cells #[.string (mk x)] 9)) := (Below.refl _ W).alloc (Nat.le_refl _) _
        have hbox := Boxed.new W 9 (.string (mk x))
        generalize W.alloc (.cells #[.string (mk x)] 9) = W5 at *
        have hent := fun (a : Act) ps asg bd => enter_outer (F := Fence.wide) (P := Tryz.prog) rfl W5 a ps asg bd
        rw [hS5] at hent
        have hxl : (headsV x).length ≤ 20259001 := length_headsV x (by omega)
        have HXL := Lib.hid hxl
        have HNL := Lib.hid hNl
        clear hxl hNl hlong hsz
        refine range_law (w₁ := W5.alloc (.deferred (some []))) (L := W.heap.size + 2) (by omega) (by simp; omega) (hent _ _ _ _) (gf := 138) (lb := #[.pointer (some ⟨W.heap.size, 0, none⟩)]) rfl trivial (enters_of Tryz.func138 (by kernel_rfl) rfl)
          (dirs_seq W.heap.size z (mk x) W5 hbox (by rw [size_mk]; omega) (by omega)) ((Below.refl _ W5).alloc (Nat.le_refl _) _) (fun _ => rfl) (by omega) (by omega)
          (MInv w z N ((W.heap.size + 1) :: ds) (W.heap.size + 2)) (fun _ _ _ _ => False) (fun _ _ _ _ _ h hg hr => h.turn hzz hg hr) (fun _ _ _ _ h hg => h.lay hzz hg) (fun _ _ _ _ _ _ h _ _ => h) (fun _ _ _ _ _ h _ => h) ?start
          (fun y a' W' => a' = { tmps := #[.slice (some ⟨b, off, none⟩) vs.length cap, undef, .pointer (some ⟨z, 0, none⟩), .int .i64 0, .pointer (some ⟨z + 1, 0, none⟩), .pointer (some ⟨z + 3, 0, none⟩), u6, .string (mk x), .string (mk y), .map (some (z + 2)), .slice (some ⟨b, off, none⟩) vs.length cap, .int .i64 (vs.length : Int), .int .i64 (k : Int), .bool true, .pointer (some ⟨b, off + k, none⟩), .string (mk x), .string (mk x), .int .i64 (x.length : Int), .bool (decide (4096 < (x.length : Int))), u19, .string (mk x), .func (.func 138) #[] #[.pointer (some ⟨W.heap.size, 0, none⟩)], .string (mk y), u23, u24, u25, u26, u27, u28, u29, u30, u31, u32, u33, u34, u35, undef, undef, undef, undef, undef, undef, undef, undef, undef], defers := [] }) (fun _ _ _ _ _ h _ _ => h) ?assign ?body ?done ?stop
        case start =>
          intro o
          have hg : W.grownBy ((W5.alloc (.deferred (some []))).alloc o) none := grown_of_below ((hB5.alloc (by omega) _).alloc (by simp; omega) _)
          have hd := World.alloc_heap_new W5 (.deferred (some []))
          rw [hS5] at hd
          have hd2 : ((W5.alloc (.deferred (some []))).alloc o).heap[W.heap.size + 1]? = some (.deferred (some [])) := (Below.heap_alloc _ o _ (by simp; omega)).trans hd
          have hsz2 : ((W5.alloc (.deferred (some []))).alloc o).heap.size = W.heap.size + 3 := by simp [hS5]
          refine ⟨v, (hco.kept hzz hg (fun r e => by cases e)).mark hd2 (by omega), fun q hq => ?_⟩
          have hql : W.heap.size ≤ q ∧ q ≠ W.heap.size + 1 ∧ q < W.heap.size + 3 := by rcases hq with rfl | rfl <;> omega
          refine ⟨by omega, by omega, fun hm => ?_, fun e => by have := (hco.row.lt q e).2; omega⟩
          rcases List.mem_cons.1 hm with e | hm
          · exact hql.2.1 e
          · have := (Array.getElem?_eq_some_iff.1 (hco.marks q hm).2).1; omega
        case assign =>
          intro pre y G W' K hI hsp hK
          gi_wp2
          exact hK _ _ rfl (Keeps.refl _ _) hI rfl
        case body =>
          rintro pre y G a' Wb ⟨r0, hr0⟩ hI rfl ⟨post, hpost⟩
          have hyl : y.length ≤ 4096 := by
            have := headsV_len (un (mk x)) y (by rw [← hpost]; simp)
            rw [un_mk] at this; omega
          have hMl : (uniqN N pre).length ≤ 20259001 * 1001 := by
            have h1 := length_uniqN pre N
            have h2 := HXL.out
            rw [un_mk] at hpost
            rw [← hpost] at h2
            simp only [List.length_append, List.length_cons, List.length_nil] at h2
            have h3 := HNL.out
            omega
          clear hpost
          obtain ⟨vb, hcb, hkb⟩ := id hI
          obtain ⟨ao, co, rfl⟩ := own_slice hcb.row
          have eb := hcb.box.cell
          obtain ⟨M, hM⟩ : ∃ M, M = uniqN N pre := ⟨_, rfl⟩
          rw [← hM] at hcb hMl
          have hMy := Lib.hid hMl
          by_cases hy : y ∈ M
          · have hdec : Hid (decide (y ∈ M) = true) := Lib.hid (decide_eq_true hy)
            have hfin := hI.known (x := y) (by rw [← hM]; exact hy)
            clear hy hM hMl
            gi_wp2_with (gi_at_lookup; refine wpListIn_lookup_seen rfl _ _ rfl (z + 2) M.length M rfl hcb.seen y rfl (by unfold maxLen; omega) true hdec.out ?_)
            exact (show _ ∧ _ ∧ _ from ⟨rfl, Keeps.refl _ _, hfin⟩)
          · have hdec : Hid (decide (y ∈ M) = false) := Lib.hid (decide_eq_false hy)
            have hnot : Hid (y ∉ uniqN N pre) := Lib.hid (by rw [← hM]; exact hy)
            have HM := Lib.hid hM
            clear hy hM hMl
            gi_wp2_with (first
              | (gi_at_lookup; refine wpListIn_lookup_seen rfl _ _ rfl (z + 2) M.length M rfl hcb.seen y rfl (by unfold maxLen; omega) false hdec.out ?_)
              | (gi_at_mapUpdate; refine wpListIn_seen _ rfl _ _ _ rfl (z + 2) M.length M rfl hcb.seen (by have := hMy.out; unfold maxLen; omega) y rfl rfl (by unfold maxLen; omega) ?_; intro w5 hm5 hgm5; have q5 := (hcb.out.grown hgm5 (by simp)).c2; have q5' := ((hcb.out.grown hgm5 (by simp)).alloc (.cells #[.string (mk y)] 9)).c2; have ho5 := hcb.row.kept hgm5 (own_ne_of fun k e => by cases e; exact hcb.not_low.2.2.1); have hs5 : z ≤ w5.heap.size := by have := hgm5.size; have := hcb.size; omega)
              | (gi_at_builtin; refine wpListIn_append_at _ rfl (.tmp 30) (.tmp 32) 39 rfl z 9 iS0 (.string ByteArray.empty) 1 16 Tryz.underlying39 iS.1 iS.2.1 iS.2.2.1 iS.2.2.2 rfl (by decide) _ _ _ rfl (ho5.alloc _) ⟨w5.heap.size, 0, none⟩ 1 1 [.string (mk y)] rfl rfl (cell_one_new _ _ _) (by intro u hu; simp at hu; subst hu; rfl) (by have := hMy.out; unfold maxLen; omega) (by have := hMy.out; omega) (by simp; omega) (by omega) ?_; intro g cap6 w6 hown6 hgrow6 hat6; have hout6 := ((hcb.out.grown hgm5 (by simp)).alloc (.cells #[.string (mk y)] 9)).grown hgrow6 (fun e => hcb.not_low.2.1 e.symm); have q6 := hout6.c2; have f6 := hout6.f2))
            exact MInv.addedM HM.out hI hzz hcb.out hnot.out hm5 hgm5 hown6 hgrow6 hat6
        case done =>
          rintro xs G W' rfl ⟨v', hc', hk'⟩
          rw [un_mk] at hc'
          gi_wp2
          refine ⟨⟨k + 1, (W.heap.size + 1) :: ds, uniqN N (headsV x), v', _, _, _, _, _, _, _, _, _, _, _, _, _, _, _, _, _, _, _, _, _, _, _, _, _, _, rfl, by omega, hc', ?_, hmg2, ?_⟩, ?_⟩
          · rw [List.nodup_cons]
            exact ⟨fun hm => by have := (Array.getElem?_eq_some_iff.1 (hco.marks _ hm).2).1; omega, hnd⟩
          · have h1 := length_uniqN (headsV x) N
            have h2 := HXL.out
            have h3 := HNL.out
            omega
          · simp [intOf]; omega
        case stop =>
          rintro c pre G W' _ h
          exact h.elim
    · obtain rfl : k = vs.length := by omega
      have hfin : Hid (cspM vs = (N, 0)) := Lib.hid (by unfold cspM; rw [hmg.out, List.drop_length, mergeN_nil])
      clear hmg
      obtain ⟨ao, co, rfl⟩ := own_slice hco.row
      have hstr : Strs W (.slice ao N.length co) N := Row.owned hco.row
      obtain ⟨b1, hb1⟩ : ∃ b1, b1 = decide (un upB ∈ N) := ⟨_, rfl⟩
      obtain ⟨b2, hb2⟩ : ∃ b2, b2 = decide (un blB ∈ N) := ⟨_, rfl⟩
      have o0 := hco.out
      have o1 := o0.set0 (.bool b1)
      have o2 := o1.set1 (.bool b2)
      have r0 := hco.res
      have r1 := r0.other (p := z + 1) (by omega) 0 (.bool b1)
      have r2 := r1.other (p := z + 1) (by omega) 1 (.bool b2)
      have hrow1 := hco.row.kept (grown_setCell W (z + 1) 0 (.bool b1)) (own_ne_of fun k e => by cases e; exact hco.not_low.2.1)
      have hstr1 : Strs _ (.slice ao N.length co) N := Row.owned hrow1
      have con1 := contains_strs _ N upB W hstr
      have con2 := contains_strs _ N blB _ hstr1
      rw [← hb1] at con1
      rw [← hb2] at con2
      have CON1 := Lib.hid con1
      have CON2 := Lib.hid con2
      have HB1 := Lib.hid hb1
      have HB2 := Lib.hid hb2
      have A0 := o0.c0; have A1 := o0.c1; have A2 := o0.c2; have B0 := o0.f0; have B1 := o1.f1
      have A20 := o1.c2; have A11 := o1.c1
      have A3 := o2.c0; have A4 := o2.c1; have A5 := o2.c2
      have P0 := r2.c0; have P1 := r2.c1; have P2 := r2.c2; have Q0 := r2.f0; have Q1 := r2.f1; have Q2 := r2.f2
      clear con1 con2 hb1 hb2 hstr hstr1
      gi_wp2
      refine ⟨trivial, ?_⟩
      refine (callsIn_wide.2 CON1.out).mono ?_
      rintro e w' ⟨rfl, rfl⟩
      gi_wp2
      refine ⟨trivial, ?_⟩
      refine (callsIn_wide.2 CON2.out).mono ?_
      rintro e w' ⟨rfl, rfl⟩
      gi_wp2
      have r5 := ((r2.set0 (.bool b1)).set1 (.bool b2)).set2 (.slice ao N.length co)
      have nlow := hco.not_low
      have hrow2 := hrow1.kept (grown_setCell _ (z + 1) 1 (.bool b2)) (own_ne_of fun k e => by cases e; exact nlow.2.1)
      have hrow5 := ((hrow2.kept (grown_setCell _ z 0 (.bool b1)) (own_ne_of fun k e => by cases e; exact nlow.1)).kept (grown_setCell _ z 1 (.bool b2)) (own_ne_of fun k e => by cases e; exact nlow.1)).kept (grown_setCell _ z 2 (.slice ao N.length co)) (own_ne_of fun k e => by cases e; exact nlow.1)
      have hbl := ((((hco.below.setCell (p := ⟨z + 1, 0, none⟩) (by simp) (.bool b1)).setCell (p := ⟨z + 1, 1, none⟩) (by simp) (.bool b2)).setCell (p := ⟨z, 0, none⟩) (Nat.le_refl _) (.bool b1)).setCell (p := ⟨z, 1, none⟩) (Nat.le_refl _) (.bool b2)).setCell (p := ⟨z, 2, none⟩) (Nat.le_refl _) (.slice ao N.length co)
      have nm := hco.not_mark
      refine leaves_marks ds _ (fun r hr => ?_) hnd (fun W' hW' => ?_)
      · obtain ⟨h1, h2⟩ := hco.marks r hr
        exact (Below.heap_setCell _ _ _ _ (by simp; omega)).trans ((Below.heap_setCell _ _ _ _ (by simp; omega)).trans ((Below.heap_setCell _ _ _ _ (by simp; omega)).trans ((Below.heap_setCell _ _ _ _ (by simp; omega)).trans ((Below.heap_setCell _ _ _ _ (by simp; omega)).trans h2))))
      · have hzd : z ∉ ds := fun h => by have := (hco.marks z h).1; omega
        have r6 := (hW'.block z r5.lt hzd).trans r5
        refine ⟨_, results_ct rfl _ _ z 98 _ _ rfl r6 Tryz.underlying98 rfl (by kernel_rfl), .slice ao N.length co, ?_, ?_, ?_⟩
        · rw [hfin.out]; unfold cspVal; rw [← HB1.out, ← HB2.out]; rfl
        · rw [hfin.out, ← HZ.out]
          exact own_keeps hrow5 hW' (fun k e hm => nm k hm e)
        · rw [← HZ.out]
          exact hbl.trans (Keeps.below (hW'.mono fun k hk hm => by have := (hco.marks k hm).1; omega) (by have := hbl.size; have := hco.below.size; omega))
end Go.Proofs.YtjbciamhhfcdoaaGreatDoor
