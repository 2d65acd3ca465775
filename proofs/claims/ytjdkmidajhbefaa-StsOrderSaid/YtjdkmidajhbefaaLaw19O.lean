/- The walk of StsOrder (law of layer 19): it returns true; memory that existed is unchanged. Conditions: none. -/
import Derived.Test.YtjdkmidajhbefaaLaw19
import Derived.Test.YtjdkmidajhbefaaDirFr
import Derived.Test.YtjdkmidajhbefaaPlainStsO
import Derived.Test.YtjdkmidajhbefaaAsciiWords
import Derived.Test.YtjdkmidajhbefaaKeepMod
import Derived.Test.YtjdkmidajhbefaaOpenDirs
import Derived.BigRegion
namespace Go.Proofs.Ytjdkmidajhbefaa
open Go.RowKit Hs
set_option linter.unusedSimpArgs false
set_option linter.unusedVariables false

theorem dcells_one' (l : List Dir) : ∀ u ∈ dcells l, u.oneCell' = true := by
  intro u hu
  unfold dcells at hu
  rw [List.mem_flatMap] at hu
  obtain ⟨d, _, hd⟩ := hu
  simp only [List.mem_cons, List.not_mem_nil, or_false] at hd
  rcases hd with rfl | rfl | rfl <;> rfl
theorem own_lit' (w : World) (base : Nat) (hb : base ≤ w.heap.size) (T : TypeId) (n : Nat) (hn : n = w.heap.size) : (w.alloc (.cells #[] T)).ownsRow base T 3 (.slice (some ⟨n, 0, none⟩) 0 0) 0 [] := by
  subst hn
  exact ⟨rfl, .inr ⟨w.heap.size, 0, #[], rfl, hb, heap_alloc_new w _, Nat.le_refl _, by simp [maxLen], rfl, rfl⟩⟩
/-- An own row of directives: its block, its cells, none frozen. -/
theorem own_dirs {w : World} {base : Nat} {v : Value} {n : Nat} {l : List Dir} (h : w.ownsRow base 41 3 v n (dcells l)) (hn : n = l.length) (h0 : 0 < n) : ∃ g cap, v = .slice (some ⟨g, 0, none⟩) n cap ∧ n ≤ cap ∧ cap ≤ maxLen ∧ base ≤ g ∧ g < w.heap.size ∧ (∀ j, w.frozen? ⟨g, j, none⟩ = false) ∧ ∀ i (hi : i < l.length), w.cell? ⟨g, i * 3, none⟩ = some (.string (mk l[i].1)) ∧ w.cell? ⟨g, i * 3 + 1, none⟩ = some (.string (mk l[i].2.1)) ∧ w.cell? ⟨g, i * 3 + 2, none⟩ = some (.bool l[i].2.2) := by
  rcases h.2 with ⟨rfl, rfl⟩ | ⟨g, cap, cur, rfl, hb, hg, hnc, hm, hs, ht⟩
  · omega
  · refine ⟨g, cap, rfl, hnc, hm, hb, (Array.getElem?_eq_some_iff.1 hg).1, fun j => by simp [World.frozen?, hg], fun i hi => ?_⟩
    obtain ⟨g0, g1, g2⟩ := dcells_get l i hi
    have hadd : ∀ j, (⟨g, 0, none⟩ : Addr).add j = ⟨g, j, none⟩ := fun j => by unfold Addr.add; split <;> simp_all
    have c := h.cells (g := g) rfl
    refine ⟨?_, ?_, ?_⟩
    · have := c _ _ g0; rwa [hadd] at this
    · have := c _ _ g1; rwa [hadd] at this
    · have := c _ _ g2; rwa [hadd] at this
/-- A directive written at an index of a block. -/
def put3 (W : World) (g p : Nat) (d : Dir) : World := ((W.setCell ⟨g, p, none⟩ (.string (mk d.1))).setCell ⟨g, p + 1, none⟩ (.string (mk d.2.1))).setCell ⟨g, p + 2, none⟩ (.bool d.2.2)
theorem addr_ne {g p q : Nat} (h : p ≠ q) : (⟨g, p, none⟩ : Addr) ≠ ⟨g, q, none⟩ := fun e => h (by cases e; rfl)
theorem put3_other (W : World) (g p : Nat) (d : Dir) (q : Nat) (h0 : q ≠ p) (h1 : q ≠ p + 1) (h2 : q ≠ p + 2) : (put3 W g p d).cell? ⟨g, q, none⟩ = W.cell? ⟨g, q, none⟩ := by
  unfold put3
  rw [World.cell?_setCell_other _ _ _ _ (addr_ne (by omega)), World.cell?_setCell_other _ _ _ _ (addr_ne (by omega)), World.cell?_setCell_other _ _ _ _ (addr_ne (by omega))]
theorem put3_same (W : World) (g p : Nat) (d : Dir) (x y z : Value) (h0 : W.cell? ⟨g, p, none⟩ = some x) (h1 : W.cell? ⟨g, p + 1, none⟩ = some y) (h2 : W.cell? ⟨g, p + 2, none⟩ = some z) : (put3 W g p d).cell? ⟨g, p, none⟩ = some (.string (mk d.1)) ∧ (put3 W g p d).cell? ⟨g, p + 1, none⟩ = some (.string (mk d.2.1)) ∧ (put3 W g p d).cell? ⟨g, p + 2, none⟩ = some (.bool d.2.2) := by
  unfold put3
  refine ⟨?_, ?_, ?_⟩
  · rw [World.cell?_setCell_other _ _ _ _ (addr_ne (by omega)), World.cell?_setCell_other _ _ _ _ (addr_ne (by omega))]
    exact World.cell?_setCell_same _ _ _ h0
  · rw [World.cell?_setCell_other _ _ _ _ (addr_ne (by omega))]
    exact World.cell?_setCell_same _ _ _ ((World.cell?_setCell_other _ _ _ _ (addr_ne (by omega))).trans h1)
  · exact World.cell?_setCell_same _ _ _ ((World.cell?_setCell_other _ _ _ _ (addr_ne (by omega))).trans ((World.cell?_setCell_other _ _ _ _ (addr_ne (by omega))).trans h2))
theorem below_put3 {B : Nat} {a W : World} (h : Below B a W) {g : Nat} (hg : B ≤ g) (p : Nat) (d : Dir) : Below B a (put3 W g p d) :=
  ((h.setCell (p := ⟨g, p, none⟩) hg _).setCell (p := ⟨g, p + 1, none⟩) hg _).setCell (p := ⟨g, p + 2, none⟩) hg _
/-- Two directives of a row exchanged. -/
theorem swapped_dirs (W : World) (g cp : Nat) (l : List Dir) (a c : Nat) (ha : a < l.length) (hc : c < l.length) (h1 : l.length ≤ cp) (h2 : cp ≤ maxLen) (hg : g < W.heap.size)
    (h : ∀ i (hi : i < l.length), W.cell? ⟨g, i * 3, none⟩ = some (.string (mk l[i].1)) ∧ W.cell? ⟨g, i * 3 + 1, none⟩ = some (.string (mk l[i].2.1)) ∧ W.cell? ⟨g, i * 3 + 2, none⟩ = some (.bool l[i].2.2)) :
    Dirs (put3 (put3 W g (a * 3) l[c]) g (c * 3) l[a]) (.slice (some ⟨g, 0, none⟩) l.length cp) (swapD l a c ha hc) := by
  have hin : ∀ i (hi : i < l.length), ∃ x y z, (put3 W g (a * 3) l[c]).cell? ⟨g, i * 3, none⟩ = some x ∧ (put3 W g (a * 3) l[c]).cell? ⟨g, i * 3 + 1, none⟩ = some y ∧ (put3 W g (a * 3) l[c]).cell? ⟨g, i * 3 + 2, none⟩ = some z := by
    intro i hi
    by_cases hia : i = a
    · subst hia
      obtain ⟨k0, k1, k2⟩ := h i hi
      obtain ⟨q0, q1, q2⟩ := put3_same W g (i * 3) l[c] _ _ _ k0 k1 k2
      exact ⟨_, _, _, q0, q1, q2⟩
    · obtain ⟨k0, k1, k2⟩ := h i hi
      refine ⟨_, _, _, (put3_other W g (a * 3) l[c] _ (by omega) (by omega) (by omega)).trans k0, (put3_other W g (a * 3) l[c] _ (by omega) (by omega) (by omega)).trans k1, (put3_other W g (a * 3) l[c] _ (by omega) (by omega) (by omega)).trans k2⟩
  refine dirs_of_cells (swapD_length l a c ha hc) h1 h2 (by simpa [put3] using hg) (fun i hi => ?_)
  have hi' : i < l.length := by rw [swapD_length] at hi; exact hi
  have e : (swapD l a c ha hc)[i] = if i = c then l[a] else if i = a then l[c] else l[i] := swapD_get l a c ha hc i hi'
  rw [e, Nat.zero_add]
  by_cases hic : i = c
  · rw [if_pos hic]
    subst hic
    obtain ⟨x, y, z, k0, k1, k2⟩ := hin i hi'
    exact put3_same _ g (i * 3) l[a] x y z k0 k1 k2
  · rw [if_neg hic]
    have o0 := put3_other (put3 W g (a * 3) l[c]) g (c * 3) l[a] (i * 3) (by omega) (by omega) (by omega)
    have o1 := put3_other (put3 W g (a * 3) l[c]) g (c * 3) l[a] (i * 3 + 1) (by omega) (by omega) (by omega)
    have o2 := put3_other (put3 W g (a * 3) l[c]) g (c * 3) l[a] (i * 3 + 2) (by omega) (by omega) (by omega)
    rw [o0, o1, o2]
    obtain ⟨k0, k1, k2⟩ := h i hi'
    by_cases hia : i = a
    · rw [if_pos hia]
      subst hia
      exact put3_same W g (i * 3) l[c] _ _ _ k0 k1 k2
    · rw [if_neg hia]
      exact ⟨(put3_other W g (a * 3) l[c] _ (by omega) (by omega) (by omega)).trans k0, (put3_other W g (a * 3) l[c] _ (by omega) (by omega) (by omega)).trans k1, (put3_other W g (a * 3) l[c] _ (by omega) (by omega) (by omega)).trans k2⟩
theorem Dirs.drew {w : World} {v : Value} {l : List Dir} (h : Dirs w v l) : Dirs w.drew v l := h
/-- Whether all texts have at most 500 bytes. -/
def short5 (l : List Dir) : Bool := l.all (fun d => decide (d.1.length ≤ 500) && decide (d.2.1.length ≤ 500))
theorem short5_yes (l : List Dir) (h : short5 l = true) : ∀ d ∈ l, d.1.length ≤ 10000 ∧ d.2.1.length ≤ 10000 := by
  unfold short5 at h
  rw [List.all_eq_true] at h
  intro d hd
  have := h d hd
  rw [Bool.and_eq_true, decide_eq_true_eq, decide_eq_true_eq] at this
  omega

set_option maxHeartbeats 6000000 in
theorem order_walk19 (v : Value) (l : List Dir) (i k : Int) (w : World) (hv : Dirs w v l) (hs : ∀ d ∈ l, d.1.length ≤ maxLen ∧ d.2.1.length ≤ maxLen) (hi : (Lit.int .i64 i).wf = true) (hk : (Lit.int .i64 k).wf = true) : Calls Try.prog 8 #[v, .int .i64 i, .int .i64 k] w fun e w' => e = .returned (.bool true) ∧ Below w.heap.size w w' := by
  obtain ⟨iD0, iD⟩ := info_parts infoDir
  have AW := Lib.hid (fun W => law19_awake W)
  have HV := Lib.hid hv
  obtain ⟨a0, cap, rfl, hn, hm, hc⟩ := hv.open
  unfold maxLen at hm
  have HC := Lib.hid hc
  have HS := Lib.hid hs
  clear hc hv hs
  by_cases hlen : 2 ≤ l.length ∧ l.length ≤ 40
  · obtain ⟨hl2, hl40⟩ := hlen
    go_enter Try.func8, Try.ntmps8
    go_wp2_with fail
    go_loopw [7] (fun iv wr => ∃ k : Nat, iv = .int .i64 k ∧ k ≤ l.length ∧ Below w.heap.size w wr ∧ Hid (short5 l = (l.drop k).all (fun d => decide (d.1.length ≤ 500) && decide (d.2.1.length ≤ 500)))) (fun iv _ => l.length - (intOf iv).toNat)
    case atStart => exact ⟨0, rfl, by omega, Below.refl _ _, Lib.hid rfl⟩
    case round =>
      obtain ⟨j, rfl, hj, hnx, ha⟩ := hrel
      by_cases hlt : j < l.length
      · obtain ⟨b, off, rfl, hb1, hcell⟩ := HC.out (by omega)
        obtain ⟨x0, x1, x2⟩ := hcell j hlt
        have c0 := (hnx.cell (p := ⟨b, off + j * 3, none⟩) hb1).trans x0
        have c1 := (hnx.cell (p := ⟨b, off + j * 3 + 1, none⟩) hb1).trans x1
        have hsz := HS.out l[j] (List.getElem_mem hlt)
        have hst : Hid (short5 l = ((decide (l[j].1.length ≤ 500) && decide (l[j].2.1.length ≤ 500)) && (l.drop (j + 1)).all (fun d => decide (d.1.length ≤ 500) && decide (d.2.1.length ≤ 500)))) := by
          have e := ha.out
          rw [List.drop_eq_getElem_cons hlt, List.all_cons] at e
          exact e
        clear hcell x0 x1 x2 ha
        obtain ⟨x, hx⟩ : ∃ x, x = l[j] := ⟨_, rfl⟩
        rw [← hx] at c0 c1 hsz hst
        clear hx
        obtain ⟨n, z, t⟩ := x
        simp only at c0 c1 hsz hst
        obtain ⟨bb, hbb⟩ : ∃ bb, bb = (decide (n.length ≤ 500) && decide (z.length ≤ 500)) := ⟨_, rfl⟩
        rw [← hbb] at hst
        have hsh : Hid (∀ (W' : World) (g : Nat), Strs W' (.slice (some ⟨g, 0, none⟩) 2 2) [n, z] → Calls Try.prog 26 #[.int .i64 500, .slice (some ⟨g, 0, none⟩) 2 2] W' fun e w' => e = .returned (.bool bb) ∧ W' = w') := Lib.hid (fun W' g hstr => by
          have := keep_short 500 _ [n, z] _ hstr (by
            intro t ht
            simp only [List.mem_cons, List.not_mem_nil, or_false] at ht
            rcases ht with rfl | rfl
            · exact hsz.1
            · exact hsz.2)
          have e : ([n, z].all fun t => decide ((t.length : Int) ≤ 500)) = bb := by
            rw [hbb, Bool.eq_iff_iff]; simp; omega
          rw [e] at this
          exact this)
        clear hbb hsz
        cases bb
        · go_wp2_with fail
          go_region_with (go_at_call 26; refine (hsh.out _ _ (by exact strs_lit wr [mk n, mk z] _ (by simp [maxLen]))).mono ?_; rintro e w' ⟨rfl, rfl⟩)
          all_goals
            go_wp2_with fail
            refine (AW.out _).mono ?_; rintro e wz ⟨rfl, hbz⟩
            go_wp2_with fail
            go_ret
            exact ⟨rfl, (hnx.alloc hnx.size _).drew.trans (hbz.mono (hnx.alloc hnx.size _).size)⟩
        · have hst2 := Lib.hid (hst.out.trans (Bool.true_and _))
          clear hst
          go_wp2_with fail
          go_region_with (go_at_call 26; refine (hsh.out _ _ (by exact strs_lit wr [mk n, mk z] _ (by simp [maxLen]))).mono ?_; rintro e w' ⟨rfl, rfl⟩)
          all_goals
            go_wp2
            go_roundw
            case rel => exact ⟨j + 1, by go_num, by omega, (hnx.alloc hnx.size _).drew, hst2⟩
            case measure => simp [intOf]; omega
      · obtain rfl : j = l.length := by omega
        have hfin : short5 l = true := by
          have e := ha.out
          rw [List.drop_length] at e
          exact e
        have hsz := Lib.hid (short5_yes l hfin)
        clear ha hfin
        obtain ⟨b, off, rfl, hb1, _⟩ := HC.out (by omega)
        have hd1 := HV.out.below hnx
        have hrow : Hid (b < wr.heap.size ∧ ∀ j u, (dcells l)[j]? = some u → (wr.alloc (.cells #[] 41)).cell? ((⟨b, off, none⟩ : Addr).add j) = some u) := Lib.hid (by
          obtain ⟨_, a, c, heq, _, _, h⟩ := hd1
          cases heq
          rcases h with h0 | ⟨b2, off2, hba, hlt, hcells⟩
          · omega
          · cases hba
            refine ⟨hlt, fun j u hj => ?_⟩
            have hadd : (⟨b, off, none⟩ : Addr).add j = ⟨b, off + j, none⟩ := by
              unfold Addr.add
              split
              · rename_i h; subst h; rfl
              · rfl
            rw [hadd, World.cell?_alloc_past _ _ _ hlt]
            exact hcells j u hj)
        obtain ⟨a, haa, hal⟩ : ∃ a : Nat, i % (l.length : Int) = (a : Int) ∧ a < l.length := ⟨(i % (l.length : Int)).toNat, by have := Int.emod_nonneg i (show (l.length : Int) ≠ 0 by omega); omega, by have := Int.emod_lt_of_pos i (show (0 : Int) < (l.length : Int) by omega); have := Int.emod_nonneg i (show (l.length : Int) ≠ 0 by omega); omega⟩
        obtain ⟨c, hcc, hcl⟩ : ∃ c : Nat, k % (l.length : Int) = (c : Int) ∧ c < l.length := ⟨(k % (l.length : Int)).toNat, by have := Int.emod_nonneg k (show (l.length : Int) ≠ 0 by omega); omega, by have := Int.emod_lt_of_pos k (show (0 : Int) < (l.length : Int) by omega); have := Int.emod_nonneg k (show (l.length : Int) ≠ 0 by omega); omega⟩
        have HI : Hid (∀ W : World, Calls Try.prog 17 #[.int .i64 i, .int .i64 (l.length : Int)] W fun e w' => e = .returned (.int .i64 (a : Int)) ∧ W = w') := Lib.hid fun W => by
          have := keep_mod i (l.length : Int) W hi (by omega) (by omega)
          rw [haa] at this
          exact this
        have HK : Hid (∀ W : World, Calls Try.prog 17 #[.int .i64 k, .int .i64 (l.length : Int)] W fun e w' => e = .returned (.int .i64 (c : Int)) ∧ W = w') := Lib.hid fun W => by
          have := keep_mod k (l.length : Int) W hk (by omega) (by omega)
          rw [hcc] at this
          exact this
        clear haa hcc hj
        have hl0 : 0 < l.length := by omega
        go_wp2_with (at_builtin; refine wpList_append_own _ rfl (.tmp 48) (.tmp 49) 39 rfl wr.heap.size 41 iD0 (.agg #[.string ⟨#[]⟩, .string ⟨#[]⟩, .bool false]) 3 40 Try.underlying39 iD.1 iD.2.1 iD.2.2.1 iD.2.2.2 rfl (by decide) _ 0 [] rfl (own_lit' wr wr.heap.size (Nat.le_refl _) _ _ rfl) ⟨b, off, none⟩ l.length _ (dcells l) rfl (length_dcells l) hrow.out.2 (dcells_one' l) (by unfold maxLen; omega) (by omega) (by simp) ?_; intro va wa howna hgrowa hnila; obtain ⟨g, cp, rfl, hcp, hcpm, hgb, hgl, hfz, hcl2⟩ := own_dirs (n := l.length) (by simpa using howna) rfl hl0)
        refine (HI.out _).mono ?_; rintro e w' ⟨rfl, rfl⟩
        go_wp2_with fail
        refine (HK.out _).mono ?_; rintro e w' ⟨rfl, rfl⟩
        have ba : Below w.heap.size w wa := ((hnx.alloc hnx.size _).grown hgrowa (by have := hnx.size; simp; omega) (fun x hx => by cases hx; exact hnx.size))
        have hdl : Dirs wa (.slice (some ⟨b, off, none⟩) l.length cap) l := HV.out.below ba
        obtain ⟨ca0, ca1, ca2⟩ := hcl2 a hal
        obtain ⟨cc0, cc1, cc2⟩ := hcl2 c hcl
        have fa0 := hfz (a * 3); have fa1 := hfz (a * 3 + 1); have fa2 := hfz (a * 3 + 2)
        have fc0 := hfz (c * 3); have fc1 := hfz (c * 3 + 1); have fc2 := hfz (c * 3 + 2)
        have HCL2 := Lib.hid hcl2
        have HGA := Lib.hid hgrowa
        clear hcl2 hfz hgrowa howna hnila
        have hgw : w.heap.size ≤ g := by have := hnx.size; omega
        have dm := swapped_dirs wa g cp l a c hal hcl hcp hcpm hgl HCL2.out
        have bs := (below_put3 (below_put3 ba hgw (a * 3) l[c]) hgw (c * 3) l[a]).drew
        have fmt : Hid (∀ (W : World) (x : Value) (m : List Dir), Dirs W x m → m.Perm l → Calls Try.prog 30 #[x] W fun e w' => e = .returned (.tuple #[.string (mk (formatD m).1), .int .i64 (formatD m).2]) ∧ Below W.heap.size W w') := Lib.hid fun W x m h hp => r18_format x m W h (fun d hd => hsz.out d (hp.mem_iff.1 hd))
        have flen : ∀ (m : List Dir) (s : Bs), formatD m = (s, 0) → s.length ≤ 4096 := fun m s h => by
          unfold formatD at h
          cases hv : validD m
          · rw [hv] at h; simp at h
          · rw [hv, if_pos rfl] at h
            split at h
            · simp at h
            · simp only [Prod.mk.injEq, and_true] at h
              rw [← h]; omega
        obtain ⟨A, hA⟩ : ∃ A, A = l[a] := ⟨_, rfl⟩
        obtain ⟨C, hC⟩ : ∃ C, C = l[c] := ⟨_, rfl⟩
        rw [← hA] at ca0 ca1 ca2 dm bs
        rw [← hC] at cc0 cc1 cc2 dm bs
        have HA := Lib.hid hA
        have HCc := Lib.hid hC
        clear hA hC
        by_cases hac : a = c
        · have hAC : A = C := by rw [HA.out, HCc.out]; subst hac; rfl
          subst hac
          subst hAC
          have dl2 := HV.out.below bs
          have dm2 := dm.drew
          have b2 := bs
          unfold put3 at dl2 dm2 b2
          clear dm bs ba hdl HCL2 HGA
          go_wp2_with fail
          go_region
          go_wp2_with fail
          refine (fmt.out _ _ l dl2 (List.Perm.refl l)).mono ?_; rintro e w5 ⟨rfl, hb5⟩
          have b5 := b2.trans (hb5.mono b2.size)
          have dm5 := dm2.below hb5
          clear hb5 b2 dl2 dm2
          obtain ⟨⟨s1, z1⟩, hf1⟩ : ∃ X, formatD l = X := ⟨_, rfl⟩
          have HF1 := Lib.hid hf1
          rw [hf1]
          clear hf1
          go_wp2_with fail
          refine (fmt.out _ _ _ dm5 (swapD_perm l a a hal hcl)).mono ?_; rintro e w6 ⟨rfl, hb6⟩
          have b6 := b5.trans (hb6.mono b5.size)
          clear hb6 b5 dm5
          obtain ⟨⟨s2, z2⟩, hf2⟩ : ∃ X, formatD (swapD l a a hal hcl) = X := ⟨_, rfl⟩
          have HF2 := Lib.hid hf2
          rw [hf2]
          clear hf2
          have hcase : z1 ≠ 0 ∨ (z1 = 0 ∧ z2 ≠ 0) ∨ (z1 = 0 ∧ z2 = 0) := by omega
          rcases hcase with h | ⟨rfl, h⟩ | ⟨rfl, rfl⟩
          · have hb : (z1 != 0) = true := by simpa using h
            go_wp2_with fail
            refine (AW.out _).mono ?_; rintro e wz ⟨rfl, hbz⟩
            go_wp2_with fail
            go_ret
            exact ⟨rfl, b6.trans (hbz.mono b6.size)⟩
          · have hb : (z2 != 0) = true := by simpa using h
            go_wp2_with fail
            refine (AW.out _).mono ?_; rintro e wz ⟨rfl, hbz⟩
            go_wp2_with fail
            go_ret
            exact ⟨rfl, b6.trans (hbz.mono b6.size)⟩
          · have hsp := stsP_perm l _ (swapD_perm l a a hal hcl) s1 s2 HF1.out HF2.out
            have hl1 := flen l s1 HF1.out
            have hl2' := flen _ s2 HF2.out
            have p1 : Hid (∀ W : World, Calls Try.prog 28 #[.string (mk s1)] W fun e w' => e = .returned (.tuple #[.agg #[.int .i64 (stsP s1).1.1, .bool (stsP s1).1.2], .int .i64 (stsP s1).2]) ∧ Below W.heap.size W w') := Lib.hid fun W => by
              have := sts_parse (mk s1) W (by rw [size_mk]; omega)
              rw [un_mk] at this
              exact this
            have p2 : Hid (∀ W : World, Calls Try.prog 28 #[.string (mk s2)] W fun e w' => e = .returned (.tuple #[.agg #[.int .i64 (stsP s1).1.1, .bool (stsP s1).1.2], .int .i64 (stsP s1).2]) ∧ Below W.heap.size W w') := Lib.hid fun W => by
              have := sts_parse (mk s2) W (by rw [size_mk]; omega)
              rw [un_mk, hsp] at this
              exact this
            clear hsp HF1 HF2
            generalize stsP s1 = X at *
            obtain ⟨⟨xn, xb⟩, xz⟩ := X
            go_wp2_with fail
            refine (p1.out _).mono ?_; rintro e w7 ⟨rfl, hb7⟩
            have b7 := b6.trans (hb7.mono b6.size)
            go_wp2_with fail
            have f7 := Blk2.new w7 36 (.int .i64 xn) (.bool xb)
            have b7' := b7.alloc b7.size (.cells #[.int .i64 xn, .bool xb] 36)
            generalize w7.alloc (.cells #[.int .i64 xn, .bool xb] 36) = W7 at *
            generalize w7.heap.size = g7 at *
            refine (p2.out _).mono ?_; rintro e w8 ⟨rfl, hb8⟩
            have b8 := b7'.trans (hb8.mono b7'.size)
            have f8 := f7.below hb8
            have q0 := f8.c0; have q1 := f8.c1
            have hgl8 := f8.lt
            clear f7 hb7 hb8 b7 b7' b6
            go_wp2_with fail
            refine (AW.out _).mono ?_; rintro e wz ⟨rfl, hbz⟩
            go_wp2_with fail
            go_ret
            exact ⟨rfl, (b8.alloc b8.size _).trans (hbz.mono (b8.alloc b8.size _).size)⟩
        · have n1 : ¬ c = a := fun e => hac e.symm
          have m1 : ¬ a * 3 = c * 3 + 1 := by omega
          have m2 : ¬ a * 3 = c * 3 + 2 := by omega
          have m3 : ¬ a * 3 + 1 = c * 3 := by omega
          have m4 : ¬ a * 3 + 1 = c * 3 + 2 := by omega
          have m5 : ¬ a * 3 + 2 = c * 3 := by omega
          have m6 : ¬ a * 3 + 2 = c * 3 + 1 := by omega
          have m7 : ¬ c * 3 = a * 3 + 1 := by omega
          have m8 : ¬ c * 3 = a * 3 + 2 := by omega
          have m9 : ¬ c * 3 + 1 = a * 3 := by omega
          have m10 : ¬ c * 3 + 1 = a * 3 + 2 := by omega
          have m11 : ¬ c * 3 + 2 = a * 3 := by omega
          have m12 : ¬ c * 3 + 2 = a * 3 + 1 := by omega
          have dl2 := HV.out.below bs
          have dm2 := dm.drew
          have b2 := bs
          unfold put3 at dl2 dm2 b2
          clear dm bs ba hdl HCL2 HGA
          go_wp2_with fail
          go_region
          go_wp2_with fail
          refine (fmt.out _ _ l dl2 (List.Perm.refl l)).mono ?_; rintro e w5 ⟨rfl, hb5⟩
          have b5 := b2.trans (hb5.mono b2.size)
          have dm5 := dm2.below hb5
          clear hb5 b2 dl2 dm2
          obtain ⟨⟨s1, z1⟩, hf1⟩ : ∃ X, formatD l = X := ⟨_, rfl⟩
          have HF1 := Lib.hid hf1
          rw [hf1]
          clear hf1
          go_wp2_with fail
          refine (fmt.out _ _ _ dm5 (swapD_perm l a c hal hcl)).mono ?_; rintro e w6 ⟨rfl, hb6⟩
          have b6 := b5.trans (hb6.mono b5.size)
          clear hb6 b5 dm5
          obtain ⟨⟨s2, z2⟩, hf2⟩ : ∃ X, formatD (swapD l a c hal hcl) = X := ⟨_, rfl⟩
          have HF2 := Lib.hid hf2
          rw [hf2]
          clear hf2
          have hcase : z1 ≠ 0 ∨ (z1 = 0 ∧ z2 ≠ 0) ∨ (z1 = 0 ∧ z2 = 0) := by omega
          rcases hcase with h | ⟨rfl, h⟩ | ⟨rfl, rfl⟩
          · have hb : (z1 != 0) = true := by simpa using h
            go_wp2_with fail
            refine (AW.out _).mono ?_; rintro e wz ⟨rfl, hbz⟩
            go_wp2_with fail
            go_ret
            exact ⟨rfl, b6.trans (hbz.mono b6.size)⟩
          · have hb : (z2 != 0) = true := by simpa using h
            go_wp2_with fail
            refine (AW.out _).mono ?_; rintro e wz ⟨rfl, hbz⟩
            go_wp2_with fail
            go_ret
            exact ⟨rfl, b6.trans (hbz.mono b6.size)⟩
          · have hsp := stsP_perm l _ (swapD_perm l a c hal hcl) s1 s2 HF1.out HF2.out
            have hl1 := flen l s1 HF1.out
            have hl2' := flen _ s2 HF2.out
            have p1 : Hid (∀ W : World, Calls Try.prog 28 #[.string (mk s1)] W fun e w' => e = .returned (.tuple #[.agg #[.int .i64 (stsP s1).1.1, .bool (stsP s1).1.2], .int .i64 (stsP s1).2]) ∧ Below W.heap.size W w') := Lib.hid fun W => by
              have := sts_parse (mk s1) W (by rw [size_mk]; omega)
              rw [un_mk] at this
              exact this
            have p2 : Hid (∀ W : World, Calls Try.prog 28 #[.string (mk s2)] W fun e w' => e = .returned (.tuple #[.agg #[.int .i64 (stsP s1).1.1, .bool (stsP s1).1.2], .int .i64 (stsP s1).2]) ∧ Below W.heap.size W w') := Lib.hid fun W => by
              have := sts_parse (mk s2) W (by rw [size_mk]; omega)
              rw [un_mk, hsp] at this
              exact this
            clear hsp HF1 HF2
            generalize stsP s1 = X at *
            obtain ⟨⟨xn, xb⟩, xz⟩ := X
            go_wp2_with fail
            refine (p1.out _).mono ?_; rintro e w7 ⟨rfl, hb7⟩
            have b7 := b6.trans (hb7.mono b6.size)
            go_wp2_with fail
            have f7 := Blk2.new w7 36 (.int .i64 xn) (.bool xb)
            have b7' := b7.alloc b7.size (.cells #[.int .i64 xn, .bool xb] 36)
            generalize w7.alloc (.cells #[.int .i64 xn, .bool xb] 36) = W7 at *
            generalize w7.heap.size = g7 at *
            refine (p2.out _).mono ?_; rintro e w8 ⟨rfl, hb8⟩
            have b8 := b7'.trans (hb8.mono b7'.size)
            have f8 := f7.below hb8
            have q0 := f8.c0; have q1 := f8.c1
            have hgl8 := f8.lt
            clear f7 hb7 hb8 b7 b7' b6
            go_wp2_with fail
            refine (AW.out _).mono ?_; rintro e wz ⟨rfl, hbz⟩
            go_wp2_with fail
            go_ret
            exact ⟨rfl, (b8.alloc b8.size _).trans (hbz.mono (b8.alloc b8.size _).size)⟩
  · have hlc : ((l.length : Int) < 2) ∨ (¬ ((l.length : Int) < 2) ∧ (40 : Int) < (l.length : Int)) := by omega
    clear hlen
    rcases hlc with h | ⟨h, h'⟩
    all_goals
      go_enter Try.func8, Try.ntmps8
      go_wp2_with fail
      refine (AW.out _).mono ?_; rintro e wz ⟨rfl, hbz⟩
      go_wp2_with fail
      go_ret
      exact ⟨rfl, hbz⟩
end Go.Proofs.Ytjdkmidajhbefaa
