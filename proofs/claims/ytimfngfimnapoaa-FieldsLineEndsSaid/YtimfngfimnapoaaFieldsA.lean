/- The walks of First and All of the layer fields. Conditions: lengths are bounded. -/
import Derived.Test.YtimfngfimnapoaaFieldsN
namespace Go.Proofs.Ytimfngfimnapoaa
open Go.RowKit Go.Shelf Hs
set_option linter.unusedSimpArgs false
set_option linter.unusedVariables false

attribute [local go_sem] Oper.semAt_some

/-- What holds between two rounds of All. z: the list's box; z + 3: the block for deferred calls; z + 4: the loop's record. -/
def AInv (w : World) (z : Nat) (pre : List Bs) (G : Nat → Prop) (W : World) : Prop :=
  ∃ v, Boxed W z 32 v ∧ W.ownsRow z 9 1 v pre.length (scells pre) ∧ W.heap[z + 3]? = some (.deferred (some [])) ∧ Below z w W ∧
    (∀ k, (G k ∨ k = z + 4) → k < W.heap.size ∧ z + 1 ≤ k ∧ k ≠ z + 3 ∧ v.ownBlock ≠ some k)
theorem AInv.turn {w : World} {z : Nat} {pre : List Bs} {G : Nat → Prop} {A B : World} {row : Option Nat} (h : AInv w z pre G A) (hz : z ≤ w.heap.size) (hg : A.grownBy B row) (hr : ∀ r, row = some r → G r ∨ r = z + 4) : AInv w z pre G B := by
  obtain ⟨v, b0, ho, hd, hb, hk⟩ := h
  have ne : ∀ j, j < z + 1 ∨ j = z + 3 → some j ≠ row := fun j hj e => by
    have := hk j (hr j e.symm); omega
  exact ⟨v, b0.kept hg (ne _ (by omega)), ho.kept hg (own_ne_of fun k e => (hk k (hr k e)).2.2.2),
    (hg.block _ (Array.getElem?_eq_some_iff.1 hd).1 (ne _ (.inr rfl))).trans hd, hb.grown hg (Nat.le_trans hz hb.size) (fun k e => by have := (hk k (hr k e)); omega),
    fun k h => ⟨by have := (hk k h).1; have := hg.size; omega, (hk k h).2⟩⟩
theorem AInv.lay {w : World} {z : Nat} {pre : List Bs} {G : Nat → Prop} {A B : World} (h : AInv w z pre G A) (hz : z ≤ w.heap.size) (hg : A.grownBy B none) : AInv w z pre (fun k => G k ∨ (A.heap.size ≤ k ∧ k < B.heap.size)) B := by
  obtain ⟨v, b0, ho, hd, hb, hk⟩ := h.turn hz hg (fun r e => by cases e)
  obtain ⟨v', a0, ao, ad, _, ak⟩ := h
  have hdl := (Array.getElem?_eq_some_iff.1 ad).1
  have hv : v' = v := Option.some.inj ((a0.kept hg (by simp)).cell.symm.trans b0.cell)
  subst hv
  refine ⟨v', b0, ho, hd, hb, fun k h => ?_⟩
  rcases h with (h | ⟨h3, h4⟩) | h
  · exact hk k (.inl h)
  · exact ⟨h4, by omega, by omega, fun e => by have := (ao.lt k e).2; omega⟩
  · exact hk k (.inr h)
theorem AInv.size {w : World} {z : Nat} {pre : List Bs} {G : Nat → Prop} {A : World} (h : AInv w z pre G A) : z < A.heap.size := by
  obtain ⟨_, b0, _⟩ := h; exact b0.lt
theorem AInv.appended {w : World} {z : Nat} {pre : List Bs} {x : Bs} {G : Nat → Prop} {A A1 : World} {v : Value} {o : Obj} {g cap : Nat} (h : AInv w z pre G A) (hz : z ≤ w.heap.size) (b0 : Boxed A z 32 v)
    (hown : A1.ownsRow z 9 1 (.slice (some ⟨g, 0, none⟩) (pre.length + 1) cap) (pre.length + 1) (scells pre ++ [.string (mk x)])) (hg : (A.alloc o).grownBy A1 v.ownBlock) (hat : v.ownBlock = some g ∨ g = (A.alloc o).heap.size) :
    (A1.setCell ⟨z, 0, none⟩ (.slice (some ⟨g, 0, none⟩) (pre.length + 1) cap)).heap[z + 4]? = A.heap[z + 4]? ∧
      Keeps (fun k => G k ∨ k < z) A (A1.setCell ⟨z, 0, none⟩ (.slice (some ⟨g, 0, none⟩) (pre.length + 1) cap)) ∧ AInv w z (pre ++ [x]) G (A1.setCell ⟨z, 0, none⟩ (.slice (some ⟨g, 0, none⟩) (pre.length + 1) cap)) := by
  obtain ⟨v', b0', ho', hd, hb, hk⟩ := h
  have hv : v' = v := Option.some.inj (b0'.cell.symm.trans b0.cell)
  subst hv
  have hsz := hg.size
  rw [World.size_alloc] at hsz
  have hgA : A.grownBy A1 v'.ownBlock := ⟨hg.os, hg.tape, hg.output, by omega, fun k hk hne => (hg.block k (by simp; omega) hne).trans (Below.heap_alloc A o k hk)⟩
  have a0 := b0.kept hgA (b0.not_row (by decide) ho')
  have hne4 := own_ne_def hd ho'
  have a4 := (hgA.block _ (Array.getElem?_eq_some_iff.1 hd).1 (fun e => hne4 e.symm)).trans hd
  have hL := (hk _ (.inr rfl))
  have a5 := hgA.block _ hL.1 (fun e => hL.2.2.2 e.symm)
  have hlow : ∀ k, (G k ∨ k < z) → v'.ownBlock ≠ some k ∧ k ≠ z := fun k h => by
    rcases h with h | h
    · exact ⟨(hk k (.inl h)).2.2.2, by have := (hk k (.inl h)).2.1; omega⟩
    · exact ⟨fun e => by have := (ho'.lt k e).1; omega, by omega⟩
  refine ⟨(Below.heap_setCell _ _ _ _ (by simp)).trans a5, (Keeps.of_grown hgA (fun r e hr => (hlow r hr).1 e)).trans (.setCell _ _ _ (fun h => (hlow _ h).2 rfl) _), ?_⟩
  refine ⟨.slice (some ⟨g, 0, none⟩) (pre.length + 1) cap, a0.set _, ?_, (Below.heap_setCell _ _ _ _ (by simp)).trans a4, ?_, ?_⟩
  · have := hown.kept (grown_setCell A1 z 0 (.slice (some ⟨g, 0, none⟩) (pre.length + 1) cap)) (own_ne_of fun k e => by cases e; exact fun e => (a0.not_row (by decide) hown) e.symm)
    rw [List.length_append, scells_append]
    exact this
  · exact (hb.grown hgA (Nat.le_trans hz hb.size) (fun k e => (ho'.lt k e).1)).setCell (by simp) _
  · intro k h
    obtain ⟨k1, k2, k3, k4⟩ := hk k h
    refine ⟨by simp; omega, k2, k3, fun e => ?_⟩
    have e' : g = k := by simpa [Value.ownBlock] using e
    rcases hat with hat | hat
    · exact k4 (by rw [hat, e'])
    · rw [World.size_alloc] at hat; omega

set_option maxRecDepth 100000 in
set_option maxHeartbeats 2000000 in
theorem f_all (v : Value) (l : List Fld) (s : ByteArray) (w : World) (hv : Flds w v l) (hs : s.size ≤ 100000) (hl : l.length ≤ 1000) (hls : ∀ x ∈ l, x.1.length ≤ 100000) :
    Calls Try.prog 18 #[v, .string s] w fun e w' => ∃ u, e = .returned u ∧ w'.ownsRow w.heap.size 9 1 u (namedF l (un s)).length (scells (namedF l (un s))) ∧ Below w.heap.size w w' := by
  obtain ⟨iS0, iS⟩ := info_parts infoStr
  obtain ⟨a, cap, rfl, hn, hm, hc⟩ := hv.open
  have hnl : (namedF l (un s)).length ≤ 1000 := by
    unfold namedF
    rw [List.length_map]
    have := List.length_filter_le (fun f => lower f.1 == lower (un s)) l
    omega
  have HNL := Lib.hid hnl
  obtain ⟨NL, hNL⟩ : ∃ NL, NL = namedF l (un s) := ⟨_, rfl⟩
  have HNLE := Lib.hid hNL
  rw [← hNL]
  clear hnl hNL
  have HC := Lib.hid hc
  have HLS := Lib.hid hls
  clear hc hls hv
  refine (callsIn_wide (n := 5)).1 ?_
  refine callsIn_of_wp_marks Try.func18 rfl trivial ?_ rfl
  simp only [Try.ntmps18, List.size_toArray, List.length_cons, List.length_nil, Nat.reduceAdd, Nat.reduceSub, Array.replicate_succ, Array.replicate_zero, List.push_toArray, List.append_toArray, List.nil_append, List.cons_append]
  gi_wp2
  refine ⟨trivial, ?_⟩
  refine (callsIn_wide.2 (f_named a l.length cap s _)).mono ?_
  rintro e w1 ⟨rfl, rfl⟩
  gi_wp2
  obtain ⟨W4, hW4⟩ : ∃ W4, W4 = ((w.alloc (.cells #[.slice none 0 0] 32)).alloc (.cells #[.slice a l.length cap] 25)).alloc (.cells #[.string s] 9) := ⟨_, rfl⟩
  have hS4 : W4.heap.size = w.heap.size + 3 := by rw [hW4]; simp
  have hB4 : Below w.heap.size w W4 := by rw [hW4]; exact (((Below.refl _ w).alloc (Nat.le_refl _) _).alloc (by simp) _).alloc (by simp; omega) _
  have c0 : Boxed W4 w.heap.size 32 (.slice none 0 0) := by rw [hW4]; exact ((Boxed.new w _ _).alloc _).alloc _
  have c1 : Boxed W4 (w.heap.size + 1) 25 (.slice a l.length cap) := by
    have := (Boxed.new (w.alloc (.cells #[.slice none 0 0] 32)) 25 (.slice a l.length cap)).alloc (.cells #[.string s] 9)
    rw [World.size_alloc] at this
    rw [hW4]; exact this
  have c2 : Boxed W4 (w.heap.size + 2) 9 (.string s) := by
    have := Boxed.new ((w.alloc (.cells #[.slice none 0 0] 32)).alloc (.cells #[.slice a l.length cap] 25)) 9 (.string s)
    simp only [World.size_alloc] at this
    rw [hW4]; exact this
  have hvv : ∃ a' cap', Value.slice a l.length cap = .slice a' l.length cap' ∧ (0 < l.length → ∃ b off, a' = some ⟨b, off, none⟩ ∧ b < w.heap.size ∧ ∀ j (hj : j < l.length), W4.cell? ⟨b, off + j * 2, none⟩ = some (.string (mk l[j].1)) ∧ W4.cell? ⟨b, off + j * 2 + 1, none⟩ = some (.string (mk l[j].2))) :=
    ⟨a, cap, rfl, fun h => by
      obtain ⟨b, off, e, hb, hcell⟩ := HC.out h
      exact ⟨b, off, e, hb, fun j hj => ⟨(hB4.cell (p := ⟨b, off + j * 2, none⟩) hb).trans (hcell j hj).1, (hB4.cell (p := ⟨b, off + j * 2 + 1, none⟩) hb).trans (hcell j hj).2⟩⟩⟩
  have HVV := Lib.hid hvv
  rw [← hW4]
  clear hW4 hvv
  obtain ⟨z, hz⟩ : ∃ z, z = w.heap.size := ⟨_, rfl⟩
  simp only [← hz] at hS4 hB4 c0 c1 c2 HVV ⊢
  have hzz := Nat.le_of_eq hz
  have HZ := Lib.hid hz
  clear hz
  rw [show z + 1 + 1 = z + 2 from rfl]
  have hent := fun (a : Act) ps asg bd => enter_outer (F := Fence.wide) (P := Try.prog) rfl W4 a ps asg bd
  rw [hS4] at hent
  refine range_law (w₁ := W4.alloc (.deferred (some []))) (L := z + 4) (by omega) (by simp; omega) (hent _ _ _ _) (gf := 46) (lb := #[.pointer (some ⟨z + 1, 0, none⟩), .pointer (some ⟨z + 2, 0, none⟩)]) rfl trivial (enters_of Try.func46 (by kernel_rfl) rfl)
    (named_seq 4 (z + 1) (z + 2) z s _ l W4 (by omega) c1 c2 hs hl HLS.out HVV.out (by omega)) ((Below.refl _ W4).alloc (Nat.le_refl _) _) (fun _ => rfl) (by omega) (by omega)
    (AInv w z) (fun _ _ _ _ => False) (fun _ _ _ _ _ h hg hr => h.turn hzz hg hr) (fun _ _ _ _ h hg => h.lay hzz hg) (fun _ _ _ _ _ _ h _ _ => h) (fun _ _ _ _ _ h _ => h) ?start
    (fun x a' W => a' = { tmps := #[.slice a l.length cap, .string s, undef, undef, .slice none 0 0, .pointer (some ⟨z, 0, none⟩), .string (mk x), .slice a l.length cap, .string s, .func (.func 46) #[] #[.pointer (some ⟨z + 1, 0, none⟩), .pointer (some ⟨z + 2, 0, none⟩)], .string (mk x), undef, undef, undef, undef, undef], defers := [] }) (fun _ _ _ _ _ h _ _ => h) ?assign ?body ?done ?stop
  case start =>
    intro o
    refine ⟨.slice none 0 0, (c0.alloc _).alloc _, World.ownsRow_nil _ _ _ _, ?_, (hB4.alloc (by omega) _).alloc (by simp; omega) _, ?_⟩
    · have h1 := World.alloc_heap_new W4 (.deferred (some []))
      rw [hS4] at h1
      exact (Below.heap_alloc _ o _ (by simp; omega)).trans h1
    · rintro k ((rfl | rfl) | rfl) <;> simp [Value.ownBlock] <;> omega
  case assign =>
    intro pre x G W K hI hsp hK
    gi_wp2
    exact hK _ _ rfl (Keeps.refl _ _) hI rfl
  case body =>
    rintro pre x G a' W ⟨r0, hr0⟩ hI rfl ⟨post, hpost⟩
    have hpl : pre.length ≤ 1000 := by
      have := HNL.out
      rw [← hpost] at this
      simp at this; omega
    clear hpost
    obtain ⟨v, b0, ho, hd, hb, hk⟩ := id hI
    obtain ⟨ao, co, rfl⟩ := own_slice ho
    have e0 := b0.cell
    have hbs := hb.size
    have f0 := b0.frozen
    gi_wp2_with (gi_at_builtin; refine wpListIn_append_at _ rfl (.tmp 11) (.tmp 13) 32 rfl z 9 iS0 (.string ByteArray.empty) 1 16 Try.underlying32 iS.1 iS.2.1 iS.2.2.1 iS.2.2.2 rfl (by decide) _ _ _ rfl (ho.alloc _) ⟨W.heap.size, 0, none⟩ 1 1 [.string (mk x)] rfl rfl (cell_one_new _ _ _) (by intro u hu; simp at hu; subst hu; rfl) (by unfold maxLen; omega) (by omega) (by simp; omega) (by omega) ?_; intro g cap5 w5 hown5 hgrow5 hat5; have hsz5 := hgrow5.size; rw [World.size_alloc] at hsz5; have hgA : W.grownBy w5 (Value.slice ao pre.length co).ownBlock := ⟨hgrow5.os, hgrow5.tape, hgrow5.output, by omega, fun k hk hne => (hgrow5.block k (by simp; omega) hne).trans (Below.heap_alloc W _ k hk)⟩; have b5 := b0.kept hgA (b0.not_row (by decide) ho); have e5 := b5.cell; have f5 := b5.frozen; have hI5 := hI.appended hzz b0 hown5 hgrow5 hat5)
    exact hI5
  case done =>
    rintro xs G W rfl ⟨v, b0, ho, hd, hb, hk⟩
    have e0 := b0.cell
    obtain ⟨ao, co, rfl⟩ := own_slice ho
    gi_wp2
    have hrow := ho.kept (grownBy_putObj' _ (z + 3) (.deferred none)) (own_ne_of fun k e => by cases e; exact own_ne_def hd ho)
    have hbl := hb.grown (grownBy_putObj' _ (z + 3) (.deferred none)) (by have := hb.size; omega) (fun k e => by cases e; omega)
    refine ⟨by simp, .inl ⟨_, _, rfl, run_takeDeferred hd, ?_⟩⟩
    exact ⟨_, results_tmp rfl _ _ _, _, rfl, by rw [HNLE.out, ← HZ.out]; exact hrow, by rw [← HZ.out]; exact hbl⟩
  case stop =>
    rintro c pre G W _ h
    exact h.elim

/-- What holds before the first round of First (z, z + 1: the results; z + 4: the block for deferred calls; z + 5: the record). -/
def BInv (w : World) (z : Nat) (pre : List Bs) (G : Nat → Prop) (W : World) : Prop :=
  pre = [] ∧ Boxed W z 9 (.string ⟨#[]⟩) ∧ Boxed W (z + 1) 4 (.bool false) ∧ W.heap[z + 4]? = some (.deferred (some [])) ∧ Below z w W ∧
    (∀ k, (G k ∨ k = z + 5) → k < W.heap.size ∧ z + 2 ≤ k ∧ k ≠ z + 4)
/-- What holds when the first round has returned. -/
def BOut (w : World) (z : Nat) (c : Code) (pre : List Bs) (G : Nat → Prop) (W : World) : Prop :=
  c = .ret ∧ ∃ x, pre = [x] ∧ Boxed W z 9 (.string (mk x)) ∧ Boxed W (z + 1) 4 (.bool true) ∧ W.heap[z + 4]? = some (.deferred (some [])) ∧ Below z w W ∧
    (∀ k, (G k ∨ k = z + 5) → k < W.heap.size ∧ z + 2 ≤ k ∧ k ≠ z + 4)
theorem bturn {w : World} {z : Nat} {a b : Value} {G : Nat → Prop} {A B : World} {row : Option Nat} (h : Boxed A z 9 a ∧ Boxed A (z + 1) 4 b ∧ A.heap[z + 4]? = some (.deferred (some [])) ∧ Below z w A ∧
    (∀ k, (G k ∨ k = z + 5) → k < A.heap.size ∧ z + 2 ≤ k ∧ k ≠ z + 4)) (hz : z ≤ w.heap.size) (hg : A.grownBy B row) (hr : ∀ r, row = some r → G r ∨ r = z + 5) :
    Boxed B z 9 a ∧ Boxed B (z + 1) 4 b ∧ B.heap[z + 4]? = some (.deferred (some [])) ∧ Below z w B ∧ (∀ k, (G k ∨ k = z + 5) → k < B.heap.size ∧ z + 2 ≤ k ∧ k ≠ z + 4) := by
  obtain ⟨b0, b1, hd, hb, hk⟩ := h
  have ne : ∀ j, j < z + 2 ∨ j = z + 4 → some j ≠ row := fun j hj e => by
    have := hk j (hr j e.symm); omega
  exact ⟨b0.kept hg (ne _ (by omega)), b1.kept hg (ne _ (by omega)), (hg.block _ (Array.getElem?_eq_some_iff.1 hd).1 (ne _ (.inr rfl))).trans hd, hb.grown hg (Nat.le_trans hz hb.size) (fun k e => by have := (hk k (hr k e)); omega),
    fun k h => ⟨by have := (hk k h).1; have := hg.size; omega, (hk k h).2⟩⟩
theorem blay {w : World} {z : Nat} {a b : Value} {G : Nat → Prop} {A B : World} (h : Boxed A z 9 a ∧ Boxed A (z + 1) 4 b ∧ A.heap[z + 4]? = some (.deferred (some [])) ∧ Below z w A ∧
    (∀ k, (G k ∨ k = z + 5) → k < A.heap.size ∧ z + 2 ≤ k ∧ k ≠ z + 4)) (hz : z ≤ w.heap.size) (hg : A.grownBy B none) :
    Boxed B z 9 a ∧ Boxed B (z + 1) 4 b ∧ B.heap[z + 4]? = some (.deferred (some [])) ∧ Below z w B ∧ (∀ k, ((G k ∨ (A.heap.size ≤ k ∧ k < B.heap.size)) ∨ k = z + 5) → k < B.heap.size ∧ z + 2 ≤ k ∧ k ≠ z + 4) := by
  have hdl := (Array.getElem?_eq_some_iff.1 h.2.2.1).1
  obtain ⟨b0, b1, hd, hb, hk⟩ := bturn h hz hg (fun r e => by cases e)
  refine ⟨b0, b1, hd, hb, fun k h => ?_⟩
  rcases h with (h | ⟨h3, h4⟩) | h
  · exact hk k (.inl h)
  · exact ⟨h4, by omega, by omega⟩
  · exact hk k (.inr h)
theorem BInv.turn {w : World} {z : Nat} {pre : List Bs} {G : Nat → Prop} {A B : World} {row : Option Nat} (h : BInv w z pre G A) (hz : z ≤ w.heap.size) (hg : A.grownBy B row) (hr : ∀ r, row = some r → G r ∨ r = z + 5) : BInv w z pre G B := ⟨h.1, bturn h.2 hz hg hr⟩
theorem BInv.lay {w : World} {z : Nat} {pre : List Bs} {G : Nat → Prop} {A B : World} (h : BInv w z pre G A) (hz : z ≤ w.heap.size) (hg : A.grownBy B none) : BInv w z pre (fun k => G k ∨ (A.heap.size ≤ k ∧ k < B.heap.size)) B := ⟨h.1, blay h.2 hz hg⟩
theorem BOut.turn {w : World} {z : Nat} {c : Code} {pre : List Bs} {G : Nat → Prop} {A B : World} {row : Option Nat} (h : BOut w z c pre G A) (hz : z ≤ w.heap.size) (hg : A.grownBy B row) (hr : ∀ r, row = some r → G r ∨ r = z + 5) : BOut w z c pre G B := by
  obtain ⟨h1, x, h2, h3⟩ := h
  exact ⟨h1, x, h2, bturn h3 hz hg hr⟩
theorem BOut.lay {w : World} {z : Nat} {c : Code} {pre : List Bs} {G : Nat → Prop} {A B : World} (h : BOut w z c pre G A) (hz : z ≤ w.heap.size) (hg : A.grownBy B none) : BOut w z c pre (fun k => G k ∨ (A.heap.size ≤ k ∧ k < B.heap.size)) B := by
  obtain ⟨h1, x, h2, h3⟩ := h
  exact ⟨h1, x, h2, blay h3 hz hg⟩

set_option maxRecDepth 100000 in
set_option maxHeartbeats 2000000 in
theorem f_first (v : Value) (l : List Fld) (s : ByteArray) (w : World) (hv : Flds w v l) (hs : s.size ≤ 100000) (hl : l.length ≤ 1000) (hls : ∀ x ∈ l, x.1.length ≤ 100000) :
    Calls Try.prog 15 #[v, .string s] w fun e w' => e = .returned (.tuple #[.string (mk (firstF l (un s)).1), .bool (firstF l (un s)).2]) ∧ Below w.heap.size w w' := by
  obtain ⟨a, cap, rfl, hn, hm, hc⟩ := hv.open
  have HC := Lib.hid hc
  have HLS := Lib.hid hls
  clear hc hls hv
  obtain ⟨R, hR⟩ : ∃ R, R = firstF l (un s) := ⟨_, rfl⟩
  rw [← hR]
  have HR := Lib.hid hR
  clear hR
  refine (callsIn_wide (n := 5)).1 ?_
  refine callsIn_of_wp_marks Try.func15 rfl trivial ?_ rfl
  simp only [Try.ntmps15, List.size_toArray, List.length_cons, List.length_nil, Nat.reduceAdd, Nat.reduceSub, Array.replicate_succ, Array.replicate_zero, List.push_toArray, List.append_toArray, List.nil_append, List.cons_append]
  gi_wp2
  refine ⟨trivial, ?_⟩
  refine (callsIn_wide.2 (f_named a l.length cap s _)).mono ?_
  rintro e w1 ⟨rfl, rfl⟩
  gi_wp2
  obtain ⟨W4, hW4⟩ : ∃ W4, W4 = (((w.alloc (.cells #[.string ⟨#[]⟩] 9)).alloc (.cells #[.bool false] 4)).alloc (.cells #[.slice a l.length cap] 25)).alloc (.cells #[.string s] 9) := ⟨_, rfl⟩
  have hS4 : W4.heap.size = w.heap.size + 4 := by rw [hW4]; simp
  have hB4 : Below w.heap.size w W4 := by rw [hW4]; exact ((((Below.refl _ w).alloc (Nat.le_refl _) _).alloc (by simp) _).alloc (by simp; omega) _).alloc (by simp; omega) _
  have c0 : Boxed W4 w.heap.size 9 (.string ⟨#[]⟩) := by rw [hW4]; exact (((Boxed.new w _ _).alloc _).alloc _).alloc _
  have c1 : Boxed W4 (w.heap.size + 1) 4 (.bool false) := by
    have := ((Boxed.new (w.alloc (.cells #[.string ⟨#[]⟩] 9)) 4 (.bool false)).alloc (.cells #[.slice a l.length cap] 25)).alloc (.cells #[.string s] 9)
    rw [World.size_alloc] at this
    rw [hW4]; exact this
  have c2 : Boxed W4 (w.heap.size + 2) 25 (.slice a l.length cap) := by
    have := (Boxed.new ((w.alloc (.cells #[.string ⟨#[]⟩] 9)).alloc (.cells #[.bool false] 4)) 25 (.slice a l.length cap)).alloc (.cells #[.string s] 9)
    simp only [World.size_alloc] at this
    rw [hW4]; exact this
  have c3 : Boxed W4 (w.heap.size + 3) 9 (.string s) := by
    have := Boxed.new (((w.alloc (.cells #[.string ⟨#[]⟩] 9)).alloc (.cells #[.bool false] 4)).alloc (.cells #[.slice a l.length cap] 25)) 9 (.string s)
    simp only [World.size_alloc] at this
    rw [hW4]; exact this
  have hvv : ∃ a' cap', Value.slice a l.length cap = .slice a' l.length cap' ∧ (0 < l.length → ∃ b off, a' = some ⟨b, off, none⟩ ∧ b < w.heap.size ∧ ∀ j (hj : j < l.length), W4.cell? ⟨b, off + j * 2, none⟩ = some (.string (mk l[j].1)) ∧ W4.cell? ⟨b, off + j * 2 + 1, none⟩ = some (.string (mk l[j].2))) :=
    ⟨a, cap, rfl, fun h => by
      obtain ⟨b, off, e, hb, hcell⟩ := HC.out h
      exact ⟨b, off, e, hb, fun j hj => ⟨(hB4.cell (p := ⟨b, off + j * 2, none⟩) hb).trans (hcell j hj).1, (hB4.cell (p := ⟨b, off + j * 2 + 1, none⟩) hb).trans (hcell j hj).2⟩⟩⟩
  have HVV := Lib.hid hvv
  rw [← hW4]
  clear hW4 hvv
  obtain ⟨z, hz⟩ : ∃ z, z = w.heap.size := ⟨_, rfl⟩
  simp only [← hz] at hS4 hB4 c0 c1 c2 c3 HVV ⊢
  have hzz := Nat.le_of_eq hz
  have HZ := Lib.hid hz
  clear hz
  rw [show z + 1 + 1 + 1 = z + 3 from rfl, show z + 1 + 1 = z + 2 from rfl]
  have hent := fun (a : Act) ps asg bd => enter_outer (F := Fence.wide) (P := Try.prog) rfl W4 a ps asg bd
  rw [hS4] at hent
  refine range_law (w₁ := W4.alloc (.deferred (some []))) (L := z + 5) (by omega) (by simp; omega) (hent _ _ _ _) (gf := 46) (lb := #[.pointer (some ⟨z + 2, 0, none⟩), .pointer (some ⟨z + 3, 0, none⟩)]) rfl trivial (enters_of Try.func46 (by kernel_rfl) rfl)
    (named_seq 4 (z + 2) (z + 3) z s _ l W4 (by omega) c2 c3 hs hl HLS.out HVV.out (by omega)) ((Below.refl _ W4).alloc (Nat.le_refl _) _) (fun _ => rfl) (by omega) (by omega)
    (BInv w z) (BOut w z) (fun _ _ _ _ _ h hg hr => h.turn hzz hg hr) (fun _ _ _ _ h hg => h.lay hzz hg) (fun _ _ _ _ _ _ h hg hr => h.turn hzz hg hr) (fun _ _ _ _ _ h hg => h.lay hzz hg) ?start
    (fun x a' W => a' = { tmps := #[.slice a l.length cap, .string s, undef, undef, .pointer (some ⟨z, 0, none⟩), .pointer (some ⟨z + 1, 0, none⟩), .string (mk x), .slice a l.length cap, .string s, .func (.func 46) #[] #[.pointer (some ⟨z + 2, 0, none⟩), .pointer (some ⟨z + 3, 0, none⟩)], .string (mk x), undef], defers := [] }) (fun _ _ _ _ _ h _ _ => h) ?assign ?body ?done ?stop
  case start =>
    intro o
    refine ⟨rfl, (c0.alloc _).alloc _, (c1.alloc _).alloc _, ?_, (hB4.alloc (by omega) _).alloc (by simp; omega) _, ?_⟩
    · have h1 := World.alloc_heap_new W4 (.deferred (some []))
      rw [hS4] at h1
      exact (Below.heap_alloc _ o _ (by simp; omega)).trans h1
    · rintro k ((rfl | rfl) | rfl) <;> simp <;> omega
  case assign =>
    intro pre x G W K hI hsp hK
    gi_wp2
    exact hK _ _ rfl (Keeps.refl _ _) hI rfl
  case body =>
    rintro pre x G a' W ⟨r0, hr0⟩ ⟨rfl, b0, b1, hd, hb, hk⟩ rfl ⟨post, hpost⟩
    clear hpost
    have e0 := b0.cell; have f0 := b0.frozen; have e1 := b1.cell; have f1 := b1.frozen
    gi_wp2
    have hh : ∀ j, z + 1 < j → ((W.setCell ⟨z, 0, none⟩ (.string (mk x))).setCell ⟨z + 1, 0, none⟩ (.bool true)).heap[j]? = W.heap[j]? := fun j hj =>
      (Below.heap_setCell _ _ _ _ (by simp; omega)).trans (Below.heap_setCell _ _ _ _ (by simp; omega))
    exact (show _ ∧ _ from ⟨hh _ (by omega), rfl, x, rfl, (b0.set _).other (by omega) _, (b1.other (by omega) _).set _, (hh _ (by omega)).trans hd, (hb.setCell (by simp) _).setCell (by simp) _,
      fun k h => ⟨by have := (hk k h).1; simp; omega, (hk k h).2.1, (hk k h).2.2⟩⟩)
  case done =>
    rintro xs G W rfl ⟨hxs, b0, b1, hd, hb, hk⟩
    have hfin : Hid (R = ([], false)) := by rw [HR.out]; unfold firstF; rw [hxs]; rfl
    have e0 := b0.cell; have f0 := b0.frozen; have e1 := b1.cell; have f1 := b1.frozen
    clear hxs
    gi_wp2
    have hd' : ((W.setCell ⟨z, 0, none⟩ (.string ⟨#[]⟩)).setCell ⟨z + 1, 0, none⟩ (.bool false)).heap[z + 4]? = some (.deferred (some [])) :=
      ((Below.heap_setCell _ _ _ _ (by simp)).trans (Below.heap_setCell _ _ _ _ (by simp))).trans hd
    have d0 := ((b0.set (.string ⟨#[]⟩)).other (B' := z + 1) (by omega) (.bool false)).kept (grownBy_putObj' _ (z + 4) (.deferred none)) (by simp)
    have d1 := ((b1.other (B' := z) (by omega) (.string ⟨#[]⟩)).set (.bool false)).kept (grownBy_putObj' _ (z + 4) (.deferred none)) (by simp)
    have hbl := ((hb.setCell (p := ⟨z, 0, none⟩) (by simp) (.string ⟨#[]⟩)).setCell (p := ⟨z + 1, 0, none⟩) (by simp) (.bool false)).grown (grownBy_putObj' _ (z + 4) (.deferred none)) (by have := hb.size; simp; omega) (fun k e => by cases e; omega)
    refine ⟨by simp, .inl ⟨_, _, rfl, run_takeDeferred hd', ?_⟩⟩
    refine ⟨.tuple #[.string ⟨#[]⟩, .bool false], ?_, ?_, ?_⟩
    · have e0 := d0.cell; have e1 := d1.cell
      simp [results, Try.f15, go_sem, e0, e1]
    · rw [hfin.out]; rfl
    · rw [← HZ.out]; exact hbl
  case stop =>
    rintro c pre G W ⟨post, hpost⟩ ⟨rfl, x, rfl, b0, b1, hd, hb, hk⟩
    have hfin : Hid (R = (x, true)) := by rw [HR.out]; unfold firstF; rw [← hpost]; rfl
    clear hpost
    have e0 := b0.cell; have f0 := b0.frozen; have e1 := b1.cell; have f1 := b1.frozen
    gi_wp2
    have d0 := b0.kept (grownBy_putObj' _ (z + 4) (.deferred none)) (by simp)
    have d1 := b1.kept (grownBy_putObj' _ (z + 4) (.deferred none)) (by simp)
    have hbl := hb.grown (grownBy_putObj' _ (z + 4) (.deferred none)) (by have := hb.size; omega) (fun k e => by cases e; omega)
    refine ⟨by simp, .inl ⟨_, _, rfl, run_takeDeferred hd, ?_⟩⟩
    refine ⟨.tuple #[.string (mk x), .bool true], ?_, ?_, ?_⟩
    · have e0 := d0.cell; have e1 := d1.cell
      simp [results, Try.f15, go_sem, e0, e1]
    · rw [hfin.out]
    · rw [← HZ.out]; exact hbl
end Go.Proofs.Ytimfngfimnapoaa
