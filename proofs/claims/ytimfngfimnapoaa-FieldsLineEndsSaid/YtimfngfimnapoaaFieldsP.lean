/- The walk of Parse of the layer fields (program). Conditions: internal/bytealg.MaxLen holds some number. -/
import Derived.Test.YtimfngfimnapoaaFieldsL
import Derived.Test.YtimfngfimnapoaaFieldsK
import Derived.Test.YtimfngfimnapoaaFieldsV
import Derived.Test.YtimfngfimnapoaaRegion
import Derived.RangeFuncBox
import Derived.Maps.AppendAt
namespace Go.Proofs.Ytimfngfimnapoaa
open Go.RowKit Go.Shelf Hs
set_option linter.unusedSimpArgs false
set_option linter.unusedVariables false

attribute [local go_sem] Oper.semAt_some

/-- What holds between two rounds. z: where the call's blocks begin; the results' boxes, the list's box, the block for deferred calls; D: the fields; G: the iterator's blocks. -/
def FInv (w : World) (z : Nat) (LL : List (Bs × Bool)) (pre : List (Bs × Bool)) (G : Nat → Prop) (W : World) : Prop :=
  ∃ (D : List Fld) (v : Value), Hid (∀ rest, runF (pre ++ rest) [] = runF rest D) ∧ D.length ≤ 100 ∧
    Boxed W z 25 (.slice none 0 0) ∧ Boxed W (z + 1) 26 (.int .i64 0) ∧ Boxed W (z + 2) 25 v ∧
    W.ownsRow z 44 2 v D.length (fcells D) ∧ W.heap[z + 4]? = some (.deferred (some [])) ∧ Below z w W ∧
    (∀ k, (G k ∨ k = z + 5) → k < W.heap.size ∧ z + 3 ≤ k ∧ k ≠ z + 4 ∧ v.ownBlock ≠ some k)
/-- What holds when a round has left by return. -/
def FOut (w : World) (z : Nat) (c : Code) (pre : List (Bs × Bool)) (G : Nat → Prop) (W : World) : Prop :=
  c = .ret ∧ ∃ (e : Int), Hid (∀ rest, runF (pre ++ rest) [] = ([], e)) ∧
    Boxed W z 25 (.slice none 0 0) ∧ Boxed W (z + 1) 26 (.int .i64 e) ∧ W.heap[z + 4]? = some (.deferred (some [])) ∧ Below z w W ∧
    (∀ k, (G k ∨ k = z + 5) → k < W.heap.size ∧ z + 3 ≤ k ∧ k ≠ z + 4)

theorem own_slice {w : World} {base : Nat} {e : TypeId} {size n : Nat} {v : Value} {xs : List Value} (h : w.ownsRow base e size v n xs) : ∃ a cap, v = .slice a n cap := by
  rcases h.2 with ⟨rfl, rfl⟩ | ⟨g, cap, cur, rfl, _⟩
  · exact ⟨none, 0, rfl⟩
  · exact ⟨_, cap, rfl⟩
theorem own_ne_def {w : World} {base : Nat} {e : TypeId} {size n : Nat} {v : Value} {xs : List Value} {k : Nat} {ds : Option (List Deferred)} (hd : w.heap[k]? = some (.deferred ds)) (h : w.ownsRow base e size v n xs) : v.ownBlock ≠ some k := by
  rcases h.2 with ⟨rfl, rfl⟩ | ⟨g, cap, cur, rfl, _, hg, _⟩
  · simp [Value.ownBlock]
  · intro e
    have e2 : g = k := by simpa [Value.ownBlock] using e
    subst e2
    rw [hd] at hg; cases hg
theorem own_ne_of {v : Value} {r : Option Nat} (h : ∀ k, r = some k → v.ownBlock ≠ some k) : v.ownBlock = none ∨ v.ownBlock ≠ r := by
  cases hv : v.ownBlock with
  | none => exact .inl rfl
  | some b => exact .inr (fun e => h b e.symm hv)
theorem FInv.turn {w : World} {z : Nat} {LL pre : List (Bs × Bool)} {G : Nat → Prop} {A B : World} {row : Option Nat} (h : FInv w z LL pre G A) (hz : z ≤ w.heap.size) (hg : A.grownBy B row) (hr : ∀ r, row = some r → G r ∨ r = z + 5) : FInv w z LL pre G B := by
  obtain ⟨D, v, h1, h2, b0, b1, b2, ho, hd, hb, hk⟩ := h
  have ne : ∀ j, j < z + 3 ∨ j = z + 4 → some j ≠ row := fun j hj e => by
    have := hk j (hr j e.symm); omega
  exact ⟨D, v, h1, h2, b0.kept hg (ne _ (by omega)), b1.kept hg (ne _ (by omega)), b2.kept hg (ne _ (by omega)), ho.kept hg (own_ne_of fun k e => (hk k (hr k e)).2.2.2),
    (hg.block _ (Array.getElem?_eq_some_iff.1 hd).1 (ne _ (.inr rfl))).trans hd, hb.grown hg (Nat.le_trans hz hb.size) (fun k e => by have := (hk k (hr k e)); omega),
    fun k h => ⟨by have := (hk k h).1; have := hg.size; omega, (hk k h).2⟩⟩
theorem FInv.lay {w : World} {z : Nat} {LL pre : List (Bs × Bool)} {G : Nat → Prop} {A B : World} (h : FInv w z LL pre G A) (hz : z ≤ w.heap.size) (hg : A.grownBy B none) : FInv w z LL pre (fun k => G k ∨ (A.heap.size ≤ k ∧ k < B.heap.size)) B := by
  obtain ⟨D, v, h1, h2, b0, b1, b2, ho, hd, hb, hk⟩ := h.turn hz hg (fun r e => by cases e)
  obtain ⟨D', v', _, _, a0, a1, a2, ao, ad, _, ak⟩ := h
  have hdl := (Array.getElem?_eq_some_iff.1 ad).1
  have hv : v' = v := by
    have e1 := a2.kept hg (by simp)
    have e2 := e1.cell.symm.trans b2.cell
    exact Option.some.inj e2
  subst hv
  refine ⟨D, v', h1, h2, b0, b1, b2, ho, hd, hb, fun k h => ?_⟩
  rcases h with (h | ⟨h3, h4⟩) | h
  · exact hk k (.inl h)
  · exact ⟨h4, by omega, by omega, fun e => by have := (ao.lt k e).2; omega⟩
  · exact hk k (.inr h)
theorem FOut.turn {w : World} {z : Nat} {c : Code} {pre : List (Bs × Bool)} {G : Nat → Prop} {A B : World} {row : Option Nat} (h : FOut w z c pre G A) (hz : z ≤ w.heap.size) (hg : A.grownBy B row) (hr : ∀ r, row = some r → G r ∨ r = z + 5) : FOut w z c pre G B := by
  obtain ⟨hc, e, h1, b0, b1, hd, hb, hk⟩ := h
  have ne : ∀ j, j < z + 3 ∨ j = z + 4 → some j ≠ row := fun j hj e => by
    have := hk j (hr j e.symm); omega
  exact ⟨hc, e, h1, b0.kept hg (ne _ (by omega)), b1.kept hg (ne _ (by omega)),
    (hg.block _ (Array.getElem?_eq_some_iff.1 hd).1 (ne _ (.inr rfl))).trans hd, hb.grown hg (Nat.le_trans hz hb.size) (fun k e => by have := (hk k (hr k e)); omega),
    fun k h => ⟨by have := (hk k h).1; have := hg.size; omega, (hk k h).2⟩⟩
theorem FOut.lay {w : World} {z : Nat} {c : Code} {pre : List (Bs × Bool)} {G : Nat → Prop} {A B : World} (h : FOut w z c pre G A) (hz : z ≤ w.heap.size) (hg : A.grownBy B none) : FOut w z c pre (fun k => G k ∨ (A.heap.size ≤ k ∧ k < B.heap.size)) B := by
  obtain ⟨hc, e, h1, b0, b1, hd, hb, hk⟩ := h.turn hz hg (fun r e => by cases e)
  obtain ⟨_, _, _, _, _, ad, _, _⟩ := h
  have hdl := (Array.getElem?_eq_some_iff.1 ad).1
  refine ⟨hc, e, h1, b0, b1, hd, hb, fun k h => ?_⟩
  rcases h with (h | ⟨h3, h4⟩) | h
  · exact hk k (.inl h)
  · exact ⟨h4, by omega, by omega⟩
  · exact hk k (.inr h)

theorem FInv.out {w : World} {z : Nat} {LL pre0 pre : List (Bs × Bool)} {G : Nat → Prop} {A : World} {e : Int} (h : FInv w z LL pre0 G A) (hz : z ≤ w.heap.size) (hr : Hid (∀ rest, runF (pre ++ rest) [] = ([], e))) :
    ((A.setCell ⟨z, 0, none⟩ (.slice none 0 0)).setCell ⟨z + 1, 0, none⟩ (.int .i64 e)).heap[z + 5]? = A.heap[z + 5]? ∧ FOut w z .ret pre G ((A.setCell ⟨z, 0, none⟩ (.slice none 0 0)).setCell ⟨z + 1, 0, none⟩ (.int .i64 e)) := by
  obtain ⟨D, v, h1, h2, b0, b1, b2, ho, hd, hb, hk⟩ := h
  have hh : ∀ j, z + 1 < j → ((A.setCell ⟨z, 0, none⟩ (.slice none 0 0)).setCell ⟨z + 1, 0, none⟩ (.int .i64 e)).heap[j]? = A.heap[j]? := fun j hj =>
    (Below.heap_setCell _ _ _ _ (by simp; omega)).trans (Below.heap_setCell _ _ _ _ (by simp; omega))
  exact ⟨hh _ (by omega), rfl, e, hr, (b0.set _).other (by omega) _, (b1.other (by omega) _).set _, (hh _ (by omega)).trans hd, (hb.setCell (by simp) _).setCell (by simp) _,
    fun k h => ⟨by have := (hk k h).1; simp; omega, (hk k h).2.1, (hk k h).2.2.1⟩⟩
theorem FInv.size {w : World} {z : Nat} {LL pre : List (Bs × Bool)} {G : Nat → Prop} {A : World} (h : FInv w z LL pre G A) : z < A.heap.size := by
  obtain ⟨_, _, _, _, b0, _⟩ := h; exact b0.lt
theorem cells2_at (w : World) (a b : Value) (T : TypeId) (n : Nat) (hn : n = w.heap.size) : ∀ j u, [a, b][j]? = some u → (w.alloc (.cells #[a, b] T)).cell? ((⟨n, 0, none⟩ : Addr).add j) = some u := by
  subst hn
  intro j u hj
  have hadd : (⟨w.heap.size, 0, none⟩ : Addr).add j = ⟨w.heap.size, j, none⟩ := by unfold Addr.add; split <;> simp_all
  rw [hadd, World.cell?_alloc_mark]
  simpa using hj
/-- Behind the append of a round and the store into the list's box. -/
theorem FInv.appended {w : World} {z : Nat} {LL pre pre' : List (Bs × Bool)} {G : Nat → Prop} {A A1 : World} {D : List Fld} {v r2 : Value} {f : Fld} {o : Obj} {g cap : Nat} (h : FInv w z LL pre G A) (hz : z ≤ w.heap.size)
    (ho : A.ownsRow z 44 2 v D.length (fcells D)) (b2 : Boxed A (z + 2) 25 v) (hD : D.length ≠ 100) (hr : Hid (∀ rest, runF (pre' ++ rest) [] = runF rest (D ++ [f])))
    (hown : A1.ownsRow z 44 2 (.slice (some ⟨g, 0, none⟩) (D.length + 1) cap) (D.length + 1) (fcells D ++ [.string (mk f.1), .string (mk f.2)])) (hg : (A.alloc o).grownBy A1 v.ownBlock) (hat : v.ownBlock = some g ∨ g = (A.alloc o).heap.size) :
    Boxed A1 (z + 2) 25 v ∧ (A1.setCell ⟨z + 2, 0, none⟩ (.slice (some ⟨g, 0, none⟩) (D.length + 1) cap)).heap[z + 5]? = A.heap[z + 5]? ∧
      Keeps (fun k => G k ∨ k < z) A (A1.setCell ⟨z + 2, 0, none⟩ (.slice (some ⟨g, 0, none⟩) (D.length + 1) cap)) ∧ FInv w z LL pre' G (A1.setCell ⟨z + 2, 0, none⟩ (.slice (some ⟨g, 0, none⟩) (D.length + 1) cap)) := by
  obtain ⟨D', v', h1, h2, b0, b1, b2', ho', hd, hb, hk⟩ := h
  have hv : v' = v := Option.some.inj (b2'.cell.symm.trans b2.cell)
  subst hv
  have hDD : D'.length = D.length := by
    obtain ⟨_, _, e1⟩ := own_slice ho
    obtain ⟨_, _, e2⟩ := own_slice ho'
    rw [e1] at e2
    injection e2 with _ e3 _
    exact e3.symm
  have hsz := hg.size
  rw [World.size_alloc] at hsz
  have hgA : A.grownBy A1 v'.ownBlock := ⟨hg.os, hg.tape, hg.output, by omega, fun k hk hne => (hg.block k (by simp; omega) hne).trans (Below.heap_alloc A o k hk)⟩
  have hne0 := b0.not_row (by decide) ho
  have hne1 := b1.not_row (by decide) ho
  have hne2 := b2'.not_row (by decide) ho
  have hne4 := own_ne_def hd ho
  have a0 := b0.kept hgA hne0
  have a1 := b1.kept hgA hne1
  have a2 := b2'.kept hgA hne2
  have a4 := (hgA.block _ (Array.getElem?_eq_some_iff.1 hd).1 (fun e => hne4 e.symm)).trans hd
  have hL := (hk _ (.inr rfl))
  have a5 := hgA.block _ hL.1 (fun e => hL.2.2.2 e.symm)
  have hlow : ∀ k, (G k ∨ k < z) → v'.ownBlock ≠ some k ∧ k ≠ z + 2 := fun k h => by
    rcases h with h | h
    · exact ⟨(hk k (.inl h)).2.2.2, by have := (hk k (.inl h)).2.1; omega⟩
    · exact ⟨fun e => by have := (ho.lt k e).1; omega, by omega⟩
  refine ⟨a2, (Below.heap_setCell _ _ _ _ (by simp)).trans a5, (Keeps.of_grown hgA (fun r e hr => (hlow r hr).1 e)).trans (.setCell _ _ _ (fun h => (hlow _ h).2 rfl) _), ?_⟩
  refine ⟨D ++ [f], .slice (some ⟨g, 0, none⟩) (D.length + 1) cap, hr, by simp; omega, a0.other (by omega) _, a1.other (by omega) _, a2.set _, ?_, (Below.heap_setCell _ _ _ _ (by simp)).trans a4, ?_, ?_⟩
  · have := hown.kept (grown_setCell A1 (z + 2) 0 (.slice (some ⟨g, 0, none⟩) (D.length + 1) cap)) (own_ne_of fun k e => by cases e; exact fun e => (a2.not_row (by decide) hown) e.symm)
    rw [List.length_append, ← fcells_snoc]
    exact this
  · exact (hb.grown hgA (Nat.le_trans hz hb.size) (fun k e => (ho.lt k e).1)).setCell (by simp) _
  · intro k h
    obtain ⟨k1, k2, k3, k4⟩ := hk k h
    refine ⟨by simp; omega, k2, k3, fun e => ?_⟩
    have e' : g = k := by simpa [Value.ownBlock] using e
    rcases hat with hat | hat
    · exact k4 (by rw [hat, e'])
    · rw [World.size_alloc] at hat; omega

set_option maxRecDepth 100000 in
set_option maxHeartbeats 2000000 in
theorem f_parse_short (v : Value) (s : ByteArray) (w : World) (hv : Row w v 1 s.size (bcells (un s))) (hs : s.size ≤ 16384) (hm : MaxOk w) :
    Calls Try.prog 10 #[v] w fun e w' => ∃ u, e = .returned (.tuple #[u, .int .i64 (parseF (un s)).2]) ∧ w'.ownsRow w.heap.size 44 2 u (parseF (un s)).1.length (fcells (parseF (un s)).1) ∧ Below w.heap.size w w' := by
  obtain ⟨iF0, iF⟩ := info_parts infoFld
  obtain ⟨LL, hLL⟩ : ∃ LL, LL = linesL (un s) := ⟨_, rfl⟩
  have hpar := parseF_short (un s) (by rw [length_un]; omega)
  rw [hpar, ← hLL]
  have HLL := Lib.hid hLL
  clear hpar hLL
  have hv' := hv
  obtain ⟨hbl, a, cap, rfl, hn, hcap, hcells⟩ := hv'
  have hml := hm.lt
  obtain ⟨W3, hW3⟩ : ∃ W3, W3 = ((w.alloc (.cells #[.slice none 0 0] 25)).alloc (.cells #[.int .i64 0] 26)).alloc (.cells #[.slice none 0 0] 25) := ⟨_, rfl⟩
  have hB3 : Below w.heap.size w W3 := by rw [hW3]; exact (((Below.refl _ w).alloc (Nat.le_refl _) _).alloc (by simp) _).alloc (by simp; omega) _
  have hS3 : W3.heap.size = w.heap.size + 3 := by rw [hW3]; simp
  have b0 : Boxed W3 w.heap.size 25 (.slice none 0 0) := by rw [hW3]; exact ((Boxed.new w _ _).alloc _).alloc _
  have b1 : Boxed W3 (w.heap.size + 1) 26 (.int .i64 0) := by
    have := (Boxed.new (w.alloc (.cells #[.slice none 0 0] 25)) 26 (.int .i64 0)).alloc (.cells #[.slice none 0 0] 25)
    rw [World.size_alloc] at this
    rw [hW3]; exact this
  have b2 : Boxed W3 (w.heap.size + 2) 25 (.slice none 0 0) := by
    have := Boxed.new ((w.alloc (.cells #[.slice none 0 0] 25)).alloc (.cells #[.int .i64 0] 26)) 25 (.slice none 0 0)
    simp only [World.size_alloc] at this
    rw [hW3]; exact this
  have hcv : (convert 22 9 (.slice a s.size cap)).run Try.prog W3 = .ok (.string s) W3 := by
    have := string_of_row (P := Try.prog) (hv.below hB3) (src := 22) (dst := 9) Try.underlying22 Try.underlying5 Try.underlying9
    rw [mk_un] at this
    exact this
  rw [hW3] at hcv
  have hlim : ((s.size : Int) ≤ 16384) := by omega
  have hlen : ¬ ((16384 : Int) < (s.size : Int)) := by omega
  have HW3 := Lib.hid hW3
  clear hW3
  refine (callsIn_wide (n := 5)).1 ?_
  refine callsIn_of_wp_marks Try.func10 rfl trivial ?_ rfl
  simp only [Try.ntmps10, List.size_toArray, List.length_cons, List.length_nil, Nat.reduceAdd, Nat.reduceSub, Array.replicate_succ, Array.replicate_zero, List.push_toArray, List.append_toArray, List.nil_append, List.cons_append]
  gi_wp2
  refine ⟨trivial, ?_⟩
  refine (callsIn_wide.2 (f_lines s _)).mono ?_
  rintro e w1 ⟨rfl, rfl⟩
  gi_wp2
  rw [← HW3.out]
  clear hcv HW3
  obtain ⟨W4, hW4⟩ : ∃ W4, W4 = W3.alloc (.cells #[.string s] 9) := ⟨_, rfl⟩
  have hS4 : W4.heap.size = w.heap.size + 4 := by rw [hW4]; simp; omega
  have hB4 : Below w.heap.size w W4 := by rw [hW4]; exact hB3.alloc (by omega) _
  have c0 : Boxed W4 w.heap.size 25 (.slice none 0 0) := by rw [hW4]; exact b0.alloc _
  have c1 : Boxed W4 (w.heap.size + 1) 26 (.int .i64 0) := by rw [hW4]; exact b1.alloc _
  have c2 : Boxed W4 (w.heap.size + 2) 25 (.slice none 0 0) := by rw [hW4]; exact b2.alloc _
  have c3 : Boxed W4 (w.heap.size + 3) 9 (.string s) := by rw [hW4]; have := Boxed.new W3 9 (.string s); rw [hS3] at this; exact this
  have hmx : MaxOk W4 := hm.below hB4 hml
  rw [← hW4]
  clear hW4 b0 b1 b2 hB3 hS3
  obtain ⟨z, hz⟩ : ∃ z, z = w.heap.size := ⟨_, rfl⟩
  simp only [← hz] at hS4 hB4 c0 c1 c2 c3 hml ⊢
  have hzz := Nat.le_of_eq hz
  have HZ := Lib.hid hz
  clear W3 hz
  rw [show z + 1 + 1 + 1 = z + 3 from rfl, show z + 1 + 1 = z + 2 from rfl]
  have hent := fun (a : Act) ps asg bd => enter_outer (F := Fence.wide) (P := Try.prog) rfl W4 a ps asg bd
  rw [hS4] at hent
  refine range_law (w₁ := W4.alloc (.deferred (some []))) (L := z + 5) (by omega) (by simp; omega) (hent _ _ _ _) (gf := 38) (lb := #[.pointer (some ⟨z + 3, 0, none⟩)]) rfl trivial (enters_of Try.func38 (by kernel_rfl) rfl)
    (lines_seq 4 (z + 3) z s W4 (by omega) c3 (by omega) hmx hml (by omega) (by omega)) ((Below.refl _ W4).alloc (Nat.le_refl _) _) (fun _ => rfl) (by omega) (by omega)
    (FInv w z LL) (FOut w z) (fun _ _ _ _ _ h hg hr => h.turn hzz hg hr) (fun _ _ _ _ h hg => h.lay hzz hg) (fun _ _ _ _ _ _ h hg hr => h.turn hzz hg hr) (fun _ _ _ _ _ h hg => h.lay hzz hg) ?start
    (fun x a' W => a' = { tmps := #[.slice a s.size cap, undef, .pointer (some ⟨z, 0, none⟩), .pointer (some ⟨z + 1, 0, none⟩), .pointer (some ⟨z + 2, 0, none⟩), .string (mk x.1), .bool x.2, undef, undef, undef,
      .slice a s.size cap, .int .i64 s.size, .bool false, .slice a s.size cap, .string s, .func (.func 38) #[] #[.pointer (some ⟨z + 3, 0, none⟩)], .string (mk x.1), .bool x.2, undef, undef, undef, undef, undef, undef, undef, undef, undef, undef, undef, undef, undef, undef, undef,
          undef, undef, undef, undef, undef, undef, undef, undef, undef, undef, undef, undef, undef, undef, undef, undef, undef, undef, undef, undef], defers := [] }) (fun _ _ _ _ _ h _ _ => h) ?assign ?body ?done ?stop
  case start =>
    intro o
    refine ⟨[], .slice none 0 0, fun rest => rfl, by simp, (c0.alloc _).alloc _, (c1.alloc _).alloc _, (c2.alloc _).alloc _, World.ownsRow_nil _ _ _ _, ?_, (hB4.alloc (by omega) _).alloc (by simp; omega) _, ?_⟩
    · have h1 := World.alloc_heap_new W4 (.deferred (some []))
      rw [hS4] at h1
      exact (Below.heap_alloc _ o _ (by simp; omega)).trans h1
    · rintro k (rfl | rfl) <;> simp [Value.ownBlock] <;> omega
  case assign =>
    intro pre x G W K hI hsp hK
    gi_wp2
    exact hK _ _ rfl (Keeps.refl _ _) hI rfl
  case body =>
    rintro pre ⟨t, ok⟩ G a' W ⟨r0, hr0⟩ hI rfl ⟨post, hpost⟩
    have htl : t.length ≤ 20000 := by
      have := linesL_len (un s) (t, ok) (by rw [← hpost]; simp)
      rw [length_un] at this
      show (t, ok).1.length ≤ _
      omega
    clear hpost
    have hmW : MaxOk W := by obtain ⟨_, _, _, _, _, _, _, _, _, hb, _⟩ := hI; exact hm.below hb hml
    gi_wp2
    refine ⟨trivial, ?_⟩
    rcases split_at t 58 with ⟨n, vv, e, hne⟩ | hno
    · have hfo := fieldO_colon n vv hne
      rw [← e] at hfo
      have HFO := Lib.hid hfo
      have hnl : n.length ≤ 20000 := by have := congrArg List.length e; simp at this; omega
      have hvl : vv.length ≤ 20000 := by have := congrArg List.length e; simp at this; omega
      have hcut := cut_yes (mk t) n vv 58 W hmW (by rw [size_mk]; omega) (by rw [un_mk]; exact e) hne
      clear e hne hfo
      refine (CallsIn.inRound _ (callsIn_wide.2 hcut)).mono ?_
      rintro e w1 ⟨rfl, hb1⟩
      have hI1 := hI.turn hzz (grown_of_below hb1) (fun r e => by cases e)
      have hL1 : w1.heap[z + 5]? = W.heap[z + 5]? := hb1.block _ (Array.getElem?_eq_some_iff.1 hr0).1
      have hmW1 : MaxOk w1 := hmW.below hb1 hmW.lt
      clear hI hcut
      obtain ⟨D, v, hrun, hD, b0, b1, b2, ho, hd, hb, hk⟩ := id hI1
      obtain ⟨ao, co, rfl⟩ := own_slice ho
      have e0 := b0.cell; have f0 := b0.frozen; have e1 := b1.cell; have f1 := b1.frozen; have e2 := b2.cell; have f2 := b2.frozen
      cases ok
      · have hr5 : Hid (∀ rest, runF ((pre ++ [(t, false)]) ++ rest) [] = ([], 5)) := fun rest => by rw [List.append_assoc, hrun.out, List.singleton_append, runF_trunc]
        gi_wp2
        exact (show _ ∧ _ from ⟨(hI1.out hzz hr5).1.trans hL1, (hI1.out hzz hr5).2⟩)
      · by_cases h100 : D.length = 100
        · have h100' : ((D.length : Int) == 100) = true := by simp; omega
          have H100 := Lib.hid h100
          clear h100
          have hr3 : Hid (∀ rest, runF ((pre ++ [(t, true)]) ++ rest) [] = ([], 3)) := fun rest => by rw [List.append_assoc, hrun.out, List.singleton_append, runF_limit _ _ _ H100.out]
          gi_wp2
          exact (show _ ∧ _ from ⟨(hI1.out hzz hr3).1.trans hL1, (hI1.out hzz hr3).2⟩)
        · have h100' : ((D.length : Int) == 100) = false := by simp; omega
          have H100 := Lib.hid h100
          clear h100
          have hT := f_token (mk n) w1 (by rw [size_mk]; omega)
          rw [un_mk] at hT
          cases htok : tokenS n
          · rw [htok] at hT
            have HT := Lib.hid hT
            have hr4 : Hid (∀ rest, runF ((pre ++ [(t, true)]) ++ rest) [] = ([], 4)) := fun rest => by rw [List.append_assoc, hrun.out, List.singleton_append, runF_syntax _ _ _ H100.out (by rw [HFO.out, if_neg (by simp [htok])])]
            clear hT htok
            gi_wp2
            refine ⟨trivial, ?_⟩
            refine (CallsIn.inRound _ (callsIn_wide.2 HT.out)).mono ?_
            rintro e w' ⟨rfl, rfl⟩
            gi_wp2
            refine ⟨trivial, ?_⟩
            gi_wp2
            exact (show _ ∧ _ from ⟨(hI1.out hzz hr4).1.trans hL1, (hI1.out hzz hr4).2⟩)
          · rw [htok] at hT
            have HT := Lib.hid hT
            have hV := f_value (mk vv) w1 (by rw [size_mk]; omega)
            rw [un_mk] at hV
            cases hval : vv.all isTxt
            · rw [hval] at hV
              have HV := Lib.hid hV
              have hr4 : Hid (∀ rest, runF ((pre ++ [(t, true)]) ++ rest) [] = ([], 4)) := fun rest => by rw [List.append_assoc, hrun.out, List.singleton_append, runF_syntax _ _ _ H100.out (by rw [HFO.out, if_neg (by simp [hval])])]
              clear hT htok hV hval
              gi_wp2
              refine ⟨trivial, ?_⟩
              refine (CallsIn.inRound _ (callsIn_wide.2 HT.out)).mono ?_
              rintro e w' ⟨rfl, rfl⟩
              gi_wp2
              refine ⟨trivial, ?_⟩
              refine (CallsIn.inRound _ (callsIn_wide.2 HV.out)).mono ?_
              rintro e w' ⟨rfl, rfl⟩
              gi_wp2
              exact (show _ ∧ _ from ⟨(hI1.out hzz hr4).1.trans hL1, (hI1.out hzz hr4).2⟩)
            · rw [hval] at hV
              have HV := Lib.hid hV
              have hrn : Hid (∀ rest, runF ((pre ++ [(t, true)]) ++ rest) [] = runF rest (D ++ [(lower n, trim vv)])) := fun rest => by rw [List.append_assoc, hrun.out, List.singleton_append, runF_field _ _ _ _ H100.out (by rw [HFO.out, if_pos ⟨htok, hval⟩])]
              clear hT htok hV hval
              gi_wp2
              refine ⟨trivial, ?_⟩
              refine (CallsIn.inRound _ (callsIn_wide.2 HT.out)).mono ?_
              rintro e w' ⟨rfl, rfl⟩
              gi_wp2
              refine ⟨trivial, ?_⟩
              refine (CallsIn.inRound _ (callsIn_wide.2 HV.out)).mono ?_
              rintro e w' ⟨rfl, rfl⟩
              gi_wp2
              have hmix : Try.prog.follows .mixedOrders = true := by kernel_rfl
              have hLow := fun W => ascii_lower (mk n) W (by rw [size_mk]; omega)
              have hTrm := fun W => ascii_trim (mk vv) W (by rw [size_mk]; omega)
              simp only [un_mk] at hLow hTrm
              have HLow := Lib.hid hLow
              have HTrm := Lib.hid hTrm
              clear hLow hTrm
              refine wpIn_region_round (F := Fence.wide) rfl hmix (by kernel_rfl) ?_
              refine wpAnyIn_take (i := 1) (v := .string (mk n)) rfl rfl (by kernel_rfl) (by kernel_rfl) (by kernel_rfl) (fun _ _ _ h => h) ⟨Or.inl ⟨by rfl, by intro w; go_simp⟩, fun _ => rfl⟩ ?_
              refine wpAnyIn_take (i := 3) (v := .string (mk vv)) rfl rfl (by kernel_rfl) (by kernel_rfl) (by kernel_rfl) (fun _ _ _ h => h) ⟨Or.inl ⟨by rfl, by intro w; go_simp⟩, fun _ => rfl⟩ ?_
              refine wpAnyIn_ready (rs := [0, 2]) (by kernel_rfl) (by simp) ?_
              refine AllReadyIn.cons rfl (fun K hK => ?_) (AllReadyIn.cons rfl (fun K hK => ?_) AllReadyIn.nil)
              · go_simp
                refine hK _ _ ?_; clear hK K
                refine wpAnyIn_ready (rs := [2]) (by kernel_rfl) (by simp) ?_
                refine AllReadyIn.cons rfl (fun K hK => ?_) AllReadyIn.nil
                go_simp
                refine ⟨trivial, ?_⟩
                refine (callsIn_wide.2 (HLow.out _)).mono ?_
                rintro e w2 ⟨rfl, hb2⟩
                have hg2 : w1.grownBy w2 none := ⟨hb2.os, hb2.tape, hb2.output, hb2.size, fun k hk _ => hb2.block k hk⟩
                have hI2 := hI1.turn hzz hg2 (fun r e => by cases e)
                have hB2 := hb2.size
                have e2' := (b2.kept hg2 (by simp)).cell
                have e2'' := ((b2.kept hg2 (by simp)).alloc (.cells #[.string (mk (lower n)), .string (mk (trim vv))] 44)).cell
                have ho2 := ho.kept hg2 (own_ne_of fun k e => by cases e)
                refine hK _ _ ?_; clear hK K
                refine wpAnyIn_ready (rs := [4]) (by kernel_rfl) (by simp) ?_
                refine AllReadyIn.cons rfl (fun K hK => ?_) AllReadyIn.nil
                go_simp
                refine ⟨trivial, ?_⟩
                refine (callsIn_wide.2 (HTrm.out _)).mono ?_
                rintro e w' ⟨rfl, rfl⟩
                refine hK _ _ ?_; clear hK K
                refine wpAnyIn_take (i := 5) (v := .agg #[.string (mk (lower n)), .string (mk (trim vv))]) rfl rfl (by kernel_rfl) (by kernel_rfl) (by kernel_rfl) (fun _ _ _ h => h) ⟨Or.inl ⟨by rfl, by intro w; go_simp⟩, fun _ => rfl⟩ ?_
                refine wpAnyIn_ready (rs := [6]) (by kernel_rfl) (by simp) ?_
                refine AllReadyIn.cons rfl (fun K hK => ?_) AllReadyIn.nil
                go_simp
                refine hK _ _ ?_; clear hK K
                refine wpAnyIn_ready (rs := [7]) (by kernel_rfl) (by simp) ?_
                refine AllReadyIn.cons rfl (fun K hK => ?_) AllReadyIn.nil
                refine step_append_at _ rfl (.tmp 44) (.tmp 50) 25 rfl z 44 iF0 (.agg #[.string ⟨#[]⟩, .string ⟨#[]⟩]) 2 32 Try.underlying25 iF.1 iF.2.1 iF.2.2.1 iF.2.2.2 rfl (by decide) _ _ _ rfl (ho2.alloc _) ⟨w2.heap.size, 0, none⟩ 1 1 [.string (mk (lower n)), .string (mk (trim vv))] rfl rfl (cells2_at _ _ _ _ _ rfl) (by intro u hu; simp at hu; rcases hu with rfl | rfl <;> rfl) (by unfold maxLen; omega) (by omega) (by have := hI2.size; simp; omega) (by omega) ?_
                intro g cap w5 hown5 hgrow5 hat5
                have hI5 := hI2.appended hzz (r2 := .string (mk (lower n))) ho2 (b2.kept hg2 (by simp)) H100.out hrn hown5 hgrow5 hat5
                have e2w := hI5.1.cell; have f2w := hI5.1.frozen
                refine hK _ _ ?_; clear hK K
                refine wpAnyIn_ready (rs := [8]) (by kernel_rfl) (by simp) ?_
                refine AllReadyIn.cons rfl (fun K hK => ?_) AllReadyIn.nil
                go_simp
                refine hK _ _ ?_; clear hK K
                refine wpAnyIn_done (by kernel_rfl) ?_ _
                have hL2 : w2.heap[z + 5]? = w1.heap[z + 5]? := hg2.block _ (hk _ (.inr rfl)).1 (by simp)
                exact (show _ ∧ _ ∧ _ from ⟨hI5.2.1.trans (hL2.trans hL1), (Keeps.of_grown (grown_of_below hb1) (fun r e => by cases e)).trans ((Keeps.of_grown hg2 (fun r e => by cases e)).trans hI5.2.2.1), hI5.2.2.2⟩)
              · go_simp
                refine ⟨trivial, ?_⟩
                refine (callsIn_wide.2 (HLow.out _)).mono ?_
                rintro e w2 ⟨rfl, hb2⟩
                have hg2 : w1.grownBy w2 none := ⟨hb2.os, hb2.tape, hb2.output, hb2.size, fun k hk _ => hb2.block k hk⟩
                have hI2 := hI1.turn hzz hg2 (fun r e => by cases e)
                have hB2 := hb2.size
                have e2' := (b2.kept hg2 (by simp)).cell
                have e2'' := ((b2.kept hg2 (by simp)).alloc (.cells #[.string (mk (lower n)), .string (mk (trim vv))] 44)).cell
                have ho2 := ho.kept hg2 (own_ne_of fun k e => by cases e)
                refine hK _ _ ?_; clear hK K
                refine wpAnyIn_ready (rs := [0, 4]) (by kernel_rfl) (by simp) ?_
                refine AllReadyIn.cons rfl (fun K hK => ?_) (AllReadyIn.cons rfl (fun K hK => ?_) AllReadyIn.nil)
                · go_simp
                  refine hK _ _ ?_; clear hK K
                  refine wpAnyIn_ready (rs := [4]) (by kernel_rfl) (by simp) ?_
                  refine AllReadyIn.cons rfl (fun K hK => ?_) AllReadyIn.nil
                  go_simp
                  refine ⟨trivial, ?_⟩
                  refine (callsIn_wide.2 (HTrm.out _)).mono ?_
                  rintro e w' ⟨rfl, rfl⟩
                  refine hK _ _ ?_; clear hK K
                  refine wpAnyIn_take (i := 5) (v := .agg #[.string (mk (lower n)), .string (mk (trim vv))]) rfl rfl (by kernel_rfl) (by kernel_rfl) (by kernel_rfl) (fun _ _ _ h => h) ⟨Or.inl ⟨by rfl, by intro w; go_simp⟩, fun _ => rfl⟩ ?_
                  refine wpAnyIn_ready (rs := [6]) (by kernel_rfl) (by simp) ?_
                  refine AllReadyIn.cons rfl (fun K hK => ?_) AllReadyIn.nil
                  go_simp
                  refine hK _ _ ?_; clear hK K
                  refine wpAnyIn_ready (rs := [7]) (by kernel_rfl) (by simp) ?_
                  refine AllReadyIn.cons rfl (fun K hK => ?_) AllReadyIn.nil
                  refine step_append_at _ rfl (.tmp 44) (.tmp 50) 25 rfl z 44 iF0 (.agg #[.string ⟨#[]⟩, .string ⟨#[]⟩]) 2 32 Try.underlying25 iF.1 iF.2.1 iF.2.2.1 iF.2.2.2 rfl (by decide) _ _ _ rfl (ho2.alloc _) ⟨w2.heap.size, 0, none⟩ 1 1 [.string (mk (lower n)), .string (mk (trim vv))] rfl rfl (cells2_at _ _ _ _ _ rfl) (by intro u hu; simp at hu; rcases hu with rfl | rfl <;> rfl) (by unfold maxLen; omega) (by omega) (by have := hI2.size; simp; omega) (by omega) ?_
                  intro g cap w5 hown5 hgrow5 hat5
                  have hI5 := hI2.appended hzz (r2 := .string (mk (lower n))) ho2 (b2.kept hg2 (by simp)) H100.out hrn hown5 hgrow5 hat5
                  have e2w := hI5.1.cell; have f2w := hI5.1.frozen
                  refine hK _ _ ?_; clear hK K
                  refine wpAnyIn_ready (rs := [8]) (by kernel_rfl) (by simp) ?_
                  refine AllReadyIn.cons rfl (fun K hK => ?_) AllReadyIn.nil
                  go_simp
                  refine hK _ _ ?_; clear hK K
                  refine wpAnyIn_done (by kernel_rfl) ?_ _
                  have hL2 : w2.heap[z + 5]? = w1.heap[z + 5]? := hg2.block _ (hk _ (.inr rfl)).1 (by simp)
                  exact (show _ ∧ _ ∧ _ from ⟨hI5.2.1.trans (hL2.trans hL1), (Keeps.of_grown (grown_of_below hb1) (fun r e => by cases e)).trans ((Keeps.of_grown hg2 (fun r e => by cases e)).trans hI5.2.2.1), hI5.2.2.2⟩)
                · go_simp
                  refine ⟨trivial, ?_⟩
                  refine (callsIn_wide.2 (HTrm.out _)).mono ?_
                  rintro e w' ⟨rfl, rfl⟩
                  refine hK _ _ ?_; clear hK K
                  refine wpAnyIn_take (i := 5) (v := .agg #[.string (mk (lower n)), .string (mk (trim vv))]) rfl rfl (by kernel_rfl) (by kernel_rfl) (by kernel_rfl) (fun _ _ _ h => h) ⟨Or.inl ⟨by rfl, by intro w; go_simp⟩, fun _ => rfl⟩ ?_
                  refine wpAnyIn_ready (rs := [0, 6]) (by kernel_rfl) (by simp) ?_
                  refine AllReadyIn.cons rfl (fun K hK => ?_) (AllReadyIn.cons rfl (fun K hK => ?_) AllReadyIn.nil)
                  · go_simp
                    refine hK _ _ ?_; clear hK K
                    refine wpAnyIn_ready (rs := [6]) (by kernel_rfl) (by simp) ?_
                    refine AllReadyIn.cons rfl (fun K hK => ?_) AllReadyIn.nil
                    go_simp
                    refine hK _ _ ?_; clear hK K
                    refine wpAnyIn_ready (rs := [7]) (by kernel_rfl) (by simp) ?_
                    refine AllReadyIn.cons rfl (fun K hK => ?_) AllReadyIn.nil
                    refine step_append_at _ rfl (.tmp 44) (.tmp 50) 25 rfl z 44 iF0 (.agg #[.string ⟨#[]⟩, .string ⟨#[]⟩]) 2 32 Try.underlying25 iF.1 iF.2.1 iF.2.2.1 iF.2.2.2 rfl (by decide) _ _ _ rfl (ho2.alloc _) ⟨w2.heap.size, 0, none⟩ 1 1 [.string (mk (lower n)), .string (mk (trim vv))] rfl rfl (cells2_at _ _ _ _ _ rfl) (by intro u hu; simp at hu; rcases hu with rfl | rfl <;> rfl) (by unfold maxLen; omega) (by omega) (by have := hI2.size; simp; omega) (by omega) ?_
                    intro g cap w5 hown5 hgrow5 hat5
                    have hI5 := hI2.appended hzz (r2 := .string (mk (lower n))) ho2 (b2.kept hg2 (by simp)) H100.out hrn hown5 hgrow5 hat5
                    have e2w := hI5.1.cell; have f2w := hI5.1.frozen
                    refine hK _ _ ?_; clear hK K
                    refine wpAnyIn_ready (rs := [8]) (by kernel_rfl) (by simp) ?_
                    refine AllReadyIn.cons rfl (fun K hK => ?_) AllReadyIn.nil
                    go_simp
                    refine hK _ _ ?_; clear hK K
                    refine wpAnyIn_done (by kernel_rfl) ?_ _
                    have hL2 : w2.heap[z + 5]? = w1.heap[z + 5]? := hg2.block _ (hk _ (.inr rfl)).1 (by simp)
                    exact (show _ ∧ _ ∧ _ from ⟨hI5.2.1.trans (hL2.trans hL1), (Keeps.of_grown (grown_of_below hb1) (fun r e => by cases e)).trans ((Keeps.of_grown hg2 (fun r e => by cases e)).trans hI5.2.2.1), hI5.2.2.2⟩)
                  · go_simp
                    refine hK _ _ ?_; clear hK K
                    refine wpAnyIn_ready (rs := [0]) (by kernel_rfl) (by simp) ?_
                    refine AllReadyIn.cons rfl (fun K hK => ?_) AllReadyIn.nil
                    go_simp
                    refine hK _ _ ?_; clear hK K
                    refine wpAnyIn_ready (rs := [7]) (by kernel_rfl) (by simp) ?_
                    refine AllReadyIn.cons rfl (fun K hK => ?_) AllReadyIn.nil
                    refine step_append_at _ rfl (.tmp 44) (.tmp 50) 25 rfl z 44 iF0 (.agg #[.string ⟨#[]⟩, .string ⟨#[]⟩]) 2 32 Try.underlying25 iF.1 iF.2.1 iF.2.2.1 iF.2.2.2 rfl (by decide) _ _ _ rfl (ho2.alloc _) ⟨w2.heap.size, 0, none⟩ 1 1 [.string (mk (lower n)), .string (mk (trim vv))] rfl rfl (cells2_at _ _ _ _ _ rfl) (by intro u hu; simp at hu; rcases hu with rfl | rfl <;> rfl) (by unfold maxLen; omega) (by omega) (by have := hI2.size; simp; omega) (by omega) ?_
                    intro g cap w5 hown5 hgrow5 hat5
                    have hI5 := hI2.appended hzz (r2 := .string (mk (lower n))) ho2 (b2.kept hg2 (by simp)) H100.out hrn hown5 hgrow5 hat5
                    have e2w := hI5.1.cell; have f2w := hI5.1.frozen
                    refine hK _ _ ?_; clear hK K
                    refine wpAnyIn_ready (rs := [8]) (by kernel_rfl) (by simp) ?_
                    refine AllReadyIn.cons rfl (fun K hK => ?_) AllReadyIn.nil
                    go_simp
                    refine hK _ _ ?_; clear hK K
                    refine wpAnyIn_done (by kernel_rfl) ?_ _
                    have hL2 : w2.heap[z + 5]? = w1.heap[z + 5]? := hg2.block _ (hk _ (.inr rfl)).1 (by simp)
                    exact (show _ ∧ _ ∧ _ from ⟨hI5.2.1.trans (hL2.trans hL1), (Keeps.of_grown (grown_of_below hb1) (fun r e => by cases e)).trans ((Keeps.of_grown hg2 (fun r e => by cases e)).trans hI5.2.2.1), hI5.2.2.2⟩)
    · have hfo := Lib.hid (fieldO_none t hno)
      have hcut := cut_no (mk t) 58 W hmW (by rw [size_mk]; omega) (by rw [un_mk]; exact hno)
      clear hno
      refine (CallsIn.inRound _ (callsIn_wide.2 hcut)).mono ?_
      rintro e w1 ⟨rfl, hb1⟩
      have hI1 := hI.turn hzz (grown_of_below hb1) (fun r e => by cases e)
      have hL1 : w1.heap[z + 5]? = W.heap[z + 5]? := hb1.block _ (Array.getElem?_eq_some_iff.1 hr0).1
      clear hI hcut
      obtain ⟨D, v, hrun, hD, b0, b1, b2, ho, hd, hb, hk⟩ := id hI1
      obtain ⟨ao, co, rfl⟩ := own_slice ho
      have e0 := b0.cell; have f0 := b0.frozen; have e1 := b1.cell; have f1 := b1.frozen; have e2 := b2.cell; have f2 := b2.frozen
      cases ok
      · have hr5 : Hid (∀ rest, runF ((pre ++ [(t, false)]) ++ rest) [] = ([], 5)) := fun rest => by rw [List.append_assoc, hrun.out, List.singleton_append, runF_trunc]
        gi_wp2
        exact (show _ ∧ _ from ⟨(hI1.out hzz hr5).1.trans hL1, (hI1.out hzz hr5).2⟩)
      · by_cases h100 : D.length = 100
        · have h100' : ((D.length : Int) == 100) = true := by simp; omega
          have H100 := Lib.hid h100
          clear h100
          have hr3 : Hid (∀ rest, runF ((pre ++ [(t, true)]) ++ rest) [] = ([], 3)) := fun rest => by rw [List.append_assoc, hrun.out, List.singleton_append, runF_limit _ _ _ H100.out]
          gi_wp2
          exact (show _ ∧ _ from ⟨(hI1.out hzz hr3).1.trans hL1, (hI1.out hzz hr3).2⟩)
        · have h100' : ((D.length : Int) == 100) = false := by simp; omega
          have H100 := Lib.hid h100
          clear h100
          have hr4 : Hid (∀ rest, runF ((pre ++ [(t, true)]) ++ rest) [] = ([], 4)) := fun rest => by rw [List.append_assoc, hrun.out, List.singleton_append, runF_syntax _ _ _ H100.out hfo.out]
          gi_wp2
          refine ⟨trivial, ?_⟩
          gi_wp2
          refine ⟨trivial, ?_⟩
          gi_wp2
          exact (show _ ∧ _ from ⟨(hI1.out hzz hr4).1.trans hL1, (hI1.out hzz hr4).2⟩)
  case done =>
    rintro xs G W rfl ⟨D, v, hrun, hD, b0, b1, b2, ho, hd, hb, hk⟩
    obtain ⟨ao, co, rfl⟩ := own_slice ho
    have e0 := b0.cell; have f0 := b0.frozen; have e1 := b1.cell; have f1 := b1.frozen; have e2 := b2.cell; have f2 := b2.frozen
    have hfin : Hid (runF LL [] = (D, 0)) := by rw [HLL.out, ← List.append_nil (linesL (un s)), hrun.out]; rfl
    gi_wp2
    have hd' : ((W.setCell ⟨z, 0, none⟩ (.slice ao D.length co)).setCell ⟨z + 1, 0, none⟩ (.int .i64 0)).heap[z + 4]? = some (.deferred (some [])) :=
      ((Below.heap_setCell _ _ _ _ (by simp)).trans (Below.heap_setCell _ _ _ _ (by simp))).trans hd
    have d0 := ((b0.set (.slice ao D.length co)).other (B' := z + 1) (by omega) (.int .i64 0)).kept (grownBy_putObj' _ (z + 4) (.deferred none)) (by simp)
    have d1 := ((b1.other (B' := z) (by omega) (.slice ao D.length co)).set (.int .i64 0)).kept (grownBy_putObj' _ (z + 4) (.deferred none)) (by simp)
    have hrow := ((ho.kept (grown_setCell _ z 0 (.slice ao D.length co)) (own_ne_of fun k e => by cases e; exact fun e => (b0.not_row (by decide) ho) e.symm)).kept (grown_setCell _ (z + 1) 0 (.int .i64 0)) (own_ne_of fun k e => by cases e; exact fun e => (b1.not_row (by decide) ho) e.symm)).kept (grownBy_putObj' _ (z + 4) (.deferred none)) (own_ne_of fun k e => by cases e; exact own_ne_def hd ho)
    have hbl := ((hb.setCell (p := ⟨z, 0, none⟩) (by simp) (.slice ao D.length co)).setCell (p := ⟨z + 1, 0, none⟩) (by simp) (.int .i64 0)).grown (grownBy_putObj' _ (z + 4) (.deferred none)) (by have := hb.size; simp; omega) (fun k e => by cases e; omega)
    refine ⟨by simp, .inl ⟨_, _, rfl, run_takeDeferred hd', ?_⟩⟩
    refine ⟨.tuple #[.slice ao D.length co, .int .i64 0], ?_, .slice ao D.length co, ?_, ?_, ?_⟩
    · have e0 := d0.cell; have e1 := d1.cell
      simp [results, Try.f10, go_sem, e0, e1]
    · rw [hfin.out]
    · rw [hfin.out, ← HZ.out]; exact hrow
    · rw [← HZ.out]; exact hbl
  case stop =>
    rintro c pre G W ⟨post, hpost⟩ ⟨rfl, e, hrun, b0, b1, hd, hb, hk⟩
    have e0 := b0.cell; have f0 := b0.frozen; have e1 := b1.cell; have f1 := b1.frozen
    have hfin : Hid (runF LL [] = ([], e)) := by rw [HLL.out, ← hpost, hrun.out]; rfl
    gi_wp2
    have d0 := b0.kept (grownBy_putObj' _ (z + 4) (.deferred none)) (by simp)
    have d1 := b1.kept (grownBy_putObj' _ (z + 4) (.deferred none)) (by simp)
    have hbl := hb.grown (grownBy_putObj' _ (z + 4) (.deferred none)) (by have := hb.size; omega) (fun k e => by cases e; omega)
    refine ⟨by simp, .inl ⟨_, _, rfl, run_takeDeferred hd, ?_⟩⟩
    refine ⟨.tuple #[.slice none 0 0, .int .i64 e], ?_, .slice none 0 0, ?_, ?_, ?_⟩
    · have e0 := d0.cell; have e1 := d1.cell
      simp [results, Try.f10, go_sem, e0, e1]
    · rw [hfin.out]
    · rw [hfin.out]; exact World.ownsRow_nil _ _ _ _
    · rw [← HZ.out]; exact hbl
end Go.Proofs.Ytimfngfimnapoaa
