/- The iterator of the layer csp over the names of a value: two ranges over functions, one in the other, and a yield. Conditions: the value's length is bounded. -/
import Derived.Test.YtjbciamhhfcdoaaGreatDoorSub34
import Derived.Test.YtjbciamhhfcdoaaGreatDoorSub15
import Derived.Test.YtjbciamhhfcdoaaGreatDoorSub35
namespace Go.Proofs.YtjbciamhhfcdoaaGreatDoor
open Go.RowKit Go.Shelf Hs
set_option linter.unusedSimpArgs false
set_option linter.unusedVariables false

attribute [local go_sem] Oper.semAt_some

theorem f_directives (s : ByteArray) (w : World) : Calls Tryz.prog 85 #[.string s] w fun e w' => e = .returned (.func (.func 138) #[] #[.pointer (some ⟨w.heap.size, 0, none⟩)]) ∧ w' = w.alloc (.cells #[.string s] 9) := by
  go_enter Tryz.func85, Tryz.ntmps85
  go_wp2
  go_ret
  exact ⟨rfl, rfl⟩

/-- Between two rounds over the policies. z: the box of yield; z + 4: the block for deferred calls; z + 5: the record. -/
def DInv (J : List Bs → (Nat → Prop) → World → Prop) (z l : Nat) (pre : List Bs) (G : Nat → Prop) (W : World) : Prop :=
  ∃ GJ, J (pre.flatMap headsP) GJ W ∧ (∀ k, G k → GJ k ∧ z + 1 ≤ k ∧ k ≠ z + 4) ∧ GJ z ∧ GJ (z + 4) ∧ GJ (z + 5) ∧ Boxed W z 25 (.func (.yield l) #[] #[]) ∧ W.heap[z + 4]? = some (.deferred (some []))
def DOut (Jx : List Bs → (Nat → Prop) → World → Prop) (z : Nat) (NS : List Bs) (c : Code) (pre : List Bs) (G : Nat → Prop) (W : World) : Prop :=
  c = .ret ∧ ∃ GJ q, Jx q GJ W ∧ q <+: NS ∧ (∀ k, G k → GJ k ∧ z + 1 ≤ k ∧ k ≠ z + 4) ∧ GJ (z + 4) ∧ GJ (z + 5) ∧ W.heap[z + 4]? = some (.deferred (some []))
theorem DInv.turn {J : List Bs → (Nat → Prop) → World → Prop} {z l : Nat} {pre : List Bs} {G : Nat → Prop} {A B : World} {row : Option Nat} (h : DInv J z l pre G A) (hJ : AbidesG J) (hg : A.grownBy B row) (hr : ∀ r, row = some r → G r ∨ r = z + 5) : DInv J z l pre G B := by
  obtain ⟨GJ, h1, h2, h3, h4, h5, h6, h7⟩ := h
  have ne : ∀ j, j = z ∨ j = z + 4 → some j ≠ row := fun j hj e => by
    rcases hr j e.symm with h | h
    · have := h2 j h; omega
    · omega
  exact ⟨GJ, hJ.turn _ _ _ _ _ h1 hg (fun r e => (hr r e).elim (fun h => (h2 r h).1) (fun h => h ▸ h5)), h2, h3, h4, h5, h6.kept hg (ne _ (.inl rfl)), (hg.block _ (Array.getElem?_eq_some_iff.1 h7).1 (ne _ (.inr rfl))).trans h7⟩
theorem DInv.lay {J : List Bs → (Nat → Prop) → World → Prop} {z l : Nat} {pre : List Bs} {G : Nat → Prop} {A B : World} (h : DInv J z l pre G A) (hJ : AbidesG J) (hg : A.grownBy B none) : DInv J z l pre (fun k => G k ∨ (A.heap.size ≤ k ∧ k < B.heap.size)) B := by
  obtain ⟨GJ, h1, h2, h3, h4, h5, h6, h7⟩ := h
  have hlt := (Array.getElem?_eq_some_iff.1 h7).1
  exact ⟨_, hJ.lay _ _ _ _ h1 hg, fun k hk => hk.elim (fun h => ⟨.inl (h2 k h).1, (h2 k h).2⟩) (fun h => ⟨.inr h, by omega, by omega⟩), .inl h3, .inl h4, .inl h5, h6.kept hg (by simp), (hg.block _ hlt (by simp)).trans h7⟩
theorem DOut.turn {Jx : List Bs → (Nat → Prop) → World → Prop} {z : Nat} {NS : List Bs} {c : Code} {pre : List Bs} {G : Nat → Prop} {A B : World} {row : Option Nat} (h : DOut Jx z NS c pre G A) (hJ : AbidesG Jx) (hg : A.grownBy B row) (hr : ∀ r, row = some r → G r ∨ r = z + 5) : DOut Jx z NS c pre G B := by
  obtain ⟨hc, GJ, q, h1, hq, h2, h4, h5, h7⟩ := h
  have ne : some (z + 4) ≠ row := fun e => by
    rcases hr _ e.symm with h | h
    · have := h2 _ h; omega
    · omega
  exact ⟨hc, GJ, q, hJ.turn _ _ _ _ _ h1 hg (fun r e => (hr r e).elim (fun h => (h2 r h).1) (fun h => h ▸ h5)), hq, h2, h4, h5, (hg.block _ (Array.getElem?_eq_some_iff.1 h7).1 ne).trans h7⟩
theorem DOut.lay {Jx : List Bs → (Nat → Prop) → World → Prop} {z : Nat} {NS : List Bs} {c : Code} {pre : List Bs} {G : Nat → Prop} {A B : World} (h : DOut Jx z NS c pre G A) (hJ : AbidesG Jx) (hg : A.grownBy B none) : DOut Jx z NS c pre (fun k => G k ∨ (A.heap.size ≤ k ∧ k < B.heap.size)) B := by
  obtain ⟨hc, GJ, q, h1, hq, h2, h4, h5, h7⟩ := h
  have hlt := (Array.getElem?_eq_some_iff.1 h7).1
  exact ⟨hc, _, q, hJ.lay _ _ _ _ h1 hg, hq, fun k hk => hk.elim (fun h => ⟨.inl (h2 k h).1, (h2 k h).2⟩) (fun h => ⟨.inr h, by omega, by omega⟩), .inl h4, .inl h5, (hg.block _ hlt (by simp)).trans h7⟩

/-- Between two rounds over the directives of a policy. Wb: the world where that loop begins (behind the making of its iterator: Wy before it); GJ: the blocks of the outer iterator. -/
def EInv (J : List Bs → (Nat → Prop) → World → Prop) (n₀ : Nat) (Wy : World) (GJ : Nat → Prop) (P0 : List Bs) (pre : List Bs) (G : Nat → Prop) (W : World) : Prop :=
  ∃ GK, J (P0 ++ pre.flatMap headN) GK W ∧ (∀ k, GJ k → GK k) ∧ (∀ k, G k → GK k ∧ Wy.heap.size ≤ k) ∧ GK (Wy.heap.size + 3) ∧ Keeps (fun k => GJ k ∨ k < n₀) Wy W
def EOut (Jx : List Bs → (Nat → Prop) → World → Prop) (n₀ : Nat) (Wy : World) (GJ : Nat → Prop) (NS : List Bs) (c : Code) (pre : List Bs) (G : Nat → Prop) (W : World) : Prop :=
  c = .ret ∧ ∃ GK q, Jx q GK W ∧ q <+: NS ∧ (∀ k, GJ k → GK k) ∧ (∀ k, G k → GK k ∧ Wy.heap.size ≤ k) ∧ GK (Wy.heap.size + 3) ∧ Keeps (fun k => GJ k ∨ k < n₀) Wy W
theorem EInv.turn {J : List Bs → (Nat → Prop) → World → Prop} {n₀ : Nat} {Wy : World} {GJ : Nat → Prop} {P0 pre : List Bs} {G : Nat → Prop} {A B : World} {row : Option Nat} (h : EInv J n₀ Wy GJ P0 pre G A) (hJ : AbidesG J) (hg : A.grownBy B row) (hr : ∀ r, row = some r → G r ∨ r = Wy.heap.size + 3) : EInv J n₀ Wy GJ P0 pre G B := by
  obtain ⟨GK, h1, h2, h3, h4, h5⟩ := h
  exact ⟨GK, hJ.turn _ _ _ _ _ h1 hg (fun r e => (hr r e).elim (fun h => (h3 r h).1) (fun h => h ▸ h4)), h2, h3, h4, h5.grown hg (fun r e => (hr r e).elim (fun h => (h3 r h).2) (fun h => by omega))⟩
theorem EInv.lay {J : List Bs → (Nat → Prop) → World → Prop} {n₀ : Nat} {Wy : World} {GJ : Nat → Prop} {P0 pre : List Bs} {G : Nat → Prop} {A B : World} (h : EInv J n₀ Wy GJ P0 pre G A) (hJ : AbidesG J) (hg : A.grownBy B none) : EInv J n₀ Wy GJ P0 pre (fun k => G k ∨ (A.heap.size ≤ k ∧ k < B.heap.size)) B := by
  obtain ⟨GK, h1, h2, h3, h4, h5⟩ := h
  have hs := h5.size
  exact ⟨_, hJ.lay _ _ _ _ h1 hg, fun k h => .inl (h2 k h), fun k hk => hk.elim (fun h => ⟨.inl (h3 k h).1, (h3 k h).2⟩) (fun h => ⟨.inr h, by omega⟩), .inl h4, h5.grown hg (fun r e => by cases e)⟩
theorem EOut.turn {Jx : List Bs → (Nat → Prop) → World → Prop} {n₀ : Nat} {Wy : World} {GJ : Nat → Prop} {NS : List Bs} {c : Code} {pre : List Bs} {G : Nat → Prop} {A B : World} {row : Option Nat} (h : EOut Jx n₀ Wy GJ NS c pre G A) (hJ : AbidesG Jx) (hg : A.grownBy B row) (hr : ∀ r, row = some r → G r ∨ r = Wy.heap.size + 3) : EOut Jx n₀ Wy GJ NS c pre G B := by
  obtain ⟨hc, GK, q, h1, hq, h2, h3, h4, h5⟩ := h
  exact ⟨hc, GK, q, hJ.turn _ _ _ _ _ h1 hg (fun r e => (hr r e).elim (fun h => (h3 r h).1) (fun h => h ▸ h4)), hq, h2, h3, h4, h5.grown hg (fun r e => (hr r e).elim (fun h => (h3 r h).2) (fun h => by omega))⟩
theorem EOut.lay {Jx : List Bs → (Nat → Prop) → World → Prop} {n₀ : Nat} {Wy : World} {GJ : Nat → Prop} {NS : List Bs} {c : Code} {pre : List Bs} {G : Nat → Prop} {A B : World} (h : EOut Jx n₀ Wy GJ NS c pre G A) (hJ : AbidesG Jx) (hg : A.grownBy B none) : EOut Jx n₀ Wy GJ NS c pre (fun k => G k ∨ (A.heap.size ≤ k ∧ k < B.heap.size)) B := by
  obtain ⟨hc, GK, q, h1, hq, h2, h3, h4, h5⟩ := h
  have hs := h5.size
  exact ⟨hc, _, q, hJ.lay _ _ _ _ h1 hg, hq, fun k h => .inl (h2 k h), fun k hk => hk.elim (fun h => ⟨.inl (h3 k h).1, (h3 k h).2⟩) (fun h => ⟨.inr h, by omega⟩), .inl h4, h5.grown hg (fun r e => by cases e)⟩

set_option maxRecDepth 100000 in
set_option maxHeartbeats 2000000 in
theorem dirs_seq (c n₀ : Nat) (s : ByteArray) (w : World) (hb : Boxed w c 9 (.string s)) (hs : s.size ≤ 100000) (hn₀ : n₀ ≤ w.heap.size) :
    Seq Fence.wide 8 Tryz.prog 138 #[.pointer (some ⟨c, 0, none⟩)] (fun x : Bs => #[.string (mk x)]) (fun k => k = c) n₀ (fun xs => xs = headsV (un s)) (fun pre => pre <+: headsV (un s)) w := fun l J Jx W hW hJ hJx hY h0 => by
  have hB0 : Boxed W c 9 (.string s) := (hW.block c hb.lt).trans hb
  have hWs := hW.size
  have e1 := (hB0.alloc (.cells #[.func (.yield l) #[] #[]] 25)).cell
  refine callsIn_of_wp_marks Tryz.func138 rfl trivial ?_ rfl
  simp only [Tryz.ntmps138, List.size_toArray, List.length_cons, List.length_nil, Nat.reduceAdd, Nat.reduceSub, Array.replicate_succ, Array.replicate_zero, List.push_toArray, List.append_toArray, List.nil_append, List.cons_append]
  gi_wp2
  refine ⟨trivial, ?_⟩
  refine (callsIn_wide.2 (f_splitSeq s 44 _)).mono ?_
  rintro e w1 ⟨rfl, rfl⟩
  gi_wp2
  obtain ⟨W5, hW5⟩ : ∃ W5, W5 = splitW (W.alloc (.cells #[.func (.yield l) #[] #[]] 25)) s 44 := ⟨_, rfl⟩
  have hS5 : W5.heap.size = W.heap.size + 4 := by rw [hW5, splitW_size]; simp
  have hB5 : Below W.heap.size W W5 := by rw [hW5]; exact ((Below.refl _ W).alloc (Nat.le_refl _) _).trans ((splitW_below _ _ _).mono (by simp))
  have cz : Boxed W5 W.heap.size 25 (.func (.yield l) #[] #[]) := by
    rw [hW5]
    have h1 := Boxed.new W 25 (.func (.yield l) #[] #[])
    exact ((splitW_below (W.alloc (.cells #[.func (.yield l) #[] #[]] 25)) s 44).block _ (by simp)).trans h1
  have ct := splitW_t (W.alloc (.cells #[.func (.yield l) #[] #[]] 25)) s 44
  have cs := splitW_s (W.alloc (.cells #[.func (.yield l) #[] #[]] 25)) s 44
  have co := splitW_z (W.alloc (.cells #[.func (.yield l) #[] #[]] 25)) s 44
  simp only [World.size_alloc] at ct cs co
  rw [← hW5] at ct cs co ⊢
  clear hW5 e1
  obtain ⟨z, hz⟩ : ∃ z, z = W.heap.size := ⟨_, rfl⟩
  simp only [← hz] at hS5 hB5 cz ct cs co ⊢
  have hnz : n₀ ≤ z := by omega
  have HZ := Lib.hid hz
  clear hz
  rw [show z + 1 + 1 = z + 2 from rfl] at cs
  rw [show z + 1 + 2 = z + 3 from rfl] at co
  rw [show z + 1 + 2 = z + 3 from rfl, show z + 1 + 1 = z + 2 from rfl]
  have hent := fun (a : Act) ps asg bd => enter_outer (F := Fence.wide) (P := Tryz.prog) rfl W5 a ps asg bd
  rw [hS5] at hent
  have hmix : Tryz.prog.follows .mixedOrders = true := by kernel_rfl
  have hYA : ∀ (m : Nat) (pre : List Bs) (x : Bs) (G : Nat → Prop) (W1 : World), J pre G W1 → pre ++ [x] <+: headsV (un s) → YieldAt Fence.wide m Tryz.prog l #[.string (mk x)] W1 fun e W' => (e = .returned (.bool true) ∧ J (pre ++ [x]) G W' ∧ Keeps (fun k => G k ∨ k < n₀) W1 W') ∨ (e = .returned (.bool false) ∧ Jx (pre ++ [x]) G W' ∧ Keeps (fun k => G k ∨ k < n₀) W1 W') :=
    fun m pre x G W1 h1 h2 => YieldAt.anyDepth rfl m (hY pre x G W1 h1 h2)
  have HYA := Lib.hid hYA
  clear hY hYA
  refine range_law (w₁ := W5.alloc (.deferred (some []))) (L := z + 5) (by omega) (by simp; omega) (hent _ _ _ _) (gf := 180) (lb := #[.pointer (some ⟨z + 2, 0, none⟩), .pointer (some ⟨z + 1, 0, none⟩), .pointer (some ⟨z + 3, 0, none⟩)]) rfl trivial (enters_of Tryz.func180 (by kernel_rfl) rfl)
    (split_seq 7 (z + 2) (z + 1) (z + 3) n₀ 44 s W5 (by omega) cs ct co (by omega) (by omega) (by omega)) ((Below.refl _ W5).alloc (Nat.le_refl _) _) (fun _ => rfl) (by omega) (by omega)
    (DInv J z l) (DOut Jx z (headsV (un s))) (fun _ _ _ _ _ h hg hr => h.turn hJ hg hr) (fun _ _ _ _ h hg => h.lay hJ hg) (fun _ _ _ _ _ _ h hg hr => h.turn hJx hg hr) (fun _ _ _ _ _ h hg => h.lay hJx hg) ?start
    (fun x a' W' => a' = { tmps := #[.func (.yield l) #[] #[], .pointer (some ⟨c, 0, none⟩), .pointer (some ⟨z, 0, none⟩), .string (mk x), undef, undef, .string s, (.func (.func 180) #[] #[.pointer (some ⟨z + 2, 0, none⟩), .pointer (some ⟨z + 1, 0, none⟩), .pointer (some ⟨z + 3, 0, none⟩)]), .string (mk x), undef, undef, undef, undef, undef, undef, undef, undef, undef, undef, undef, undef, undef, undef, undef, undef, undef], defers := [] }) (fun _ _ _ _ _ h _ _ => h) ?assign ?body ?done ?stop
  case start =>
    intro o
    have hg : W.grownBy ((W5.alloc (.deferred (some []))).alloc o) none := grown_of_below (by rw [← HZ.out]; exact (hB5.alloc (by omega) _).alloc (by simp; omega) _)
    have hd := World.alloc_heap_new W5 (.deferred (some []))
    rw [hS5] at hd
    have hsz : ((W5.alloc (.deferred (some []))).alloc o).heap.size = z + 6 := by simp [hS5]
    have hzW := Nat.le_of_eq HZ.out
    have hWz := Nat.le_of_eq HZ.out.symm
    refine ⟨_, hJ.lay _ _ _ _ h0 hg, ?_, .inr (by omega), .inr (by omega), .inr (by omega), (cz.alloc _).alloc _, (Below.heap_alloc _ o _ (by simp; omega)).trans hd⟩
    rintro k (rfl | rfl | rfl) <;> exact ⟨.inr (by omega), by omega, by omega⟩
  case assign =>
    intro pre x G W' K hI hsp hK
    gi_wp2
    exact hK _ _ rfl (Keeps.refl _ _) hI rfl
  case body =>
    rintro pre p G a' Wy ⟨r0, hr0⟩ hI rfl ⟨post, hpost⟩
    have hpl : p.length ≤ 100000 := by
      have := splitD_len 44 (un s) p (by rw [← hpost]; simp)
      rw [length_un] at this; omega
    obtain ⟨GJ, j1, j2, j3, j4, j5, j6, j7⟩ := hI
    have hzy : z + 5 < Wy.heap.size := (Array.getElem?_eq_some_iff.1 hr0).1
    gi_wp2
    refine ⟨trivial, ?_⟩
    refine (CallsIn.inRound _ (callsIn_wide.2 (f_splitSeq (mk p) 59 _))).mono ?_
    rintro e w1 ⟨rfl, rfl⟩
    gi_wp2
    have cy := splitW_t Wy (mk p) 59
    have cys := splitW_s Wy (mk p) 59
    have cyo := splitW_z Wy (mk p) 59
    have hBy := splitW_below Wy (mk p) 59
    have hSy := splitW_size Wy (mk p) 59
    generalize splitW Wy (mk p) 59 = W6 at *
    have hrec : W6.heap[z + 5]? = some (.loop r0) := (hBy.block _ hzy).trans hr0
    have hent2 := fun (a : Act) ps asg bd => enter_inner (F := Fence.wide.inRound (z + 5)) (P := Tryz.prog) rfl W6 hrec a ps asg bd
    rw [hSy] at hent2
    refine range_law (F := Fence.wide.inRound (z + 5)) (w₁ := W6) (L := Wy.heap.size + 3) (by omega) hSy.symm (hent2 _ _ _ _) (gf := 180) (lb := #[.pointer (some ⟨Wy.heap.size + 1, 0, none⟩), .pointer (some ⟨Wy.heap.size, 0, none⟩), .pointer (some ⟨Wy.heap.size + 2, 0, none⟩)]) rfl trivial (enters_of Tryz.func180 (by kernel_rfl) rfl)
      (Seq.inRound _ (split_seq 5 (Wy.heap.size + 1) Wy.heap.size (Wy.heap.size + 2) n₀ 59 (mk p) W6 (by omega) cys cy cyo (by omega) (by omega) (by rw [size_mk]; omega))) (Below.refl _ W6) (fun _ => rfl) (by omega) (by omega)
      (EInv J n₀ Wy GJ (pre.flatMap headsP)) (EOut Jx n₀ Wy GJ (headsV (un s))) (fun _ _ _ _ _ h hg hr => h.turn hJ hg hr) (fun _ _ _ _ h hg => h.lay hJ hg) (fun _ _ _ _ _ _ h hg hr => h.turn hJx hg hr) (fun _ _ _ _ _ h hg => h.lay hJx hg) ?start2
      (fun x a' W' => a' = { tmps := #[.func (.yield l) #[] #[], .pointer (some ⟨c, 0, none⟩), .pointer (some ⟨z, 0, none⟩), .string (mk p), .string (mk x), undef, .string s, (.func (.func 180) #[] #[.pointer (some ⟨z + 2, 0, none⟩), .pointer (some ⟨z + 1, 0, none⟩), .pointer (some ⟨z + 3, 0, none⟩)]), .string (mk p), .string (mk p), (.func (.func 180) #[] #[.pointer (some ⟨Wy.heap.size + 1, 0, none⟩), .pointer (some ⟨Wy.heap.size, 0, none⟩), .pointer (some ⟨Wy.heap.size + 2, 0, none⟩)]), .string (mk x), undef, undef, undef, undef, undef, undef, undef, undef, undef, undef, undef, undef, undef, undef], defers := [] }) (fun _ _ _ _ _ h _ _ => h) ?assign2 ?body2 ?done2 ?stop2
    case start2 =>
      intro o
      have hg : Wy.grownBy (W6.alloc o) none := grown_of_below (hBy.alloc (by omega) _)
      have hsz : (W6.alloc o).heap.size = Wy.heap.size + 4 := by simp [hSy]
      refine ⟨(fun k => GJ k ∨ (Wy.heap.size ≤ k ∧ k < (W6.alloc o).heap.size)), by simpa using hJ.lay _ _ _ _ j1 hg, fun k h => Or.inl h, ?_, Or.inr (by omega), Keeps.of_grown hg (fun r e => by cases e)⟩
      rintro k (rfl | rfl | rfl) <;> exact ⟨Or.inr (by omega), by omega⟩
    case assign2 =>
      intro pre2 x G2 W' K hI hsp hK
      gi_wp2
      exact hK _ _ rfl (Keeps.refl _ _) hI rfl
    case body2 =>
      rintro pre2 d G2 a' W2 ⟨r2, hr2⟩ hI2 rfl ⟨post2, hpost2⟩
      have hBy2 : Boxed W2 z 25 (.func (.yield l) #[] #[]) := by obtain ⟨_, _, _, _, _, k5⟩ := hI2; exact (k5.block z (by omega) (.inl j3)).trans j6
      have hdl : d.length ≤ 100000 := by
        have := splitD_len 59 (un (mk p)) d (by rw [← hpost2]; simp)
        rw [un_mk] at this; omega
      rw [un_mk] at hpost2
      have hpre := Lib.hid (heads_prefix (un s) pre post p pre2 post2 d)
      have HP1 := Lib.hid hpost
      have HP2 := Lib.hid hpost2
      clear hpost hpost2
      have hword := ascii_words (mk d) W2 (by rw [size_mk]; omega)
      rw [un_mk] at hword
      have hy3 : Wy.heap.size + 3 < W2.heap.size := (Array.getElem?_eq_some_iff.1 hr2).1
      have hhd : ∀ (x : Bs) (r : List Bs), words d = x :: r → headN d = [lower x] ∧ x.length ≤ d.length := fun x r e => ⟨by unfold headN; rw [e], (words_mem d x (by rw [e]; simp)).2.2⟩
      have hhn : words d = [] → headN d = [] := fun e => by unfold headN; rw [e]
      have HHD := Lib.hid hhd
      have HHN := Lib.hid hhn
      clear hhd hhn
      gi_wp2
      refine ⟨trivial, ?_⟩
      refine (CallsIn.inRound _ (CallsIn.inRound _ (callsIn_wide.2 hword))).mono ?_
      rintro e w1 ⟨v1, rfl, hown, hlen, hb1⟩
      have hI3 := hI2.turn hJ (grown_of_below hb1) (fun r e => by cases e)
      have hL3 : w1.heap[Wy.heap.size + 3]? = W2.heap[Wy.heap.size + 3]? := hb1.block _ hy3
      have hb1s := hb1.size
      have hBy3 : Boxed w1 z 25 (.func (.yield l) #[] #[]) := hBy2.kept (grown_of_below hb1) (by simp)
      have hK1 : Keeps (fun k => G2 k ∨ k < n₀) W2 w1 := Keeps.of_grown (grown_of_below hb1) (fun r e => by cases e)
      clear hI2 hword hBy2 hb1
      obtain ⟨a1, c1, rfl, h2, h3, h4⟩ := (Row.owned hown).2
      clear hown hlen
      cases hwd : words d with
      | nil =>
        have hhn := HHN.out hwd
        simp only [List.length_nil] at h2 h3 h4 ⊢
        clear hwd h4
        gi_wp2
        refine wpIn_region_round (F := Fence.wide) rfl hmix (by kernel_rfl) ?_
        refine wpAnyIn_take (i := 0) (v := .slice a1 0 c1) rfl rfl (by kernel_rfl) (by kernel_rfl) (by kernel_rfl) (fun _ _ _ h => h) ⟨Or.inl ⟨by rfl, by intro w; go_simp⟩, fun _ => rfl⟩ ?_
        refine wpAnyIn_take (i := 1) (v := .int .i64 0) rfl rfl (by kernel_rfl) (by kernel_rfl) (by kernel_rfl) (fun _ _ _ h => h) ⟨Or.inl ⟨by rfl, by intro w; go_simp⟩, fun _ => rfl⟩ ?_
        refine wpAnyIn_take (i := 2) (v := .bool false) rfl rfl (by kernel_rfl) (by kernel_rfl) (by kernel_rfl) (fun _ _ _ h => h) ⟨Or.inl ⟨by rfl, by intro w; go_simp⟩, fun _ => rfl⟩ ?_
        refine wpAnyIn_take (i := 3) (v := .bool false) rfl rfl (by kernel_rfl) (by kernel_rfl) (by kernel_rfl) (fun _ _ _ h => h) ⟨Or.inl ⟨by rfl, by intro w; go_simp⟩, fun _ => rfl⟩ ?_
        refine wpAnyIn_take (i := 4) (v := undef) rfl rfl (by kernel_rfl) (by kernel_rfl) (by kernel_rfl) (fun _ _ _ h => h) ⟨Or.inr ⟨by rfl, rfl⟩, fun _ => rfl⟩ ?_
        refine wpAnyIn_take (i := 5) (v := undef) rfl rfl (by kernel_rfl) (by kernel_rfl) (by kernel_rfl) (fun _ _ _ h => h) ⟨Or.inr ⟨by rfl, rfl⟩, fun _ => rfl⟩ ?_
        refine wpAnyIn_take (i := 6) (v := undef) rfl rfl (by kernel_rfl) (by kernel_rfl) (by kernel_rfl) (fun _ _ _ h => h) ⟨Or.inr ⟨by rfl, rfl⟩, fun _ => rfl⟩ ?_
        refine wpAnyIn_take (i := 7) (v := undef) rfl rfl (by kernel_rfl) (by kernel_rfl) (by kernel_rfl) (fun _ _ _ h => h) ⟨Or.inr ⟨by rfl, rfl⟩, fun _ => rfl⟩ ?_
        refine wpAnyIn_ready (rs := [8]) (by kernel_rfl) (by simp) ?_
        refine AllReadyIn.cons rfl (fun K hK => ?_) (AllReadyIn.nil)
        go_simp
        refine ⟨trivial, hK _ _ ?_⟩; clear hK K
        refine wpAnyIn_ready (rs := [9]) (by kernel_rfl) (by simp) ?_
        refine AllReadyIn.cons rfl (fun K hK => ?_) (AllReadyIn.nil)
        go_simp
        refine ⟨fun _ _ => trivial, hK _ _ ?_⟩; clear hK K
        refine wpAnyIn_take (i := 10) (v := undef) rfl rfl (by kernel_rfl) (by kernel_rfl) (by kernel_rfl) (fun _ _ _ h => h) ⟨Or.inr ⟨by rfl, rfl⟩, fun _ => rfl⟩ ?_
        refine wpAnyIn_take (i := 11) (v := .bool false) rfl rfl (by kernel_rfl) (by kernel_rfl) (by kernel_rfl) (fun _ _ _ h => h) ⟨Or.inl ⟨by rfl, by intro w; go_simp⟩, fun _ => rfl⟩ ?_
        refine wpAnyIn_done (by kernel_rfl) ?_ _
        gi_wp2
        exact (show _ ∧ _ ∧ _ from ⟨hL3, hK1.trans (Keeps.of_grown (row := none) (B := w1.drew) ⟨rfl, rfl, rfl, Nat.le_refl _, fun _ _ _ => rfl⟩ (fun r e => by cases e)), by
          have := hI3.turn (row := none) (B := w1.drew) hJ ⟨rfl, rfl, rfl, Nat.le_refl _, fun _ _ _ => rfl⟩ (fun r e => by cases e)
          unfold EInv at this ⊢
          rw [List.flatMap_append, List.flatMap_cons, hhn, List.flatMap_nil, List.append_nil, List.append_nil]
          exact this⟩)
      | cons x rest =>
        obtain ⟨hhd, hxl⟩ := HHD.out x rest hwd
        rw [hwd] at h2 h4
        obtain ⟨b, off, rfl, hbw, hcell⟩ := h4.resolve_left (by simp)
        have c0 := hcell 0 (.string (mk x)) rfl
        rw [Nat.add_zero] at c0
        obtain ⟨nn, hnn⟩ : ∃ nn, nn = (x :: rest).length := ⟨_, rfl⟩
        have hnn1 : 0 < nn := by rw [hnn]; simp
        rw [← hnn] at h2 ⊢
        clear hcell hwd hnn h4
        have hlow := fun W => ascii_lower (mk x) W (by rw [size_mk]; omega)
        simp only [un_mk] at hlow
        have HLOW := Lib.hid hlow
        clear hlow
        have hn1 : (0 : Int) < (nn : Int) := by omega
        have HPRE := Lib.hid (hpre.out (lower x) HP1.out HP2.out hhd)
        have HE1 : Hid ((pre.flatMap headsP ++ pre2.flatMap headN) ++ [lower x] = pre.flatMap headsP ++ (pre2 ++ [d]).flatMap headN) := Lib.hid (by simp [hhd])
        clear hhd hpre
        have ez := hBy3.cell
        gi_wp2
        refine wpIn_region_round (F := Fence.wide) rfl hmix (by kernel_rfl) ?_
        refine wpAnyIn_take (i := 0) (v := .slice (some ⟨b, off, none⟩) nn c1) rfl rfl (by kernel_rfl) (by kernel_rfl) (by kernel_rfl) (fun _ _ _ h => h) ⟨Or.inl ⟨by rfl, by intro w; go_simp; all_goals (try (rw [IntKind.wrap_i64]; omega))⟩, fun _ => rfl⟩ ?_
        refine wpAnyIn_take (i := 1) (v := .int .i64 (nn : Int)) rfl rfl (by kernel_rfl) (by kernel_rfl) (by kernel_rfl) (fun _ _ _ h => h) ⟨Or.inl ⟨by rfl, by intro w; go_simp; all_goals (try (rw [IntKind.wrap_i64]; omega))⟩, fun _ => rfl⟩ ?_
        refine wpAnyIn_take (i := 2) (v := .bool true) rfl rfl (by kernel_rfl) (by kernel_rfl) (by kernel_rfl) (fun _ _ _ h => h) ⟨Or.inl ⟨by rfl, by intro w; go_simp; all_goals (try (rw [IntKind.wrap_i64]; omega))⟩, fun _ => rfl⟩ ?_
        refine wpAnyIn_take (i := 3) (v := .bool true) rfl rfl (by kernel_rfl) (by kernel_rfl) (by kernel_rfl) (fun _ _ _ h => h) ⟨Or.inl ⟨by rfl, by intro w; go_simp; all_goals (try (rw [IntKind.wrap_i64]; omega))⟩, fun _ => rfl⟩ ?_
        refine wpAnyIn_take (i := 5) (v := .slice (some ⟨b, off, none⟩) nn c1) rfl rfl (by kernel_rfl) (by kernel_rfl) (by kernel_rfl) (fun _ _ _ h => h) ⟨Or.inl ⟨by rfl, by intro w; go_simp; all_goals (try (rw [IntKind.wrap_i64]; omega))⟩, fun _ => rfl⟩ ?_
        refine wpAnyIn_take (i := 6) (v := .pointer (some ⟨b, off, none⟩)) rfl rfl (by kernel_rfl) (by kernel_rfl) (by kernel_rfl) (fun _ _ _ h => h) ⟨Or.inl ⟨by rfl, by intro w; go_simp; all_goals (try (rw [IntKind.wrap_i64]; omega))⟩, fun _ => rfl⟩ ?_
        refine wpAnyIn_ready (rs := [4, 7]) (by kernel_rfl) (by simp) ?_
        refine AllReadyIn.cons rfl (fun K hK => ?_) (AllReadyIn.cons rfl (fun K hK => ?_) AllReadyIn.nil)
        · go_simp
          refine hK _ _ ?_; clear hK K
          refine wpAnyIn_ready (rs := [7]) (by kernel_rfl) (by simp) ?_
          refine AllReadyIn.cons rfl (fun K hK => ?_) AllReadyIn.nil
          go_simp
          refine hK _ _ ?_; clear hK K
          refine wpAnyIn_ready (rs := [8]) (by kernel_rfl) (by simp) ?_
          refine AllReadyIn.cons rfl (fun K hK => ?_) AllReadyIn.nil
          go_simp
          refine ⟨trivial, ?_⟩
          refine (callsIn_wide.2 (HLOW.out _)).mono ?_
          rintro e w2 ⟨rfl, hb2⟩
          have hg2 : w1.grownBy w2 none := ⟨hb2.os, hb2.tape, hb2.output, hb2.size, fun k hk _ => hb2.block k hk⟩
          have hI4 := hI3.turn hJ hg2 (fun r e => by cases e)
          have hL4 : w2.heap[Wy.heap.size + 3]? = W2.heap[Wy.heap.size + 3]? := (hg2.block _ (by omega) (by simp)).trans hL3
          have hb2s : w1.heap.size ≤ w2.heap.size := hg2.size
          have hK2 : Keeps (fun k => G2 k ∨ k < n₀) W2 w2 := hK1.trans (Keeps.of_grown hg2 (fun r e => by cases e))
          have ez2 := (hBy3.kept hg2 (by simp)).cell
          obtain ⟨GK, k1, k2, k3, k4, k5⟩ := hI4
          obtain ⟨fn, tmps, assign, body, hy, hR⟩ := HYA.out (8 - 1 - 1 - 1 - 1 - 1) _ (lower x) GK w2 k1 HPRE.out
          refine hK _ _ ?_; clear hK K
          refine wpAnyIn_ready (rs := [9]) (by kernel_rfl) (by simp) ?_
          refine AllReadyIn.cons rfl (fun K hK => ?_) AllReadyIn.nil
          go_simp
          refine hR.mono ?_
          rintro e W3 (⟨rfl, hJ3, hk3⟩ | ⟨rfl, hJx3, hk3⟩)
          · refine hK _ _ ?_; clear hK K
            refine wpAnyIn_take (i := 10) (v := .bool false) rfl rfl (by kernel_rfl) (by kernel_rfl) (by kernel_rfl) (fun _ _ _ h => h) ⟨Or.inl ⟨by rfl, by intro w; go_simp; all_goals (try (rw [IntKind.wrap_i64]; omega))⟩, fun _ => rfl⟩ ?_
            refine wpAnyIn_take (i := 11) (v := .bool false) rfl rfl (by kernel_rfl) (by kernel_rfl) (by kernel_rfl) (fun _ _ _ h => h) ⟨Or.inl ⟨by rfl, by intro w; go_simp; all_goals (try (rw [IntKind.wrap_i64]; omega))⟩, fun _ => rfl⟩ ?_
            refine wpAnyIn_done (by kernel_rfl) ?_ _
            gi_wp2
            exact (show _ ∧ _ ∧ _ from ⟨(hk3.block (Wy.heap.size + 3) (by omega) (.inl k4)).trans hL4, hK2.trans (hk3.mono (fun k h => h.imp (fun h => (k3 k h).1) id)), GK, HE1.out ▸ hJ3, k2, k3, k4, k5.trans (hk3.mono (fun k h => h.imp (k2 k) id))⟩)
          · refine hK _ _ ?_; clear hK K
            refine wpAnyIn_take (i := 10) (v := .bool true) rfl rfl (by kernel_rfl) (by kernel_rfl) (by kernel_rfl) (fun _ _ _ h => h) ⟨Or.inl ⟨by rfl, by intro w; go_simp; all_goals (try (rw [IntKind.wrap_i64]; omega))⟩, fun _ => rfl⟩ ?_
            refine wpAnyIn_take (i := 11) (v := .bool true) rfl rfl (by kernel_rfl) (by kernel_rfl) (by kernel_rfl) (fun _ _ _ h => h) ⟨Or.inl ⟨by rfl, by intro w; go_simp; all_goals (try (rw [IntKind.wrap_i64]; omega))⟩, fun _ => rfl⟩ ?_
            refine wpAnyIn_done (by kernel_rfl) ?_ _
            gi_wp2
            exact (show _ ∧ _ ∧ _ from ⟨(hk3.block (Wy.heap.size + 3) (by omega) (.inl k4)).trans hL4, hK2.trans (hk3.mono (fun k h => h.imp (fun h => (k3 k h).1) id)), rfl, GK, _, hJx3, HPRE.out, k2, k3, k4, k5.trans (hk3.mono (fun k h => h.imp (k2 k) id))⟩)
        · go_simp
          refine hK _ _ ?_; clear hK K
          refine wpAnyIn_ready (rs := [4, 8]) (by kernel_rfl) (by simp) ?_
          refine AllReadyIn.cons rfl (fun K hK => ?_) (AllReadyIn.cons rfl (fun K hK => ?_) AllReadyIn.nil)
          · go_simp
            refine hK _ _ ?_; clear hK K
            refine wpAnyIn_ready (rs := [8]) (by kernel_rfl) (by simp) ?_
            refine AllReadyIn.cons rfl (fun K hK => ?_) AllReadyIn.nil
            go_simp
            refine ⟨trivial, ?_⟩
            refine (callsIn_wide.2 (HLOW.out _)).mono ?_
            rintro e w2 ⟨rfl, hb2⟩
            have hg2 : w1.grownBy w2 none := ⟨hb2.os, hb2.tape, hb2.output, hb2.size, fun k hk _ => hb2.block k hk⟩
            have hI4 := hI3.turn hJ hg2 (fun r e => by cases e)
            have hL4 : w2.heap[Wy.heap.size + 3]? = W2.heap[Wy.heap.size + 3]? := (hg2.block _ (by omega) (by simp)).trans hL3
            have hb2s : w1.heap.size ≤ w2.heap.size := hg2.size
            have hK2 : Keeps (fun k => G2 k ∨ k < n₀) W2 w2 := hK1.trans (Keeps.of_grown hg2 (fun r e => by cases e))
            have ez2 := (hBy3.kept hg2 (by simp)).cell
            obtain ⟨GK, k1, k2, k3, k4, k5⟩ := hI4
            obtain ⟨fn, tmps, assign, body, hy, hR⟩ := HYA.out (8 - 1 - 1 - 1 - 1 - 1) _ (lower x) GK w2 k1 HPRE.out
            refine hK _ _ ?_; clear hK K
            refine wpAnyIn_ready (rs := [9]) (by kernel_rfl) (by simp) ?_
            refine AllReadyIn.cons rfl (fun K hK => ?_) AllReadyIn.nil
            go_simp
            refine hR.mono ?_
            rintro e W3 (⟨rfl, hJ3, hk3⟩ | ⟨rfl, hJx3, hk3⟩)
            · refine hK _ _ ?_; clear hK K
              refine wpAnyIn_take (i := 10) (v := .bool false) rfl rfl (by kernel_rfl) (by kernel_rfl) (by kernel_rfl) (fun _ _ _ h => h) ⟨Or.inl ⟨by rfl, by intro w; go_simp; all_goals (try (rw [IntKind.wrap_i64]; omega))⟩, fun _ => rfl⟩ ?_
              refine wpAnyIn_take (i := 11) (v := .bool false) rfl rfl (by kernel_rfl) (by kernel_rfl) (by kernel_rfl) (fun _ _ _ h => h) ⟨Or.inl ⟨by rfl, by intro w; go_simp; all_goals (try (rw [IntKind.wrap_i64]; omega))⟩, fun _ => rfl⟩ ?_
              refine wpAnyIn_done (by kernel_rfl) ?_ _
              gi_wp2
              exact (show _ ∧ _ ∧ _ from ⟨(hk3.block (Wy.heap.size + 3) (by omega) (.inl k4)).trans hL4, hK2.trans (hk3.mono (fun k h => h.imp (fun h => (k3 k h).1) id)), GK, HE1.out ▸ hJ3, k2, k3, k4, k5.trans (hk3.mono (fun k h => h.imp (k2 k) id))⟩)
            · refine hK _ _ ?_; clear hK K
              refine wpAnyIn_take (i := 10) (v := .bool true) rfl rfl (by kernel_rfl) (by kernel_rfl) (by kernel_rfl) (fun _ _ _ h => h) ⟨Or.inl ⟨by rfl, by intro w; go_simp; all_goals (try (rw [IntKind.wrap_i64]; omega))⟩, fun _ => rfl⟩ ?_
              refine wpAnyIn_take (i := 11) (v := .bool true) rfl rfl (by kernel_rfl) (by kernel_rfl) (by kernel_rfl) (fun _ _ _ h => h) ⟨Or.inl ⟨by rfl, by intro w; go_simp; all_goals (try (rw [IntKind.wrap_i64]; omega))⟩, fun _ => rfl⟩ ?_
              refine wpAnyIn_done (by kernel_rfl) ?_ _
              gi_wp2
              exact (show _ ∧ _ ∧ _ from ⟨(hk3.block (Wy.heap.size + 3) (by omega) (.inl k4)).trans hL4, hK2.trans (hk3.mono (fun k h => h.imp (fun h => (k3 k h).1) id)), rfl, GK, _, hJx3, HPRE.out, k2, k3, k4, k5.trans (hk3.mono (fun k h => h.imp (k2 k) id))⟩)
          · go_simp
            refine ⟨trivial, ?_⟩
            refine (callsIn_wide.2 (HLOW.out _)).mono ?_
            rintro e w2 ⟨rfl, hb2⟩
            have hg2 : w1.grownBy w2 none := ⟨hb2.os, hb2.tape, hb2.output, hb2.size, fun k hk _ => hb2.block k hk⟩
            have hI4 := hI3.turn hJ hg2 (fun r e => by cases e)
            have hL4 : w2.heap[Wy.heap.size + 3]? = W2.heap[Wy.heap.size + 3]? := (hg2.block _ (by omega) (by simp)).trans hL3
            have hb2s : w1.heap.size ≤ w2.heap.size := hg2.size
            have hK2 : Keeps (fun k => G2 k ∨ k < n₀) W2 w2 := hK1.trans (Keeps.of_grown hg2 (fun r e => by cases e))
            have ez2 := (hBy3.kept hg2 (by simp)).cell
            obtain ⟨GK, k1, k2, k3, k4, k5⟩ := hI4
            obtain ⟨fn, tmps, assign, body, hy, hR⟩ := HYA.out (8 - 1 - 1 - 1 - 1 - 1) _ (lower x) GK w2 k1 HPRE.out
            refine hK _ _ ?_; clear hK K
            refine wpAnyIn_ready (rs := [4]) (by kernel_rfl) (by simp) ?_
            refine AllReadyIn.cons rfl (fun K hK => ?_) AllReadyIn.nil
            go_simp
            refine hK _ _ ?_; clear hK K
            refine wpAnyIn_ready (rs := [9]) (by kernel_rfl) (by simp) ?_
            refine AllReadyIn.cons rfl (fun K hK => ?_) AllReadyIn.nil
            go_simp
            refine hR.mono ?_
            rintro e W3 (⟨rfl, hJ3, hk3⟩ | ⟨rfl, hJx3, hk3⟩)
            · refine hK _ _ ?_; clear hK K
              refine wpAnyIn_take (i := 10) (v := .bool false) rfl rfl (by kernel_rfl) (by kernel_rfl) (by kernel_rfl) (fun _ _ _ h => h) ⟨Or.inl ⟨by rfl, by intro w; go_simp; all_goals (try (rw [IntKind.wrap_i64]; omega))⟩, fun _ => rfl⟩ ?_
              refine wpAnyIn_take (i := 11) (v := .bool false) rfl rfl (by kernel_rfl) (by kernel_rfl) (by kernel_rfl) (fun _ _ _ h => h) ⟨Or.inl ⟨by rfl, by intro w; go_simp; all_goals (try (rw [IntKind.wrap_i64]; omega))⟩, fun _ => rfl⟩ ?_
              refine wpAnyIn_done (by kernel_rfl) ?_ _
              gi_wp2
              exact (show _ ∧ _ ∧ _ from ⟨(hk3.block (Wy.heap.size + 3) (by omega) (.inl k4)).trans hL4, hK2.trans (hk3.mono (fun k h => h.imp (fun h => (k3 k h).1) id)), GK, HE1.out ▸ hJ3, k2, k3, k4, k5.trans (hk3.mono (fun k h => h.imp (k2 k) id))⟩)
            · refine hK _ _ ?_; clear hK K
              refine wpAnyIn_take (i := 10) (v := .bool true) rfl rfl (by kernel_rfl) (by kernel_rfl) (by kernel_rfl) (fun _ _ _ h => h) ⟨Or.inl ⟨by rfl, by intro w; go_simp; all_goals (try (rw [IntKind.wrap_i64]; omega))⟩, fun _ => rfl⟩ ?_
              refine wpAnyIn_take (i := 11) (v := .bool true) rfl rfl (by kernel_rfl) (by kernel_rfl) (by kernel_rfl) (fun _ _ _ h => h) ⟨Or.inl ⟨by rfl, by intro w; go_simp; all_goals (try (rw [IntKind.wrap_i64]; omega))⟩, fun _ => rfl⟩ ?_
              refine wpAnyIn_done (by kernel_rfl) ?_ _
              gi_wp2
              exact (show _ ∧ _ ∧ _ from ⟨(hk3.block (Wy.heap.size + 3) (by omega) (.inl k4)).trans hL4, hK2.trans (hk3.mono (fun k h => h.imp (fun h => (k3 k h).1) id)), rfl, GK, _, hJx3, HPRE.out, k2, k3, k4, k5.trans (hk3.mono (fun k h => h.imp (k2 k) id))⟩)
    case done2 =>
      rintro xs G2 W' rfl ⟨GK, k1, k2, k3, k4, k5⟩
      have e1 : (pre ++ [p]).flatMap headsP = pre.flatMap headsP ++ (splitD 59 (un (mk p))).flatMap headN := by rw [un_mk]; simp [headsP]
      rw [← e1] at k1
      clear e1
      gi_wp2
      exact (show _ ∧ _ ∧ _ from ⟨k5.block _ hzy (.inl j5), k5.mono (fun k h => h.imp (fun h => (j2 k h).1) id), GK, k1, fun k h => ⟨k2 k (j2 k h).1, (j2 k h).2⟩, k2 _ j3, k2 _ j4, k2 _ j5, (k5.block z (by omega) (.inl j3)).trans j6, (k5.block _ (by omega) (.inl j4)).trans j7⟩)
    case stop2 =>
      rintro c2 pre2 G2 W' _ ⟨rfl, GK, q, k1, hq, k2, k3, k4, k5⟩
      gi_wp2
      exact (show _ ∧ _ ∧ _ from ⟨k5.block _ hzy (.inl j5), k5.mono (fun k h => h.imp (fun h => (j2 k h).1) id), rfl, GK, q, k1, hq, fun k h => ⟨k2 k (j2 k h).1, (j2 k h).2⟩, k2 _ j4, k2 _ j5, (k5.block _ (by omega) (.inl j4)).trans j7⟩)
  case done =>
    rintro xs G W' rfl ⟨GJ, j1, j2, j3, j4, j5, j6, j7⟩
    gi_wp2
    refine ⟨by simp, .inl ⟨_, _, rfl, run_takeDeferred j7, ?_⟩⟩
    exact ⟨_, results_none rfl _ _ _, ⟨_, rfl⟩, .inl ⟨_, GJ, rfl, hJ.turn _ _ _ _ _ j1 (grownBy_putObj' _ (z + 4) (.deferred none)) (fun r e => by cases e; exact j4)⟩⟩
  case stop =>
    rintro c2 pre G W' _ ⟨rfl, GJ, q, j1, hq, j2, j4, j5, j7⟩
    gi_wp2
    refine ⟨by simp, .inl ⟨_, _, rfl, run_takeDeferred j7, ?_⟩⟩
    exact ⟨_, results_none rfl _ _ _, ⟨_, rfl⟩, .inr ⟨_, GJ, hq, hJx.turn _ _ _ _ _ j1 (grownBy_putObj' _ (z + 4) (.deferred none)) (fun r e => by cases e; exact j4)⟩⟩
end Go.Proofs.YtjbciamhhfcdoaaGreatDoor
