/- A region that draws its order: a head whose operations only read (its callees keep to a class of worlds), then a tail in the order of the text. One walk serves every order. Conditions: none.
   The walk of Decide of the layer mixed at a URL that is read, where the context does not upgrade. Conditions: lengths are bounded, texts are ASCII without percent signs; the library's tables stand; the table is nil or has one pin, the list is nil. -/
import Derived.Test.YtjbciamhhfcdoaaGreatDoorSub27
import Derived.StillTail
import Derived.Test.YtjbciamhhfcdoaaGreatDoorSub46
namespace Hs
open Go Go.RowKit
set_option linter.unusedVariables false
section
variable {P : Program} {C : World → Prop}
/-- Where the first n operations are through, and no other. -/
def headDone (n N : Nat) : Array Bool := ((List.range N).map fun j => decide (j < n)).toArray
def goesBack (l : List Oper) (n : Nat) : Bool := (List.range n).all fun i => match l[i]? with
  | none => true
  | some o => (o.after.all fun e => !Region.binds .any e || decide (e.on < i)) && (match o.guard with
    | none => true
    | some (j, _) => decide (j < n))
def tailOk (l : List Oper) (n : Nat) : Bool :=
  Region.lexB .any (l.take n).toArray && (decide (n < l.length) && (Region.sinkB .any l.toArray n && (Region.chainB .any l.toArray n && (Region.seqB .any l.toArray (l.length - n) n (headDone n l.length) && goesBack l n))))
theorem head_op {l : List Oper} {n i : Nat} (hi : i < n) : (l.take n).toArray[i]? = l.toArray[i]? := by simp [hi]
theorem goesBack_at {l : List Oper} {n i : Nat} {o : Oper} (h : goesBack l n = true) (hi : i < n) (ho : l[i]? = some o) : (∀ e ∈ o.after, Region.binds .any e = true → e.on < i) ∧ ∀ j b, o.guard = some (j, b) → j < n := by
  have h1 := List.all_eq_true.1 h i (List.mem_range.2 hi)
  rw [ho] at h1
  simp only [Bool.and_eq_true] at h1
  refine ⟨fun e he hb => ?_, fun j b hg => ?_⟩
  · have h2 := Array.all_eq_true_iff_forall_mem.1 h1.1 e he
    simp only [hb, Bool.not_true, Bool.false_or, decide_eq_true_eq] at h2
    exact h2
  · have h2 := h1.2
    rw [hg] at h2
    exact of_decide_eq_true h2
theorem more_fuel {md : Region.Mode} {ops : Array Oper} {Q : Exit → Act → World → Prop} : ∀ (f : Nat) (listed : Array Bool) (a : Act) (w : World), wpAny P md ops Q f listed a w → wpAny P md ops Q (f + 1) listed a w
  | 0, _, _, _, h => ⟨fun _ => h.2, fun i hi => by rw [h.1] at hi; cases hi⟩
  | f + 1, _, _, _, h => ⟨h.1, fun i hi => wpOp_mono (fun a w h => more_fuel f _ a w h) (h.2 i hi)⟩
theorem more_fuels {md : Region.Mode} {ops : Array Oper} {Q : Exit → Act → World → Prop} {listed : Array Bool} {a : Act} {w : World} {g : Nat} (h : wpAny P md ops Q g listed a w) : ∀ f, wpAny P md ops Q (f + g) listed a w
  | 0 => by rw [Nat.zero_add]; exact h
  | f + 1 => by rw [show f + 1 + g = f + g + 1 by omega]; exact more_fuel _ _ _ _ (more_fuels h f)
theorem qOp_head {l : List Oper} {n i : Nat} {K : Act → Prop} {a : Act} (hg : goesBack l n = true) (hi : i < n) (h : qOp P (l.take n).toArray C i K a) : qOp P l.toArray C i K a := by
  unfold qOp at h ⊢
  rw [head_op hi] at h
  cases ho : l.toArray[i]? with
  | none => rw [ho] at h; exact h
  | some o =>
    rw [ho] at h
    have hb := (goesBack_at hg hi (by simpa using ho)).2
    have hw : Region.wanted o (yielded (l.take n).toArray a.tmps) = Region.wanted o (yielded l.toArray a.tmps) := by
      unfold Region.wanted
      cases hgd : o.guard with
      | none => rfl
      | some p =>
        obtain ⟨j, b⟩ := p
        have hj := hb j b hgd
        simp only
        unfold yielded
        rw [head_op hj]
    simp only [hw] at h
    exact h
/-- Both say the same of the first n. -/
def Sync (n : Nat) (H L : Array Bool) : Prop := H.size = n ∧ ∀ j, j < n → ∀ d, H.getD j d = L.getD j d
theorem Sync.set {n i : Nat} {H L : Array Bool} (h : Sync n H L) (hN : n ≤ L.size) (hi : i < n) : Sync n (H.setIfInBounds i true) (L.setIfInBounds i true) := by
  refine ⟨by simp [h.1], fun j hj d => ?_⟩
  by_cases e : i = j
  · subst e
    have h1 : i < H.size := by rw [h.1]; exact hi
    have h2 : i < L.size := by omega
    simp [h1, h2]
  · rw [getD_set_ne d e, getD_set_ne d e]
    exact h.2 j hj d
theorem ready_head {l : List Oper} {n i : Nat} {H L : Array Bool} (hg : goesBack l n = true) (h : Sync n H L) (hi : i < n) : i ∈ Region.ready .any (l.take n).toArray H ↔ i ∈ Region.ready .any l.toArray L := by
  rw [mem_ready, mem_ready, head_op hi, h.2 i hi true]
  constructor
  · rintro ⟨h0, o, ho, hall⟩
    exact ⟨h0, o, ho, fun e he hb => by rw [← h.2 _ (Nat.lt_trans ((goesBack_at hg hi (by simpa using ho)).1 e he hb) hi) false]; exact hall e he hb⟩
  · rintro ⟨h0, o, ho, hall⟩
    exact ⟨h0, o, ho, fun e he hb => by rw [h.2 _ (Nat.lt_trans ((goesBack_at hg hi (by simpa using ho)).1 e he hb) hi) false]; exact hall e he hb⟩
theorem ready_some {l : List Oper} {n : Nat} {L : Array Bool} (hg : goesBack l n = true) (hn : n < l.length) (hL : L.size = l.length) : ∀ i, i < n → L.getD i true = false → ∃ j, j < n ∧ j ∈ Region.ready .any l.toArray L := by
  intro i
  induction i using Nat.strongRecOn with
  | _ i ih =>
    intro hi hun
    obtain ⟨o, ho⟩ : ∃ o, l[i]? = some o := ⟨_, List.getElem?_eq_getElem (by omega)⟩
    by_cases hr : i ∈ Region.ready .any l.toArray L
    · exact ⟨i, hi, hr⟩
    · rw [mem_ready] at hr
      have : ∃ e ∈ o.after, Region.binds .any e = true ∧ L.getD e.on false ≠ true := by
        refine Classical.byContradiction fun hno => hr ⟨hun, o, by simpa using ho, fun e he hb => ?_⟩
        exact Classical.byContradiction fun hx => hno ⟨e, he, hb, hx⟩
      obtain ⟨e, he, hb, hx⟩ := this
      have hlt := (goesBack_at hg hi ho).1 e he hb
      exact ih e.on hlt (by omega) (getD_in (by omega) (by simpa using hx))
theorem done_eq {n N : Nat} {L : Array Bool} (hL : L.size = N) (h1 : ∀ j, j < n → L.getD j true ≠ false) (h2 : ∀ t, n ≤ t → t < N → L.getD t true = false) : L = headDone n N := by
  apply Array.ext
  · simp [headDone, hL]
  · intro i hi hi2
    have e : L.getD i true = L[i] := by simp [hi]
    by_cases hin : i < n
    · have := h1 i hin
      rw [e] at this
      simp [headDone, hin]
      simpa using this
    · have := h2 i (by omega) (by omega)
      rw [e] at this
      simp [headDone, hin]
      exact this
theorem wpAny_head {l : List Oper} {n : Nat} {Q : Act → Prop} {Q' : Exit → Act → World → Prop} (hg : goesBack l n = true) (hn : n < l.length) (hs : Region.sinkB .any l.toArray n = true) (hc : Region.chainB .any l.toArray n = true)
    (hT : ∀ a w, C w → Q a → wpAny P .any l.toArray Q' (l.length - n) (headDone n l.length) a w) : ∀ (f : Nat) (H L : Array Bool) (a : Act) (w : World), C w → Sync n H L → HeadInv .any l.toArray n L → wpAnyQ P .any (l.take n).toArray C Q f H a → wpAny P .any l.toArray Q' (f + (l.length - n)) L a w := by
  have hN : l.toArray.size = l.length := by simp
  have hdone : ∀ {L : Array Bool}, HeadInv .any l.toArray n L → (¬ ∃ i, i < n ∧ L.getD i true = false) → L = headDone n l.length := fun inv h =>
    done_eq (inv.size.trans hN) (fun j hj e => h ⟨j, hj, e⟩) (fun t ht ht2 => inv.tail t ht (by rw [hN]; exact ht2))
  intro f
  induction f with
  | zero =>
    intro H L a w hC hsy inv h
    have hno : ¬ ∃ i, i < n ∧ L.getD i true = false := by
      rintro ⟨i, hi, hun⟩
      obtain ⟨j, hj, hr⟩ := ready_some hg hn (inv.size.trans hN) i hi hun
      have := (ready_head hg hsy hj).2 hr
      rw [h.1] at this
      cases this
    rw [hdone inv hno, Nat.zero_add]
    exact hT a w hC h.2
  | succ f ih =>
    intro H L a w hC hsy inv h
    by_cases hno : ∃ i, i < n ∧ L.getD i true = false
    · obtain ⟨i0, hi0, hun0⟩ := hno
      obtain ⟨j, hj, hr⟩ := ready_some hg hn (inv.size.trans hN) i0 hi0 hun0
      rw [show f + 1 + (l.length - n) = f + (l.length - n) + 1 by omega]
      refine ⟨(fun h0 => by rw [h0] at hr; cases hr), fun i hi => ?_⟩
      have hin : i < n := by
        rcases Nat.lt_or_ge i n with h' | h'
        · exact h'
        · exact absurd hi (tail_waits hs hc (by rw [hN]; exact hn) inv _ i0 rfl hi0 hun0 i h')
      exact wpOp_of_qOp hC (fun a' w' hC' h' => ih _ _ a' w' hC' (hsy.set (by rw [inv.size, hN]; omega) hin) (inv.set hi hin) h') (qOp_head hg hin (h.2 i ((ready_head hg hsy hin).2 hi)))
    · have hr0 : Region.ready .any (l.take n).toArray H = [] := by
        refine List.eq_nil_iff_forall_not_mem.2 fun i hi => ?_
        have hin : i < n := by
          obtain ⟨_, o, ho, _⟩ := mem_ready.1 hi
          have := (Array.getElem?_eq_some_iff.1 ho).1
          simp at this
          omega
        have h0 := (mem_ready.1 hi).1
        rw [hsy.2 i hin true] at h0
        exact hno ⟨i, hin, h0⟩
      have := more_fuels (hT a w hC (h.1 hr0)) (f + 1)
      rw [hdone inv hno]
      exact this
/-- The head walked once, then the tail. -/
theorem wp_region_tail {id : Nat} {Q : Exit → Act → World → Prop} {a : Act} {w : World} {l : List Oper} (n : Nat) (hm : P.follows .mixedOrders = true) (hB : tailOk l n = true) (hC : C { w with drawn := w.drawn + 1 })
    (h : wpQuiet P (l.take n).toArray C (fun a' => ∀ w', C w' → wpList P l.toArray Q (l.drop n) a' w') (l.take n) a) : (Code.region id l.toArray true).wp P Q a w := by
  simp only [tailOk, Bool.and_eq_true, decide_eq_true_eq] at hB
  obtain ⟨hlex, hn, hs, hc, hseq, hg⟩ := hB
  have hN : l.toArray.size = l.length := by simp
  have hn2 : (l.take n).length = n := by simp; omega
  simp only [Region.lexB, Bool.and_eq_true] at hlex
  have hq := wpAnyQ_lex (P := P) (C := C) (md := .any) hlex.1 (l.take n) 0 (Array.replicate (l.take n).toArray.size false) a (by simp) (by simpa using hlex.2) h
  refine wp_region_any hm ?_
  have hsz : (l.take n).toArray.size = n := by rw [List.size_toArray, hn2]
  have key := wpAny_head (P := P) (C := C) (Q' := Q) hg hn hs hc (fun a' w' hC' hQ => by
    have := wpAny_of_seq (P := P) (md := .any) (Q' := Q) (l.drop n) n (headDone n l.length) a' w' (fun j => by simp [List.getElem?_drop]) (by rw [List.length_drop]; exact hseq) (hQ w' hC')
    rw [List.length_drop] at this
    exact this) _ (Array.replicate (l.take n).toArray.size false) (Array.replicate l.toArray.size false) a _ hC
    ⟨by rw [Array.size_replicate, hsz], fun j hj d => by
      have h1 : j < (l.take n).toArray.size := by rw [hsz]; exact hj
      have h2 : j < l.toArray.size := by rw [hN]; omega
      simp at h1 h2
      simp [h1, h2]⟩
    ⟨by simp, fun j oj _ hl => (by rw [getD_replicate_false] at hl; cases hl), fun t _ ht => getD_in (by simpa using ht) (getD_replicate_false _ _)⟩ hq
  rw [hn2, show n + (l.length - n) = l.toArray.size by rw [hN]; omega] at key
  exact key
end
theorem wp_region_later_tail {P : Program} {id : Nat} {Q : Exit → Act → World → Prop} {a : Act} {w : World} (n : Nat) (W : World) {l : List Oper} (hm : P.follows .mixedOrders = true) (hB : tailOk l n = true) (h0 : Below W.heap.size W w)
    (h : wpQuiet P (l.take n).toArray (fun w' => ∃ x : Later W, w' = x.1) (fun a' => ∀ w', (∃ x : Later W, w' = x.1) → wpList P l.toArray Q (l.drop n) a' w') (l.take n) a) : (Code.region id l.toArray true).wp P Q a w :=
  wp_region_tail n hm hB ⟨⟨_, h0.drew⟩, rfl⟩ h
end Hs
namespace Go.Proofs.YtjbciamhhfcdoaaGreatDoor
open Go.RowKit Hs
set_option linter.unusedSimpArgs false
set_option linter.unusedVariables false
def rcells (l : Bs) (d : Int) (img : Bool) : List Value := [.string (mk l), .int .i64 d, .bool img]
theorem infoReq : (Tryz.prog.info? 38).map (·.size) = some 3 := by kernel_rfl
set_option maxRecDepth 20000 in
set_option maxHeartbeats 8000000 in
theorem m_decide (l : Bs) (d : Int) (img : Bool) (c : CtxP) (hv : Value) (now : Int) (tv : Value) (T : List PinP) (u : UrlP) (w : World) (hB : Base6 w) (hl : l.length ≤ 100000) (hTl : okT l) (hu : urlV l = some u) (hw : HostW u.host) (hb : UrlB u) (hT : okT (textU u)) (hw' : HostW (upgradeU u).host) (hb' : UrlB (upgradeU u)) (hT' : okT (textU (upgradeU u))) (hup : c.upgrade = false) (hvu : validU u = true) (hvd : validB d = true) (ht : TabV w tv T) :
    Calls Tryz.prog 11 #[.agg (rcells l d img).toArray, .agg (xcells c hv).toArray, .int .i64 now, tv, .pointer none] w fun e w' => e = .returned (.tuple #[.agg (decells (ruleV u d img c (covV now T [] u.host))).toArray, .int .i64 0]) ∧ Below w.heap.size w w' := by
  obtain ⟨z, hz⟩ : ∃ z, z = w.heap.size := ⟨_, rfl⟩
  obtain ⟨W0, hW0⟩ : ∃ W0, W0 = ((w.alloc (.cells (rcells l d img).toArray 38)).alloc (.cells (xcells c hv).toArray 41)).alloc (.cells #[.int .i64 0, .int .i64 0, .string ⟨#[]⟩] 34) := ⟨_, rfl⟩
  have hbA : Below z w W0 := by rw [hW0, hz]; exact (((Below.refl _ w).alloc (Nat.le_refl _) _).alloc (by simp) _).alloc (by simp; omega) _
  have hbA' : Below w.heap.size w W0 := hz ▸ hbA
  have b0 : BlkL W0 z 38 (rcells l d img) := by rw [hW0, hz]; exact ((BlkL.new w _ _).alloc _).alloc _
  have b1 : BlkL W0 (z + 1) 41 (xcells c hv) := by
    rw [hW0, hz]
    have := (BlkL.new (w.alloc (.cells (rcells l d img).toArray 38)) 41 (xcells c hv)).alloc (.cells #[.int .i64 0, .int .i64 0, .string ⟨#[]⟩] 34)
    simp only [World.size_alloc] at this
    exact this
  have b3 : BlkL W0 (z + 2) 34 (decells ⟨0, 0, []⟩) := by
    rw [hW0, hz]
    have := BlkL.new ((w.alloc (.cells (rcells l d img).toArray 38)).alloc (.cells (xcells c hv).toArray 41)) 34 (decells ⟨0, 0, []⟩)
    simp only [World.size_alloc] at this
    exact this
  have HW0 := Lib.hid hW0.symm
  have hsz : W0.heap.size = z + 3 := by rw [hW0, hz]; simp
  have HI0 := Lib.hid (infoUrlOf hw.1)
  have HW8 := Lib.hid hw
  have HBA := Lib.hid hbA
  have HZ := Lib.hid hz
  have hz' := Nat.le_of_eq hz
  have hB0 : Base6 W0 := hB.below (hz ▸ hbA)
  have hpar := u_Parse (mk l) W0 hB0.1 (by rw [size_mk]; omega) (by rw [un_mk]; exact hTl)
  rw [un_mk, hu] at hpar
  have HPAR := Lib.hid hpar
  have HFI := Lib.hid (fun (W1 : World) (h1 : Below W0.heap.size W0 W1) => cov_find now tv T u.host W1 (hB0.below h1).1 hw hb.2.2.1 (ht.below (hbA'.trans (h1.mono hbA'.size))))
  have HR := Lib.hid (fun (W1 : World) (h1 : Below W0.heap.size W0 W1) => m_classify u d img c hv (covV now T [] u.host) W1 (hB0.below h1) hw hb hT hw' hb' hT' hup hvu hvd)
  obtain ⟨cv, hcv⟩ : ∃ cv, cv = covV now T [] u.host := ⟨_, rfl⟩
  simp only [← hcv] at HFI HR ⊢
  generalize ruleV u d img c cv = rv at *
  clear hW0 hbA hbA' hB hT hb hb' hT' hw' hz hB0 hvu hvd hup hpar hTl hu ht hl hcv
  have c0 := b0.c 0 _ rfl
  go_enter Tryz.func11, Tryz.ntmps11
  go_upto_region 1 with fail
  rw [HW0.out, ← HZ.out]
  clear HW0
  rw [show z + 1 + 1 = z + 2 from rfl]
  go_wp2_with fail
  all_goals (try (exfalso; omega))
  refine HPAR.out.mono ?_; rintro e w1 ⟨⟨u1, ec, rfl, hcase⟩, hb1⟩
  obtain ⟨rfl, hue⟩ : ec = 0 ∧ some u = some u1 := by
    rcases hcase with h | ⟨_, _, h⟩
    · exact h
    · cases h
  obtain rfl : u = u1 := by injection hue
  clear hcase hue HPAR
  have hs1 := hb1.size
  have B0 := Lib.hid (b0.below (by omega) hb1)
  have B1 := Lib.hid (b1.below (by omega) hb1)
  have B3 := Lib.hid (b3.below (by omega) hb1)
  have HA1 := Lib.hid (HBA.out.trans (hb1.mono (by omega)))
  have HN := Lib.hid (heap_alloc_new w1 (.cells (ucells url0).toArray 62))
  have HSZ0 := Lib.hid (show (ucells url0).toArray.size = (ucells u).toArray.size by rw [List.size_toArray, List.size_toArray, uc_len HW8.out.1]; rfl)
  have HW1 := Lib.hid hb1
  have hY := (BlkL.new w1 62 (ucells url0)).setRow (ucells u)
  have c0' := (B0.out.alloc (.cells (ucells url0).toArray 62)).setRow_other (show z ≠ w1.heap.size by omega) (ucells u).toArray
  have c1' := (B1.out.alloc (.cells (ucells url0).toArray 62)).setRow_other (show z + 1 ≠ w1.heap.size by omega) (ucells u).toArray
  have c3' := (B3.out.alloc (.cells (ucells url0).toArray 62)).setRow_other (show z + 2 ≠ w1.heap.size by omega) (ucells u).toArray
  have hA2 := below_setRow (HA1.out.alloc (by omega) (.cells (ucells url0).toArray 62)) (show z ≤ w1.heap.size by omega) (ucells u).toArray
  have hA2' := below_setRow (hb1.alloc hs1 (.cells (ucells url0).toArray 62)) hs1 (ucells u).toArray
  obtain ⟨W2, hW2⟩ : ∃ W2, W2 = (w1.alloc (.cells (ucells url0).toArray 62)).setRow w1.heap.size (ucells u).toArray := ⟨_, rfl⟩
  rw [← hW2] at hY c0' c1' c3' hA2 hA2'
  have hs2 : W2.heap.size = w1.heap.size + 1 := by rw [hW2]; simp [World.setRow]
  have HW2 : Hid ((w1.alloc (.cells #[.string ⟨#[]⟩, .string ⟨#[]⟩, .int .i64 0, .string ⟨#[]⟩, .int .u32 0, .int .u16 0, .int .u16 0, .int .u16 0, .int .u16 0, .int .u16 0, .int .u16 0, .int .u16 0, .int .u16 0, .int .i64 0, .string ⟨#[]⟩] 62)).setRow w1.heap.size (ucells u).toArray = W2) := Lib.hid hW2.symm
  have HY := Lib.hid hY
  have HA2 := Lib.hid hA2
  have F1 := Lib.hid (fun x : Later W2 => HFI.out x.1 (hA2'.trans (x.2.mono (by omega))))
  have F2 := Lib.hid (fun x : Later W2 => HR.out x.1 (hA2'.trans (x.2.mono (by omega))))
  clear b0 b1 b3 HBA hb1 hW2 B0 B1 B3 HA1 hA2 hA2' HFI HR HW1
  go_upto_region 2 with (refine wpList_store_row rfl 62 (.tmp 12) (.tmp 18) rfl w1.heap.size (ucells u).toArray rfl rfl 62 _ HN.out HI0.out HSZ0.out (all_one_of (uc_one _)) ?_)
  all_goals (try (exfalso; omega))
  rw [HW2.out]
  clear HW2 HN
  go_wp2
  all_goals (try (exfalso; omega))
  obtain ⟨sc, us, ⟨kd, nm, va, v6⟩, pt, rs⟩ := u
  obtain ⟨a0, a1, a2, a3, a4, a5, a6, a7, rfl⟩ := len8 HW8.out.1
  clear HY
  have q0 := fun x : Later W2 => (hY.below (by omega) x.2).c 0 _ rfl
  have q1 := fun x : Later W2 => (hY.below (by omega) x.2).c 1 _ rfl
  have q2 := fun x : Later W2 => (hY.below (by omega) x.2).c 2 _ rfl
  have q3 := fun x : Later W2 => (hY.below (by omega) x.2).c 3 _ rfl
  have q4 := fun x : Later W2 => (hY.below (by omega) x.2).c 4 _ rfl
  have q5 := fun x : Later W2 => (hY.below (by omega) x.2).c 5 _ rfl
  have q6 := fun x : Later W2 => (hY.below (by omega) x.2).c 6 _ rfl
  have q7 := fun x : Later W2 => (hY.below (by omega) x.2).c 7 _ rfl
  have q8 := fun x : Later W2 => (hY.below (by omega) x.2).c 8 _ rfl
  have q9 := fun x : Later W2 => (hY.below (by omega) x.2).c 9 _ rfl
  have q10 := fun x : Later W2 => (hY.below (by omega) x.2).c 10 _ rfl
  have q11 := fun x : Later W2 => (hY.below (by omega) x.2).c 11 _ rfl
  have q12 := fun x : Later W2 => (hY.below (by omega) x.2).c 12 _ rfl
  have q13 := fun x : Later W2 => (hY.below (by omega) x.2).c 13 _ rfl
  have q14 := fun x : Later W2 => (hY.below (by omega) x.2).c 14 _ rfl
  have r0 := fun x : Later W2 => (c0'.below (by omega) x.2).c 0 _ rfl
  have r1 := fun x : Later W2 => (c0'.below (by omega) x.2).c 1 _ rfl
  have r2 := fun x : Later W2 => (c0'.below (by omega) x.2).c 2 _ rfl
  have s0 := fun x : Later W2 => (c1'.below (by omega) x.2).c 0 _ rfl
  have s1 := fun x : Later W2 => (c1'.below (by omega) x.2).c 1 _ rfl
  have s2 := fun x : Later W2 => (c1'.below (by omega) x.2).c 2 _ rfl
  have s3 := fun x : Later W2 => (c1'.below (by omega) x.2).c 3 _ rfl
  have s4 := fun x : Later W2 => (c1'.below (by omega) x.2).c 4 _ rfl
  refine wp_region_later_tail 15 W2 (by kernel_rfl) (by kernel_rfl) (Below.refl _ _) ?_
  simp only [List.take_succ_cons, List.take_zero, List.drop_succ_cons, List.drop_zero]
  repeat (go_big_quiet_step (fail))
  go_big_quiet_step (exact Calls.later (F1.out _))
  repeat (go_big_quiet_step (fail))
  go_big_quiet_step (exact Calls.later (F2.out _))
  repeat (go_big_quiet_step (fail))
  refine wpQuiet_nil ?_
  intro w5 hw'
  obtain ⟨⟨w6, hb6⟩, hw6⟩ := hw'
  have hb5 : Below W2.heap.size W2 w5 := hw6 ▸ hb6
  clear hw6 hb6
  have hs5 := hb5.size
  have D3 := Lib.hid (c3'.below (by omega) hb5)
  have HA5 := Lib.hid (HA2.out.trans (hb5.mono (by omega)))
  clear q0 q1 q2 q3 q4 q5 q6 q7 q8 q9 q10 q11 q12 q13 q14 r0 r1 r2 s0 s1 s2 s3 s4 c0' c1' c3' hY F1 F2 hb5 HA2
  go_wp2_with (refine wpList_store_row rfl 34 (.tmp 10) (.tmp 37) rfl (z + 2) (decells rv).toArray rfl rfl 34 _ D3.out infoDec rfl (all_one_of (dec_one _)) ?_)
  all_goals (try (exfalso; omega))
  refine bodyPost_ret (results_ct rfl _ _ (z + 2) 34 _ _ rfl (D3.out.setRow (decells rv)) Tryz.underlying34 rfl infoDec) rfl ?_
  exact ⟨rfl, HZ.out ▸ below_setRow HA5.out (by omega) _⟩
end Go.Proofs.YtjbciamhhfcdoaaGreatDoor
