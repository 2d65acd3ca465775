/- The walk of ValidName of the program's hosts: a range over the parts of a name. Conditions: the text's length is bounded; the library's tables stand.
   The walks of pins and of a table with at most one pin. Conditions: texts are of bounded length; the library's tables stand.
   The walks of a table of pins that is nil, empty or holds one pin. Conditions: texts are of bounded length; the library's tables stand. -/
import Derived.Test.YtjbciamhhfcdoaaGreatDoorSub37
import Derived.Test.YtjbciamhhfcdoaaGreatDoorSub15
import Derived.Test.YtjbciamhhfcdoaaGreatDoorSub28
import Derived.Test.YtjbciamhhfcdoaaGreatDoorSub08
import Derived.Test.YtjbciamhhfcdoaaGreatDoorSub21
import Derived.Laws.ResultCell
import Derived.Test.YtjbciamhhfcdoaaGreatDoorSub33
import Derived.Test.YtjbciamhhfcdoaaGreatDoorSub20
import Derived.Test.YtjbciamhhfcdoaaGreatDoorSub30
import Derived.Deep.DeepCutAuto
namespace Go.Proofs.YtjbciamhhfcdoaaGreatDoor
open Go.RowKit Go.Shelf Hs
set_option linter.unusedSimpArgs false
set_option linter.unusedVariables false
attribute [local go_sem] Oper.semAt_some
theorem below_setB (w : World) {b : Nat} (g k : Nat) (v : Value) (hb : b ≤ g) : Below b w (w.setCell ⟨g, k, none⟩ v) := ⟨rfl, rfl, rfl, by simp, fun j hj => Below.heap_setCell w ⟨g, k, none⟩ v j (fun e => by have : j = g := e; omega)⟩
/-- Between two rounds over the labels. y: the iterator's blocks begin here. -/
def VInv (w : World) (y : Nat) (pre : List Bs) (G : Nat → Prop) (W : World) : Prop :=
  pre.all labelV = true ∧ BlkL W w.heap.size 4 [.bool false] ∧ W.heap[y + 3]? = some (.deferred (some [])) ∧ Below w.heap.size w W ∧ (∀ k, G k → w.heap.size < k ∧ k ≠ y + 3)
def VOut (w : World) (y : Nat) (l : Bs) (c : Code) (pre : List Bs) (G : Nat → Prop) (W : World) : Prop :=
  c = .ret ∧ (splitD 46 l).all labelV = false ∧ BlkL W w.heap.size 4 [.bool false] ∧ W.heap[y + 3]? = some (.deferred (some [])) ∧ Below w.heap.size w W ∧ (∀ k, G k → w.heap.size < k ∧ k ≠ y + 3)
theorem VInv.turn {w : World} {y : Nat} {pre : List Bs} {G : Nat → Prop} {A B : World} {row : Option Nat} (h : VInv w y pre G A) (hy : w.heap.size < y) (hg : A.grownBy B row) (hr : ∀ r, row = some r → G r ∨ r = y + 4) : VInv w y pre G B := by
  obtain ⟨h1, h2, h3, h4, h5⟩ := h
  have hlow : ∀ r, row = some r → w.heap.size < r ∧ r ≠ y + 3 := fun r e => (hr r e).elim (h5 r) (fun h => by omega)
  exact ⟨h1, h2.grown hg (fun e => by have := hlow _ e.symm; omega), (hg.block _ (Array.getElem?_eq_some_iff.1 h3).1 (fun e => (hlow _ e.symm).2 rfl)).trans h3, h4.grown hg (by have := h4.size; omega) (fun j hj => by have := hlow j hj; omega), h5⟩
theorem VInv.lay {w : World} {y : Nat} {pre : List Bs} {G : Nat → Prop} {A B : World} (h : VInv w y pre G A) (hy : w.heap.size < y) (hg : A.grownBy B none) : VInv w y pre (fun k => G k ∨ (A.heap.size ≤ k ∧ k < B.heap.size)) B := by
  obtain ⟨h1, h2, h3, h4, h5⟩ := h
  have hlt := (Array.getElem?_eq_some_iff.1 h3).1
  exact ⟨h1, h2.grown hg (by simp), (hg.block _ hlt (by simp)).trans h3, h4.grown hg (by have := h4.size; omega) (fun j hj => by cases hj), fun k hk => hk.elim (h5 k) (fun h => ⟨by have := h2.lt; omega, by omega⟩)⟩
theorem VOut.turn {w : World} {y : Nat} {l : Bs} {c : Code} {pre : List Bs} {G : Nat → Prop} {A B : World} {row : Option Nat} (h : VOut w y l c pre G A) (hy : w.heap.size < y) (hg : A.grownBy B row) (hr : ∀ r, row = some r → G r ∨ r = y + 4) : VOut w y l c pre G B := by
  obtain ⟨h0, h1, h2, h3, h4, h5⟩ := h
  have hlow : ∀ r, row = some r → w.heap.size < r ∧ r ≠ y + 3 := fun r e => (hr r e).elim (h5 r) (fun h => by omega)
  exact ⟨h0, h1, h2.grown hg (fun e => by have := hlow _ e.symm; omega), (hg.block _ (Array.getElem?_eq_some_iff.1 h3).1 (fun e => (hlow _ e.symm).2 rfl)).trans h3, h4.grown hg (by have := h4.size; omega) (fun j hj => by have := hlow j hj; omega), h5⟩
theorem VOut.lay {w : World} {y : Nat} {l : Bs} {c : Code} {pre : List Bs} {G : Nat → Prop} {A B : World} (h : VOut w y l c pre G A) (hy : w.heap.size < y) (hg : A.grownBy B none) : VOut w y l c pre (fun k => G k ∨ (A.heap.size ≤ k ∧ k < B.heap.size)) B := by
  obtain ⟨h0, h1, h2, h3, h4, h5⟩ := h
  have hlt := (Array.getElem?_eq_some_iff.1 h3).1
  exact ⟨h0, h1, h2.grown hg (by simp), (hg.block _ hlt (by simp)).trans h3, h4.grown hg (by have := h4.size; omega) (fun j hj => by cases hj), fun k hk => hk.elim (h5 k) (fun h => ⟨by have := h2.lt; omega, by omega⟩)⟩
theorem results_c1 {P : Program} {fn : Func} {p : Tmp} {ty : TypeId} (h : fn.results = #[.cell p ty]) (tmps : Array Value) (w : World) (g : Nat) (v : Value) (d : TypeDesc)
    (hp : tmps.getD p undef = .pointer (some ⟨g, 0, none⟩)) (hc : w.cell? ⟨g, 0, none⟩ = some v) (hu : P.underlying ty = some d) (hd : (match d with | .struct _ | .array _ _ => true | _ => false) = false) :
    (results fn tmps).run P w = .ok v w := by
  have hp' : tmps[p]?.getD undef = .pointer (some ⟨g, 0, none⟩) := by simpa using hp
  have hagg : (isAgg ty).run P w = .ok false w := by
    unfold isAgg
    rw [Sem.run_bind, run_underlying hu w]
    cases d <;> simp_all
  simp [results, h, hp', asAddr, loadVar, Sem.run_bind, hagg, hc, Result.andThen]
set_option maxRecDepth 100000 in
set_option maxHeartbeats 4000000 in
theorem h_validName (s : ByteArray) (w : World) (hB : Base w) (hs : s.size ≤ 100000) : Calls Tryz.prog 42 #[.string s] w fun e w' => e = .returned (.bool (nameV (un s))) ∧ Below w.heap.size w w' := by
  have hlen : (un s).length = s.size := length_un s
  refine (callsIn_wide (n := 9)).1 ?_
  refine callsIn_of_wp_marks Tryz.func42 rfl trivial ?_ rfl
  simp only [Tryz.ntmps42, List.size_toArray, List.length_cons, List.length_nil, Nat.reduceAdd, Nat.reduceSub, Array.replicate_succ, Array.replicate_zero, List.push_toArray, List.append_toArray, List.nil_append, List.cons_append]
  by_cases h253 : 253 < s.size
  · have hfin : Hid (nameV (un s) = false) := Lib.hid (by unfold nameV; rw [decide_eq_false (by omega)]; rfl)
    have g1 : decide ((253 : Int) < (s.size : Int)) = true := decide_eq_true (by omega)
    have c0 := (BlkL.new w 4 [.bool false]).c 0 _ rfl
    have f0 := (BlkL.new w 4 [.bool false]).f 0
    gi_wp2
    all_goals (try (exfalso; omega))
    refine ⟨trivial, ?_⟩
    gi_wp2
    refine leaves_marks [] _ (by simp) List.nodup_nil (fun W' hW' => ?_)
    have hr := BlkL.new w 4 [.bool false]
    have hr2 : BlkL W' w.heap.size 4 [.bool false] := (hW'.block _ hr.lt (by simp)).trans hr
    refine ⟨_, results_c1 rfl _ _ w.heap.size (.bool false) _ rfl (hr2.c 0 _ rfl) Tryz.underlying4 rfl, ?_⟩
    rw [hfin.out]
    refine ⟨rfl, ?_⟩
    exact ((Below.refl _ w).alloc (Nat.le_refl _) _).trans (Keeps.below (hW'.mono fun k _ => by simp) (by simp))
  · have g1 : decide ((253 : Int) < (s.size : Int)) = false := decide_eq_false (by omega)
    have hw0 : Below w.heap.size w (w.alloc (.cells #[.bool false] 4)) := (Below.refl _ w).alloc (Nat.le_refl _) _
    have hr0 : BlkL (w.alloc (.cells #[.bool false] 4)) w.heap.size 4 [.bool false] := BlkL.new w _ _
    have hz0 : (w.alloc (.cells #[.bool false] 4)).heap.size = w.heap.size + 1 := by simp
    obtain ⟨W0, hW0⟩ : ∃ W0, W0 = w.alloc (.cells #[.bool false] 4) := ⟨_, rfl⟩
    rw [← hW0] at hw0 hr0 hz0
    have B0 := hB.below hw0
    have hnum := i4_numeric s W0 B0 (by omega)
    obtain ⟨nm, hnm⟩ : ∃ nm, nm = numericV (un s) := ⟨_, rfl⟩
    rw [← hnm] at hnum
    have HNUM := Lib.hid hnum
    have HW0 := Lib.hid hW0.symm
    have HNM := Lib.hid hnm
    clear hnum hW0 hnm
    gi_wp2
    all_goals (try (exfalso; omega))
    rw [HW0.out]
    clear HW0
    refine ⟨trivial, ?_⟩
    refine (callsIn_wide.2 HNUM.out).mono ?_
    rintro e w1 ⟨rfl, hb1⟩
    have hs1 := hb1.size
    have HR1 := Lib.hid (hr0.below (by omega) hb1)
    have HALL1 := Lib.hid (hw0.trans (hb1.mono (by omega)))
    clear hb1 hw0 hr0 B0 HNUM
    have c1 := HR1.out.c 0 _ rfl
    have f1 := HR1.out.f 0
    cases nm
    · have hfin : Hid (nameV (un s) = (splitD 46 (un s)).all labelV) := Lib.hid (by unfold nameV; rw [← HNM.out, decide_eq_true (by omega)]; simp)
      gi_wp2
      refine ⟨trivial, ?_⟩
      refine (callsIn_wide.2 (f_splitSeq s 46 _)).mono ?_
      rintro e w2 ⟨rfl, rfl⟩
      gi_wp2
      have ct := splitW_t w1 s 46
      have cs := splitW_s w1 s 46
      have co := splitW_z w1 s 46
      have hS2 := splitW_size w1 s 46
      have hB2 := splitW_below w1 s 46
      obtain ⟨y, hy⟩ : ∃ y, y = w1.heap.size := ⟨_, rfl⟩
      rw [← hy] at ct cs co hS2 hB2 hs1 ⊢
      have hr2 := HR1.out.below (by omega) hB2
      have hall2 := HALL1.out.trans (hB2.mono (by omega))
      generalize splitW w1 s 46 = W2 at *
      have hzy : w.heap.size < y := by omega
      have HR2 := Lib.hid hr2
      have HALL2 := Lib.hid hall2
      clear hr2 hall2 hB2 HR1 HALL1 c1 f1 hs1 hy
      have hent := fun (a : Act) ps asg bd => enter_outer (F := Fence.wide) (P := Tryz.prog) rfl W2 a ps asg bd
      rw [hS2] at hent
      refine range_law (w₁ := W2.alloc (.deferred (some []))) (L := y + 4) (by omega) (by simp; omega) (hent _ _ _ _) (gf := 180) (lb := #[.pointer (some ⟨y + 1, 0, none⟩), .pointer (some ⟨y, 0, none⟩), .pointer (some ⟨y + 2, 0, none⟩)]) rfl trivial (enters_of Tryz.func180 (by kernel_rfl) rfl)
        (split_seq 8 (y + 1) y (y + 2) w.heap.size 46 s W2 (by omega) cs ct co (by omega) (by omega) (by omega)) ((Below.refl _ W2).alloc (Nat.le_refl _) _) (fun _ => rfl) (by omega) (by omega)
        (VInv w y) (VOut w y (un s)) (fun _ _ _ _ _ h hg hr => h.turn hzy hg hr) (fun _ _ _ _ h hg => h.lay hzy hg) (fun _ _ _ _ _ _ h hg hr => h.turn hzy hg hr) (fun _ _ _ _ _ h hg => h.lay hzy hg) ?start
        (fun x a' W' => a' = { tmps := #[.string s, undef, .pointer (some ⟨w.heap.size, 0, none⟩), .string (mk x), .string s, .int .i64 (s.size : Int), .bool false, .bool false, .string s, .bool false, .bool false, .string s, (.func (.func 180) #[] #[.pointer (some ⟨y + 1, 0, none⟩), .pointer (some ⟨y, 0, none⟩), .pointer (some ⟨y + 2, 0, none⟩)]), .string (mk x), undef, undef, undef], defers := [] }) (fun _ _ _ _ _ h _ _ => h) ?assign ?body ?done ?stop
      case start =>
        intro o
        have hd := World.alloc_heap_new W2 (.deferred (some []))
        rw [hS2] at hd
        have hsz : ((W2.alloc (.deferred (some []))).alloc o).heap.size = y + 5 := by simp [hS2]
        refine ⟨rfl, (HR2.out.alloc _).alloc _, (Below.heap_alloc _ o _ (by simp; omega)).trans hd, (HALL2.out.alloc (by omega) _).alloc (by simp; omega) _, ?_⟩
        rintro k (rfl | rfl | rfl) <;> omega
      case assign =>
        intro pre x G W' K hI hsp hK
        gi_wp2
        exact hK _ _ rfl (Keeps.refl _ _) hI rfl
      case body =>
        rintro pre x G a' Wb ⟨r0, hr0⟩ hI rfl ⟨post, hpost⟩
        have hxl : x.length ≤ s.size := by
          have := splitD_len 46 (un s) x (by rw [← hpost]; simp)
          rw [length_un] at this; exact this
        obtain ⟨i1, i2, i3, i4, i5⟩ := id hI
        have hval := py_valid (mk x) Wb (by rw [size_mk]; omega)
        rw [un_mk] at hval
        obtain ⟨ok, hok⟩ : ∃ ok, ok = labelV x := ⟨_, rfl⟩
        rw [← hok] at hval
        have HVAL := Lib.hid hval
        have HOK := Lib.hid hok
        have HPO := Lib.hid hpost
        have HI := Lib.hid hI
        have HI2 := Lib.hid i2
        clear hval hok hpost hI i1 i2 i3 i4 i5
        gi_wp2
        refine ⟨trivial, ?_⟩
        refine (CallsIn.inRound _ (callsIn_wide.2 HVAL.out)).mono ?_
        rintro e w3 ⟨rfl, hb3⟩
        have hg3 := grown_of_below hb3
        have HI3 := Lib.hid (HI.out.turn hzy hg3 (fun r e => by cases e))
        have hy4 : y + 4 < Wb.heap.size := (Array.getElem?_eq_some_iff.1 hr0).1
        have hL3 : w3.heap[y + 4]? = Wb.heap[y + 4]? := hb3.block _ hy4
        have hK3 : Keeps (fun k => G k ∨ k < w.heap.size) Wb w3 := Keeps.of_below hb3
        have c3 := HI3.out.2.1.c 0 _ rfl
        have f3 := HI3.out.2.1.f 0
        cases ok
        · have hbad : (splitD 46 (un s)).all labelV = false := by
            rw [← HPO.out, List.all_append, List.all_append]
            simp [← HOK.out]
          have HBAD := Lib.hid hbad
          clear hbad
          gi_wp2
          obtain ⟨j1, j2, j3, j4, j5⟩ := HI3.out
          refine (show _ ∧ _ ∧ _ from ⟨(Below.heap_setCell _ _ _ _ (by simp; omega)).trans hL3, hK3.trans (Keeps.setCell _ _ _ ?_ _), rfl, HBAD.out, j2.set 0 (by simp) (.bool false), (Below.heap_setCell _ _ _ _ (by simp; omega)).trans j3, j4.trans (below_setB _ _ _ _ (Nat.le_refl _)), j5⟩)
          rintro (h | h)
          · have := (j5 _ h).1; omega
          · omega
        · clear c3 f3
          gi_wp2
          obtain ⟨j1, j2, j3, j4, j5⟩ := HI3.out
          exact (show _ ∧ _ ∧ _ from ⟨hL3, hK3, by rw [List.all_append, j1]; simp [← HOK.out], j2, j3, j4, j5⟩)
      case done =>
        rintro xs G W' rfl ⟨i1, i2, i3, i4, i5⟩
        have c3 := i2.c 0 _ rfl
        have f3 := i2.f 0
        have HI1 := Lib.hid i1
        clear i1
        gi_wp2
        have hr := i2.set 0 (by simp) (.bool true)
        refine leaves_marks [y + 3] _ (fun r hr => ?_) (by simp) (fun W' hW' => ?_)
        · rw [List.mem_singleton.1 hr]
          exact (Below.heap_setCell _ _ _ _ (by simp; omega)).trans i3
        · have hr2 : BlkL W' w.heap.size 4 [.bool true] := (hW'.block _ hr.lt (by simp; omega)).trans hr
          refine ⟨_, results_c1 rfl _ _ w.heap.size (.bool true) _ rfl (hr2.c 0 _ rfl) Tryz.underlying4 rfl, ?_⟩
          rw [hfin.out, HI1.out]
          exact ⟨rfl, (i4.trans (below_setB _ _ _ _ (Nat.le_refl _))).trans (Keeps.below (hW'.mono fun k hk => by simp; omega) (by have := i4.size; simpa using this))⟩
      case stop =>
        rintro c pre G W' _ ⟨rfl, i1, i2, i3, i4, i5⟩
        have HI1 := Lib.hid i1
        clear i1
        gi_wp2
        refine leaves_marks [y + 3] _ (fun r hr => ?_) (by simp) (fun W' hW' => ?_)
        · rw [List.mem_singleton.1 hr]
          exact i3
        · have hr2 : BlkL W' w.heap.size 4 [.bool false] := (hW'.block _ i2.lt (by simp; omega)).trans i2
          refine ⟨_, results_c1 rfl _ _ w.heap.size (.bool false) _ rfl (hr2.c 0 _ rfl) Tryz.underlying4 rfl, ?_⟩
          rw [hfin.out, HI1.out]
          exact ⟨rfl, i4.trans (Keeps.below (hW'.mono fun k hk => by simp; omega) i4.size)⟩
    · have hfin : Hid (nameV (un s) = false) := Lib.hid (by unfold nameV; rw [← HNM.out]; simp)
      gi_wp2
      refine leaves_marks [] _ (by simp) List.nodup_nil (fun W' hW' => ?_)
      have hr := HR1.out.set 0 (by simp) (.bool false)
      have hr2 : BlkL W' w.heap.size 4 [.bool false] := (hW'.block _ hr.lt (by simp)).trans hr
      refine ⟨_, results_c1 rfl _ _ w.heap.size (.bool false) _ rfl (hr2.c 0 _ rfl) Tryz.underlying4 rfl, ?_⟩
      rw [hfin.out]
      exact ⟨rfl, (HALL1.out.trans (below_setB _ _ _ _ (Nat.le_refl _))).trans (Keeps.below (hW'.mono fun k _ => by simp) (by have := HALL1.out.size; simpa using this))⟩
end Go.Proofs.YtjbciamhhfcdoaaGreatDoor
namespace Go.Proofs.YtjbciamhhfcdoaaGreatDoor
open Go.RowKit Hs
set_option linter.unusedSimpArgs false
set_option linter.unusedVariables false
/-- The cells of a pin. -/
def pcells (p : PinP) : List Value := [.string (mk p.host), .bool p.sub, .int .i64 p.expiry]
theorem infoPin : (Tryz.prog.info? 23).map (·.size) = some 3 := by kernel_rfl
set_option maxRecDepth 20000 in
set_option maxHeartbeats 4000000 in
theorem pin_valid (p : PinP) (w : World) (hB : Base w) (hn : p.host.length ≤ 100000) : Calls Tryz.prog 30 #[.agg (pcells p).toArray] w fun e w' => e = .returned (.bool (pinOk p)) ∧ Below w.heap.size w w' := by
  obtain ⟨W0, hW0⟩ : ∃ W0, W0 = w.alloc (.cells (pcells p).toArray 23) := ⟨_, rfl⟩
  have hbA : Below w.heap.size w W0 := by rw [hW0]; exact (Below.refl _ w).alloc (Nat.le_refl _) _
  have hb0 : BlkL W0 w.heap.size 23 (pcells p) := by rw [hW0]; exact BlkL.new w _ _
  have HW0 : Hid (w.alloc (.cells (pcells p).toArray 23) = W0) := Lib.hid hW0.symm
  have hsz : W0.heap.size = w.heap.size + 1 := by rw [hW0]; simp
  have hv := h_validName (mk p.host) W0 (hB.below hbA) (by rw [size_mk]; exact hn)
  rw [un_mk] at hv
  have hdef : pinOk p = (nameV p.host && (decide (0 ≤ p.expiry) && decide (p.expiry ≤ 1099511627776))) := by unfold pinOk; rw [Bool.decide_and]
  obtain ⟨a, ha⟩ : ∃ a, a = nameV p.host := ⟨_, rfl⟩
  obtain ⟨b, hb⟩ : ∃ b, b = decide (0 ≤ p.expiry) := ⟨_, rfl⟩
  obtain ⟨c, hc⟩ : ∃ c, c = decide (p.expiry ≤ 1099511627776) := ⟨_, rfl⟩
  rw [← ha, ← hb, ← hc] at hdef
  rw [← ha] at hv
  have hb' := hb.symm
  have hc' := hc.symm
  have HV := Lib.hid hv
  have HD := Lib.hid hdef
  have HC := Lib.hid hc'
  have HBA := Lib.hid hbA
  have c0 := hb0.c 0 _ rfl
  have HB0 := Lib.hid hb0
  clear hW0 hbA hv hdef ha hb hc hc' hb0
  go_enter Tryz.func30, Tryz.ntmps30
  go_upto_region 1 with fail
  rw [HW0.out]
  clear HW0
  go_wp2_with fail
  refine HV.out.mono ?_; rintro e w1 ⟨rfl, hb1⟩
  have HA1 := Lib.hid (HBA.out.trans (hb1.mono (by omega)))
  have c2 := (HB0.out.below (by omega) hb1).c 2 _ rfl
  clear hb1 HV c0
  cases a
  · clear HC hb'
    go_wp2
    all_goals (try (exfalso; omega))
    go_ret
    rw [HD.out]
    exact ⟨rfl, HA1.out⟩
  · cases b
    · clear HC
      go_wp2
      all_goals (try (exfalso; omega))
      go_ret
      rw [HD.out]
      exact ⟨rfl, HA1.out⟩
    · have hc' := HC.out
      go_wp2
      all_goals (try (exfalso; omega))
      go_ret
      rw [HD.out]
      exact ⟨by simp, HA1.out⟩
set_option maxRecDepth 20000 in
set_option maxHeartbeats 4000000 in
theorem pt_cmp (p : PinP) (x : Bs) (w : World) (hn : p.host.length ≤ 100000) (hx : x.length ≤ 100000) : Calls Tryz.prog 67 #[.agg #[.string (mk p.host), .bool p.sub, .int .i64 p.expiry], .string (mk x)] w fun e w' => e = .returned (.int .i64 (pcmp p.host x)) ∧ Below w.heap.size w w' := by
  obtain ⟨W0, hW0⟩ : ∃ W0, W0 = w.alloc (.cells #[.string (mk p.host), .bool p.sub, .int .i64 p.expiry] 23) := ⟨_, rfl⟩
  have hbA : Below w.heap.size w W0 := by rw [hW0]; exact (Below.refl _ w).alloc (Nat.le_refl _) _
  have hb0 : BlkL W0 w.heap.size 23 (pcells p) := by rw [hW0]; exact BlkL.new w _ _
  have HW0 : Hid (w.alloc (.cells #[.string (mk p.host), .bool p.sub, .int .i64 p.expiry] 23) = W0) := Lib.hid hW0.symm
  have hsz : W0.heap.size = w.heap.size + 1 := by rw [hW0]; simp
  have hc := pin_compare (mk p.host) (mk x) W0 (by rw [size_mk]; exact hn) (by rw [size_mk]; exact hx)
  rw [un_mk, un_mk] at hc
  have HC := Lib.hid hc
  have HBA := Lib.hid hbA
  have c0 := hb0.c 0 _ rfl
  clear hW0 hbA hb0 hc
  go_enter Tryz.func67, Tryz.ntmps67
  go_upto_region 1 with fail
  rw [HW0.out]
  clear HW0
  go_wp2_with fail
  refine HC.out.mono ?_; rintro e w1 ⟨rfl, hb1⟩
  go_wp2
  go_ret
  exact ⟨rfl, HBA.out.trans (hb1.mono (by omega))⟩
set_option maxRecDepth 20000 in
set_option maxHeartbeats 4000000 in
theorem pt_search0 (x : Bs) (w : World) (hx : x.length ≤ 100000) : Calls Tryz.prog 66 #[.slice none 0 0, .string (mk x), .func (.func 67) #[] #[]] w fun e w' => e = .returned (.tuple #[.int .i64 0, .bool false]) ∧ Below w.heap.size w w' := by
  go_enter Tryz.func66, Tryz.ntmps66
  go_wp2
  go_loop [9, 10] (fun iv jv => iv = .int .i64 0 ∧ jv = .int .i64 0) (fun _ _ => 0)
  case atStart => exact ⟨rfl, rfl⟩
  case round =>
    obtain ⟨rfl, rfl⟩ := hrel
    go_wp2
    all_goals (try (exfalso; omega))
    go_ret2
    exact ⟨rfl, Below.refl _ _⟩
set_option maxRecDepth 20000 in
set_option maxHeartbeats 4000000 in
theorem pt_search1 (p : PinP) (g cap : Nat) (x : Bs) (w : World) (hg : g < w.heap.size) (hb : ∀ j v, (pcells p)[j]? = some v → w.cell? ⟨g, j, none⟩ = some v) (hn : p.host.length ≤ 100000) (hx : x.length ≤ 100000) : Calls Tryz.prog 66 #[.slice (some ⟨g, 0, none⟩) 1 cap, .string (mk x), .func (.func 67) #[] #[]] w fun e w' => (∃ i : Nat, e = .returned (.tuple #[.int .i64 (i : Int), .bool (decide (p.host = x))]) ∧ i ≤ 1 ∧ (p.host = x → i = 0)) ∧ Below w.heap.size w w' := by
  have hz := pcmp_eq p.host x
  obtain ⟨c, hc⟩ : ∃ c, c = pcmp p.host x := ⟨_, rfl⟩
  have hcm := fun W => pt_cmp p x W hn hx
  rw [← hc] at hz
  simp only [← hc] at hcm
  have HCM := Lib.hid hcm
  have HZ := Lib.hid hz
  have HB := Lib.hid hb
  clear hc hcm hz hb
  go_enter Tryz.func66, Tryz.ntmps66
  go_wp2
  go_loopw [9, 10] (fun iv jv wr => ((iv = .int .i64 0 ∧ jv = .int .i64 1) ∨ (iv = .int .i64 1 ∧ jv = .int .i64 1 ∧ c < 0) ∨ (iv = .int .i64 0 ∧ jv = .int .i64 0 ∧ ¬ c < 0)) ∧ Hid (Below w.heap.size w wr)) (fun iv jv _ => (intOf jv).toNat - (intOf iv).toNat)
  case atStart => exact ⟨.inl ⟨rfl, rfl⟩, Lib.hid (Below.refl _ _)⟩
  case round =>
    obtain ⟨hij, hnx⟩ := hrel
    have c0 := (hnx.out.cell (p := ⟨g, 0, none⟩) hg).trans (HB.out 0 _ rfl)
    have c1 := (hnx.out.cell (p := ⟨g, 1, none⟩) hg).trans (HB.out 1 _ rfl)
    have c2 := (hnx.out.cell (p := ⟨g, 2, none⟩) hg).trans (HB.out 2 _ rfl)
    rcases hij with ⟨rfl, rfl⟩ | ⟨rfl, rfl, hc⟩ | ⟨rfl, rfl, hc⟩
    · have e1 : bits .shr .u64 1 1 = 0 := by kernel_rfl
      go_wp2_with fail
      all_goals (try (exfalso; omega))
      refine (HCM.out _).mono ?_; rintro e w1 ⟨rfl, hb1⟩
      have hnx1 := Lib.hid (hnx.out.trans (hb1.mono hnx.out.size))
      clear hb1 c0 c1 c2
      by_cases hc : c < 0
      · have g1 : decide (c < (0 : Int)) = true := decide_eq_true hc
        have HC := Lib.hid hc
        clear hc
        go_wp2
        all_goals (try (exfalso; omega))
        go_roundw
        case rel => exact ⟨.inr (.inl ⟨rfl, rfl, HC.out⟩), hnx1⟩
        case measure => simp [intOf]
      · have g1 : decide (c < (0 : Int)) = false := decide_eq_false hc
        have HC := Lib.hid hc
        clear hc
        go_wp2
        all_goals (try (exfalso; omega))
        go_roundw
        case rel => exact ⟨.inr (.inr ⟨rfl, rfl, by have := HC.out; omega⟩), hnx1⟩
        case measure => simp [intOf]
    · have hne : p.host ≠ x := fun e => by have := HZ.out.2 e; omega
      have HNE := Lib.hid hne
      clear hne hc
      go_wp2
      all_goals (try (exfalso; omega))
      go_ret2
      refine ⟨⟨1, ?_, by omega, fun e => absurd e HNE.out⟩, hnx.out⟩
      rw [decide_eq_false HNE.out]
      rfl
    · have hq : (c == 0) = decide (p.host = x) := by
        by_cases h : p.host = x
        · rw [decide_eq_true h, HZ.out.2 h]; rfl
        · rw [decide_eq_false h]
          have : c ≠ 0 := fun e => h (HZ.out.1 e)
          simpa using this
      obtain ⟨d, hd⟩ : ∃ d, d = decide (p.host = x) := ⟨_, rfl⟩
      rw [← hd] at hq
      have HD := Lib.hid hd
      clear hd hc
      go_wp2_with fail
      all_goals (try (exfalso; omega))
      refine (HCM.out _).mono ?_; rintro e w1 ⟨rfl, hb1⟩
      have hnx1 := Lib.hid (hnx.out.trans (hb1.mono hnx.out.size))
      clear hb1 c0 c1 c2
      go_wp2
      all_goals (try (exfalso; omega))
      go_ret2
      refine ⟨⟨0, ?_, by omega, fun _ => rfl⟩, hnx1.out⟩
      rw [← HD.out]
      rfl
end Go.Proofs.YtjbciamhhfcdoaaGreatDoor
namespace Go.Proofs.YtjbciamhhfcdoaaGreatDoor
open Go.RowKit Hs
set_option linter.unusedSimpArgs false
set_option linter.unusedVariables false
theorem pc_one (p : PinP) : ∀ v ∈ pcells p, v.oneCell' = true := by
  intro v hv
  simp [pcells] at hv
  rcases hv with rfl | rfl | rfl <;> rfl
/-- Block t is a table with one pin in block g, and capacity 1. -/
def Tab1 (w : World) (t g : Nat) (p : PinP) : Prop := ∃ cap : Nat, 1 ≤ cap ∧ cap ≤ maxLen ∧ BlkL w t 78 [.slice (some ⟨g, 0, none⟩) 1 cap, .int .i64 1] ∧ (∀ j v, (pcells p)[j]? = some v → w.cell? ⟨g, j, none⟩ = some v) ∧ g < w.heap.size ∧ t < w.heap.size
theorem pt_new (w : World) : Calls Tryz.prog 9 #[.int .i64 1] w fun e w' => e = .returned (.tuple #[.pointer (some ⟨w.heap.size, 0, none⟩), .int .i64 0]) ∧ w' = w.alloc (.cells #[.slice none 0 0, .int .i64 1] 78) := by
  go_enter Tryz.func9, Tryz.ntmps9
  go_wp2
  go_ret2
  exact ⟨rfl, rfl⟩
theorem pt_find_nil (x : Bs) (w : World) : Calls Tryz.prog 31 #[.pointer none, .string (mk x)] w fun e w' => e = .returned (.tuple #[.int .i64 0, .bool false]) ∧ w = w' := by
  go_enter Tryz.func31, Tryz.ntmps31
  go_wp2
  go_ret2
  exact ⟨rfl, rfl⟩
set_option maxRecDepth 20000 in
set_option maxHeartbeats 4000000 in
theorem pt_get_nil (x : Bs) (w : World) : Calls Tryz.prog 115 #[.pointer none, .string (mk x)] w fun e w' => e = .returned (.tuple #[.agg #[.string ⟨#[]⟩, .bool false, .int .i64 0], .bool false]) ∧ Below w.heap.size w w' := by
  obtain ⟨W0, hW0⟩ : ∃ W0, W0 = w.alloc (.cells #[.string ⟨#[]⟩, .bool false, .int .i64 0] 23) := ⟨_, rfl⟩
  have hbA : Below w.heap.size w W0 := by rw [hW0]; exact (Below.refl _ w).alloc (Nat.le_refl _) _
  have hb0 : BlkL W0 w.heap.size 23 (pcells ⟨[], false, 0⟩) := by rw [hW0]; exact BlkL.new w _ _
  have HW0 := Lib.hid hW0.symm
  have HF := Lib.hid (pt_find_nil x W0)
  have HB0 := Lib.hid hb0
  have HBA := Lib.hid hbA
  clear hW0 hbA hb0
  go_enter Tryz.func115, Tryz.ntmps115
  go_upto_region 1 with fail
  rw [HW0.out]
  clear HW0
  go_wp2_with fail
  refine HF.out.mono ?_; rintro e w1 ⟨rfl, rfl⟩
  go_wp2_with (refine wpList_store_row rfl 23 (.tmp 4) (.tmp 16) rfl w.heap.size (pcells ⟨[], false, 0⟩).toArray rfl rfl 23 _ HB0.out infoPin rfl (all_one_of (pc_one _)) ?_)
  all_goals (try (exfalso; omega))
  refine bodyPost_ret (results_ct rfl _ _ w.heap.size 23 _ _ rfl (HB0.out.setRow (pcells ⟨[], false, 0⟩)) Tryz.underlying23 rfl infoPin) rfl ?_
  exact ⟨rfl, below_setRow HBA.out (Nat.le_refl _) _⟩
theorem pt_find0 (t : Nat) (x : Bs) (w : World) (ht : BlkL w t 78 [.slice none 0 0, .int .i64 1]) (hx : x.length ≤ 100000) : Calls Tryz.prog 31 #[.pointer (some ⟨t, 0, none⟩), .string (mk x)] w fun e w' => e = .returned (.tuple #[.int .i64 0, .bool false]) ∧ Below w.heap.size w w' := by
  have c0 := ht.c 0 _ rfl
  have HS := Lib.hid (pt_search0 x w hx)
  go_enter Tryz.func31, Tryz.ntmps31
  go_wp2_with fail
  refine HS.out.mono ?_; rintro e w1 ⟨rfl, hb1⟩
  go_wp2
  go_ret2
  exact ⟨rfl, hb1⟩
end Go.Proofs.YtjbciamhhfcdoaaGreatDoor
