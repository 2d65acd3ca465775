/- The walk of Compare of the layer pin. Conditions: texts are of bounded length.
   A range over a function whose iterator keeps state of its own in memory: a law for the loop (also a round that is left keeps what it must), with the set of the blocks that are the iterator's own carried along. No program in sight. Conditions: the iterator's contract (Seq) is given. -/
import Derived.Test.YtjbciamhhfcdoaaGreatDoorSub20
import Derived.Test.YtjbciamhhfcdoaaGreatDoorSub32
import Derived.RangeFuncNested
import Derived.RangeFuncBound
import Derived.RangeFuncCalls
import Derived.RangeFuncLeaves
namespace Hs
open Go
theorem pcmp_ne {a b : Bs} (h : Lib.compareBytes (tailD a) (tailD b) ≠ 0) : pcmp a b = Lib.compareBytes (tailD a) (tailD b) := by rw [pcmp_step, if_pos h]
theorem pcmp_end {a b : Bs} (h : Lib.compareBytes (tailD a) (tailD b) = 0) (h2 : lastC 46 a < 0 ∨ lastC 46 b < 0) : pcmp a b = Lib.compareInt (min (lastC 46 a) 0) (min (lastC 46 b) 0) := by
  rw [pcmp_step, if_neg (by simp [h]), if_pos h2]
  rfl
theorem pcmp_next {a b : Bs} (h : Lib.compareBytes (tailD a) (tailD b) = 0) (h2 : ¬ (lastC 46 a < 0 ∨ lastC 46 b < 0)) : pcmp a b = pcmp (headD a) (headD b) := by
  rw [pcmp_step, if_neg (by simp [h]), if_neg h2]
end Hs
namespace Go.Proofs.YtjbciamhhfcdoaaGreatDoor
open Go.RowKit Hs
set_option linter.unusedSimpArgs false
set_option linter.unusedVariables false
set_option maxRecDepth 20000 in
set_option maxHeartbeats 4000000 in
theorem pin_compare (a b : ByteArray) (w : World) (ha : a.size ≤ 100000) (hb : b.size ≤ 100000) : Calls Tryz.prog 38 #[.string a, .string b] w fun e w' => e = .returned (.int .i64 (pcmp (un a) (un b))) ∧ Below w.heap.size w w' := by
  obtain ⟨R, hR⟩ : ∃ R, R = pcmp (un a) (un b) := ⟨_, rfl⟩
  rw [← hR]
  have HR := Lib.hid hR
  clear hR
  go_enter Tryz.func38, Tryz.ntmps38
  go_wp2
  go_step3
  go_wp2
  go_step3
  go_wp2
  go_loopw [0, 1] (fun av bv wr => ∃ x y : Bs, av = .string (mk x) ∧ bv = .string (mk y) ∧ x.length ≤ 100000 ∧ y.length ≤ 100000 ∧ Hid (R = pcmp x y) ∧ Below w.heap.size w wr) (fun av _ _ => strLen av)
  case atStart => exact ⟨un a, un b, by rw [mk_un], by rw [mk_un], by rw [length_un]; exact ha, by rw [length_un]; exact hb, HR, Below.refl _ _⟩
  case round =>
    obtain ⟨x, y, rfl, rfl, hx, hy, hst, hnx⟩ := hrel
    have hsx : (mk x).size = x.length := size_mk x
    have hsy : (mk y).size = y.length := size_mk y
    have hlx := fun W => lib_lastByte (mk x) 46 W (by omega)
    have hly := fun W => lib_lastByte (mk y) 46 W (by omega)
    simp only [un_mk] at hlx hly
    have bx := lastC_bounds 46 x
    have hby := lastC_bounds 46 y
    have ex : (mk x).extract (lastC 46 x + 1).toNat x.length = mk (tailD x) := by
      have := ext_from (mk x) (lastC 46 x + 1).toNat
      rw [hsx, un_mk] at this
      exact this
    have ey : (mk y).extract (lastC 46 y + 1).toNat y.length = mk (tailD y) := by
      have := ext_from (mk y) (lastC 46 y + 1).toNat
      rw [hsy, un_mk] at this
      exact this
    have fx : (mk x).extract 0 (lastC 46 x).toNat = mk (headD x) := by rw [ext_to, un_mk]; rfl
    have fy : (mk y).extract 0 (lastC 46 y).toNat = mk (headD y) := by rw [ext_to, un_mk]; rfl
    have hcm := fun W => lib_cmpS (mk (tailD x)) (mk (tailD y)) W
    simp only [un_mk] at hcm
    have hne := @pcmp_ne x y
    have hend := @pcmp_end x y
    have hnext := @pcmp_next x y
    have hhx := headD_len x
    have hhy := headD_len y
    obtain ⟨p, hp⟩ : ∃ p, p = lastC 46 x := ⟨_, rfl⟩
    obtain ⟨q, hq⟩ : ∃ q, q = lastC 46 y := ⟨_, rfl⟩
    obtain ⟨c, hc⟩ : ∃ c, c = Lib.compareBytes (tailD x) (tailD y) := ⟨_, rfl⟩
    simp only [← hp, ← hq, ← hc] at *
    have HLX := Lib.hid hlx
    have HLY := Lib.hid hly
    have HCM := Lib.hid hcm
    have HNE := Lib.hid hne
    have HEND := Lib.hid hend
    have HNEXT := Lib.hid hnext
    have hI1 : (0 : Int) ≤ p + 1 := by omega
    have hI2 : p + 1 ≤ (x.length : Int) := by omega
    have hI3 : (0 : Int) ≤ q + 1 := by omega
    have hI4 : q + 1 ≤ (y.length : Int) := by omega
    have hw1 : IntKind.i64.wrap (p + 1) = p + 1 := by rw [IntKind.wrap_i64]; omega
    have hw2 : IntKind.i64.wrap (q + 1) = q + 1 := by rw [IntKind.wrap_i64]; omega
    clear hlx hly hcm hne hend hnext hp hq hc
    go_wp2_with fail
    refine (HLX.out _).mono ?_; rintro e w1 ⟨rfl, rfl⟩
    go_wp2_with fail
    refine (HLY.out _).mono ?_; rintro e w1 ⟨rfl, rfl⟩
    go_upto_region 3 with fail
    all_goals (try (exfalso; omega))
    refine wp_region_quiet_lit (by kernel_rfl) (by kernel_rfl) ?_
    repeat (go_big_quiet_step (fail))
    go_big_quiet_want
    go_big_quiet_op
    apply Exists.intro
    refine ⟨fun _ => ?_, ?_⟩
    · exact Calls.quiet_of_same ((HCM.out _).mono (fun _ _ h => ⟨h.1, h.2.symm⟩))
    go_big_quiet_on
    repeat (go_big_quiet_step (fail))
    refine wpQuiet_nil ?_
    intro _ hw'
    obtain ⟨nq, hw''⟩ := hw'
    subst hw''
    have hnx2 := below_drewN hnx nq
    generalize wr.drewN nq = wq at *
    by_cases hc0 : c = 0
    · have g1 : (c != 0) = false := by simpa using hc0
      by_cases hlt : p < 0 ∨ q < 0
      · have hfin := Lib.hid (hst.out.trans (HEND.out hc0 hlt))
        have hci := fun W => Tryz.cmp_Compare_int (min p 0) (min q 0) W
        have HCI := Lib.hid hci
        have hor : p < 0 ∨ (¬ p < 0 ∧ q < 0) := by omega
        clear HEND HNEXT HNE hc0 hst hnx hci hlt
        obtain ⟨mp, hmp⟩ : ∃ mp, mp = min p 0 := ⟨_, rfl⟩
        obtain ⟨mq, hmq⟩ : ∃ mq, mq = min q 0 := ⟨_, rfl⟩
        rw [← hmp, ← hmq] at hfin
        simp only [← hmp, ← hmq] at HCI
        have hmp2 := hmp.symm
        have hmq2 := hmq.symm
        clear hmp hmq
        rcases hor with h | ⟨h, h2⟩
        all_goals
          go_wp2_with fail
          all_goals (try (exfalso; omega))
          refine (HCI.out _).mono ?_; rintro e w9 ⟨rfl, rfl⟩
          go_wp2
          all_goals (try (exfalso; omega))
          go_goals
          (try rw [Exit.noGoto_ret])
          go_ret
          rw [hfin.out]
          exact ⟨rfl, hnx2⟩
      · have hfin := Lib.hid (hst.out.trans (HNEXT.out hc0 hlt))
        have g2 : decide (p < (0 : Int)) = false := decide_eq_false (by omega)
        have g3 : decide (q < (0 : Int)) = false := decide_eq_false (by omega)
        have hp0 : 0 ≤ p := by omega
        have hq0 : 0 ≤ q := by omega
        have hp1 : p ≤ (x.length : Int) := by omega
        have hq1 : q ≤ (y.length : Int) := by omega
        have hh1 := hhx hp0
        have hh2 := hhy hq0
        clear HEND HNEXT HNE hc0 hst hnx hlt hhx hhy
        go_upto_region 7 with fail
        all_goals (try (exfalso; omega))
        refine wp_region_quiet_lit (by kernel_rfl) (by kernel_rfl) ?_
        repeat (go_big_quiet_step (fail))
        refine wpQuiet_nil ?_
        intro _ hw'
        obtain ⟨nq2, hw''⟩ := hw'
        subst hw''
        have hnx3 := below_drewN hnx2 nq2
        go_wp2
        all_goals (try (exfalso; omega))
        go_roundw
        case rel => exact ⟨headD x, headD y, by first | rfl | rw [fx], by first | rfl | rw [fy], by omega, by omega, hfin, hnx3⟩
        case measure => simp [strLen]; omega
    · have g1 : (c != 0) = true := by simpa using hc0
      have hfin := Lib.hid (hst.out.trans (HNE.out hc0))
      clear HEND HNEXT HNE hc0 hst hnx
      go_wp2
      all_goals (try (exfalso; omega))
      (try rw [Exit.noGoto_ret])
      go_ret
      rw [hfin.out]
      exact ⟨rfl, hnx2⟩
end Go.Proofs.YtjbciamhhfcdoaaGreatDoor
namespace Hs
open Go Go.RowKit
set_option linter.unusedVariables false

/-- What lies in the blocks of which G speaks is as it was. -/
structure Keeps (G : Nat → Prop) (A B : World) : Prop where
  os : B.os = A.os
  tape : B.tape = A.tape
  output : B.output = A.output
  size : A.heap.size ≤ B.heap.size
  block : ∀ k, k < A.heap.size → G k → B.heap[k]? = A.heap[k]?

theorem Keeps.refl (G : Nat → Prop) (A : World) : Keeps G A A := ⟨rfl, rfl, rfl, Nat.le_refl _, fun _ _ _ => rfl⟩
theorem Keeps.trans {G : Nat → Prop} {A B C : World} (h : Keeps G A B) (k : Keeps G B C) : Keeps G A C :=
  ⟨k.os.trans h.os, k.tape.trans h.tape, k.output.trans h.output, Nat.le_trans h.size k.size, fun i hi hg => (k.block i (Nat.lt_of_lt_of_le hi h.size) hg).trans (h.block i hi hg)⟩
theorem Keeps.mono {G G' : Nat → Prop} {A B : World} (h : Keeps G A B) (hg : ∀ k, G' k → G k) : Keeps G' A B :=
  ⟨h.os, h.tape, h.output, h.size, fun k hk hg' => h.block k hk (hg k hg')⟩
theorem Keeps.of_below {G : Nat → Prop} {A B : World} (h : Below A.heap.size A B) : Keeps G A B := ⟨h.os, h.tape, h.output, h.size, fun k hk _ => h.block k hk⟩
theorem Keeps.of_grown {G : Nat → Prop} {A B : World} {row : Option Nat} (h : A.grownBy B row) (hr : ∀ r, row = some r → ¬ G r) : Keeps G A B :=
  ⟨h.os, h.tape, h.output, h.size, fun k hk hg => h.block k hk (fun e => hr k e.symm hg)⟩
theorem Keeps.alloc (G : Nat → Prop) (A : World) (o : Obj) : Keeps G A (A.alloc o) := .of_below ((Below.refl _ A).alloc (Nat.le_refl _) o)
theorem Keeps.setCell {G : Nat → Prop} (A : World) (b j : Nat) (hb : ¬ G b) (v : Value) : Keeps G A (A.setCell ⟨b, j, none⟩ v) := by
  have h := (Below.refl 0 A).setCell (p := ⟨b, j, none⟩) (Nat.zero_le _) v
  exact ⟨h.os, h.tape, h.output, h.size, fun k hk hg => Below.heap_setCell A ⟨b, j, none⟩ v k (fun e => hb (by have e2 : k = b := e; rw [← e2]; exact hg))⟩
theorem Keeps.cell {G : Nat → Prop} {A B : World} (h : Keeps G A B) {b j : Nat} (hb : b < A.heap.size) (hg : G b) : B.cell? ⟨b, j, none⟩ = A.cell? ⟨b, j, none⟩ := World.cell?_of_block (h.block b hb hg)
theorem Keeps.frozen {G : Nat → Prop} {A B : World} (h : Keeps G A B) {b j : Nat} (hb : b < A.heap.size) (hg : G b) : B.frozen? ⟨b, j, none⟩ = A.frozen? ⟨b, j, none⟩ := World.frozen?_of_block (h.block b hb hg)
theorem Keeps.below {n : Nat} {A B : World} (h : Keeps (· < n) A B) (hn : n ≤ A.heap.size) : Below n A B := ⟨h.os, h.tape, h.output, h.size, fun k hk => h.block k (by omega) hk⟩
theorem grown_of_below {A B : World} (h : Below A.heap.size A B) : A.grownBy B none := ⟨h.os, h.tape, h.output, h.size, fun k hk _ => h.block k hk⟩
theorem grown_setCell (A : World) (b j : Nat) (v : Value) : A.grownBy (A.setCell ⟨b, j, none⟩ v) (some b) := by
  have h := (Below.refl 0 A).setCell (p := ⟨b, j, none⟩) (Nat.zero_le _) v
  exact ⟨h.os, h.tape, h.output, h.size, fun k hk hr => Below.heap_setCell A ⟨b, j, none⟩ v k (fun e => hr (by rw [e]))⟩

/-- An invariant of the caller's that abides what the iterator does in its own blocks (G), and new blocks of the iterator's. -/
structure AbidesG {β : Type} (J : β → (Nat → Prop) → World → Prop) : Prop where
  turn : ∀ s G A B row, J s G A → A.grownBy B row → (∀ r, row = some r → G r) → J s G B
  lay : ∀ s G A B, J s G A → A.grownBy B none → J s (fun k => G k ∨ (A.heap.size ≤ k ∧ k < B.heap.size)) B

/-- The contract of an iterator: 'own' are the blocks of its own when it is called; a round keeps these, and whatever lies below n₀; at each round what has come, that element with it, is such that Sp. -/
def Seq {α : Type} (F : Fence) (n : Nat) (P : Program) (g : Nat) (lb : Array Value) (encs : α → Array Value) (own : Nat → Prop) (n₀ : Nat) (S Sp : List α → Prop) (w : World) : Prop :=
  ∀ (l : Nat) (J Jx : List α → (Nat → Prop) → World → Prop) (W : World), Below w.heap.size w W → AbidesG J → AbidesG Jx →
    (∀ pre x G W1, J pre G W1 → Sp (pre ++ [x]) → YieldAt F (n - 1) P l (encs x) W1 fun e W' =>
      (e = .returned (.bool true) ∧ J (pre ++ [x]) G W' ∧ Keeps (fun k => G k ∨ k < n₀) W1 W') ∨ (e = .returned (.bool false) ∧ Jx (pre ++ [x]) G W' ∧ Keeps (fun k => G k ∨ k < n₀) W1 W')) →
    J [] own W →
    CallsIn F n P g (#[.func (.yield l) #[] #[]] ++ lb) W fun e W' => (∃ v, e = .returned v) ∧ ((∃ xs G, S xs ∧ J xs G W') ∨ (∃ pre G, Sp pre ∧ Jx pre G W'))

/-- How the body of a round may be left: the loop's record (block L) is as it was. -/
def postR {α : Type} (L n₀ : Nat) (I : List α → (Nat → Prop) → World → Prop) (Ix : Code → List α → (Nat → Prop) → World → Prop) (xs : List α) (G : Nat → Prop) (W : World) : Exit → Act → World → Prop
  | .normal, _, W' => W'.heap[L]? = W.heap[L]? ∧ Keeps (fun k => G k ∨ k < n₀) W W' ∧ I xs G W'
  | .ret, _, W' => W'.heap[L]? = W.heap[L]? ∧ Keeps (fun k => G k ∨ k < n₀) W W' ∧ Ix .ret xs G W'
  | .exit id, _, W' => W'.heap[L]? = W.heap[L]? ∧ Keeps (fun k => G k ∨ k < n₀) W W' ∧ Ix (.exit id) xs G W'
  | .goto t, _, W' => W'.heap[L]? = W.heap[L]? ∧ Keeps (fun k => G k ∨ k < n₀) W W' ∧ Ix (.goto t) xs G W'
  | .panic _, _, _ => False
  | .outgrown, _, _ => False

variable {F : Fence} {n : Nat} {P : Program}

/-- The loop, however it is entered: its record is laid in w₁ as block L. -/
theorem range_law {α : Type} {g : Operand} {ps : Array Tmp} {assign body : Code} {Q : Exit → Act → World → Prop} {a : Act} {w w₁ : World} {L dfr : Nat} {mark : List Deferred}
    (h1 : 1 ≤ n) (hL : L = w₁.heap.size)
    (hent : ∀ fn, (Instr.enterLoop fn a.tmps ps assign body F.round).run P w = .ok (L, mark) (w₁.alloc (.loop { state := .ready, pending := none, fn, tmps := a.tmps, params := ps, assign, body, defers := dfr })))
    {gf : Nat} {lb : Array Value} (hg : a.eval g = .func (.func gf) #[] lb) (hFg : F.fn gf) (eg : ∀ args w, (callFunc gf args).run P w = .ok (.enter gf args) w)
    {encs : α → Array Value} {own : Nat → Prop} {n₀ : Nat} {S Sp : List α → Prop} {w0 : World} (hseq : Seq F (n - 1) P gf lb encs own n₀ S Sp w0)
    (hb0 : Below w0.heap.size w0 w₁) (hps : ∀ x, (encs x).size = ps.size) (hn₀ : n₀ ≤ L) (hown : ¬ own L)
    (I : List α → (Nat → Prop) → World → Prop) (Ix : Code → List α → (Nat → Prop) → World → Prop)
    (hIt : ∀ s G A B row, I s G A → A.grownBy B row → (∀ r, row = some r → G r ∨ r = L) → I s G B)
    (hIl : ∀ s G A B, I s G A → A.grownBy B none → I s (fun k => G k ∨ (A.heap.size ≤ k ∧ k < B.heap.size)) B)
    (hXt : ∀ c s G A B row, Ix c s G A → A.grownBy B row → (∀ r, row = some r → G r ∨ r = L) → Ix c s G B)
    (hXl : ∀ c s G A B, Ix c s G A → A.grownBy B none → Ix c s (fun k => G k ∨ (A.heap.size ≤ k ∧ k < B.heap.size)) B)
    (h0 : ∀ o, I [] own (w₁.alloc o)) (Ax : α → Act → World → Prop)
    (hAx : ∀ x a' A B row, Ax x a' A → A.grownBy B row → (∀ r, row = some r → r = L) → Ax x a' B)
    (hassign : ∀ (pre : List α) (x : α) (G : Nat → Prop) (W : World) (K : Act → World → Prop), I pre G W → Sp (pre ++ [x]) →
      (∀ a' W', W'.heap[L]? = W.heap[L]? → Keeps (fun k => G k ∨ k < n₀) W W' → I pre G W' → Ax x a' W' → K a' W') →
      assign.wpIn (F.inRound L) (n - 1 - 1) P (Exit.then K (fun _ _ _ => False)) { tmps := (ps.zip (encs x)).foldl (fun t (p, v) => t.setIfInBounds p v) a.tmps, defers := [] } W)
    (hbody : ∀ (pre : List α) (x : α) (G : Nat → Prop) (a' : Act) (W : World), (∃ r, W.heap[L]? = some (.loop r)) → I pre G W → Ax x a' W → Sp (pre ++ [x]) →
      body.wpIn (F.inRound L) (n - 1 - 1) P (postR L n₀ I Ix (pre ++ [x]) G W) a' W)
    (hdone : ∀ (xs : List α) (G : Nat → Prop) (W : World), S xs → I xs G W → Q .normal { a with defers := mark ++ a.defers } W)
    (hstop : ∀ (c : Code) (pre : List α) (G : Nat → Prop) (W : World), Sp pre → Ix c pre G W → c.wpIn F n P Q { a with defers := mark ++ a.defers } W) :
    (Code.rangeFunc g ps assign body).wpIn F n P Q a w := by
  subst hL
  refine wpIn_rangeFunc fun fn hfn => ?_
  obtain ⟨rec, hrec⟩ : ∃ rec : LoopState → Option Code → Loop, rec = fun st pe => { state := st, pending := pe, fn, tmps := a.tmps, params := ps, assign, body, defers := dfr } := ⟨_, rfl⟩
  have hent' := hent fn
  rw [show Obj.loop { state := .ready, pending := none, fn, tmps := a.tmps, params := ps, assign, body, defers := dfr } = Obj.loop (rec .ready none) from by rw [hrec]] at hent'
  have hL1 := World.alloc_heap_new w₁ (.loop (rec .ready none))
  have hI1 := h0 (.loop (rec .ready none))
  have hb1 : Below w0.heap.size w0 (w₁.alloc (.loop (rec .ready none))) := hb0.trans (((Below.refl _ w₁).alloc (Nat.le_refl _) _).mono hb0.size)
  generalize w₁.alloc (.loop (rec .ready none)) = W1 at *
  generalize w₁.heap.size = L at *
  refine ⟨L, mark, W1, { target := .fn (.func gf) lb, args := #[.func (.yield L) #[] #[]] }, W1, gf, #[.func (.yield L) #[] #[]] ++ lb, W1, hent', ?_, ?_, ?_, fun _ => h1, ?_⟩
  · simp only [resolve, hg]
    simp [go_sem]
  · intro f' hf'; simp [Target.leads] at hf'; subst hf'; exact hFg
  · simp [invoke, go_sem, eg]
  -- what the record holds abides the iterator's own steps
  have keepL : ∀ {G : Nat → Prop} {A B : World} {row : Option Nat} {o : Obj}, A.heap[L]? = some o → ¬ G L → A.grownBy B row → (∀ r, row = some r → G r) → B.heap[L]? = some o :=
    fun hl hG hg' hr => (hg'.block L (Array.getElem?_eq_some_iff.1 hl).1 (fun e => hG (hr L e.symm))).trans hl
  have layL : ∀ {G : Nat → Prop} {A B : World} {o : Obj}, A.heap[L]? = some o → ¬ G L → ¬ (G L ∨ (A.heap.size ≤ L ∧ L < B.heap.size)) :=
    fun hl hG h => h.elim hG fun h => by have := (Array.getElem?_eq_some_iff.1 hl).1; omega
  have put : ∀ (W : World) (o : Obj), W.grownBy (W.putObj L o) (some L) := fun W o => grownBy_putObj' W L o
  refine (hseq L (fun pre G W => I pre G W ∧ ¬ G L ∧ W.heap[L]? = some (.loop (rec .ready none)))
    (fun pre G W => ∃ c, Ix c pre G W ∧ ¬ G L ∧ W.heap[L]? = some (.loop (rec .done (some c)))) W1 hb1
    ⟨fun s G A B row hs hg' hr => ⟨hIt s G A B row hs.1 hg' (fun r e => .inl (hr r e)), hs.2.1, keepL hs.2.2 hs.2.1 hg' hr⟩,
      fun s G A B hs hg' => ⟨hIl s G A B hs.1 hg', layL hs.2.2 hs.2.1, keepL (G := G) hs.2.2 hs.2.1 hg' (fun r e => by cases e)⟩⟩
    ⟨fun s G A B row ⟨c, hs, hG, hl⟩ hg' hr => ⟨c, hXt c s G A B row hs hg' (fun r e => .inl (hr r e)), hG, keepL hl hG hg' hr⟩,
      fun s G A B ⟨c, hs, hG, hl⟩ hg' => ⟨c, hXl c s G A B hs hg', layL hl hG, keepL (G := G) hl hG hg' (fun r e => by cases e)⟩⟩
    ?_ ⟨hI1, hown, hL1⟩).mono ?_
  · rintro pre x G W ⟨hi, hG, hl⟩ hlen
    have hy := run_yield (P := P) (args := encs x) hl (by rw [hrec]; exact hps x)
    rw [hrec] at hy
    refine ⟨fn, _, assign, body, hy, roundIn_of_wpIn hfn (hassign pre x G W _ hi hlen ?_)⟩
    clear hy
    intro a' Wa hla hka hia hax
    have hl0 := hla.trans hl
    refine ⟨_, run_beginRound hl0 (by rw [hrec]), ?_⟩
    have hlt := (Array.getElem?_eq_some_iff.1 hl0).1
    have hbusy : (Wa.putObj L (.loop { rec .ready none with state := .busy })).heap[L]? = some (.loop { rec .ready none with state := .busy }) := World.putObj_heap_same hlt
    have hkb : Keeps (fun k => G k ∨ k < n₀) W (Wa.putObj L (.loop { rec .ready none with state := .busy })) :=
      hka.trans (.of_grown (put _ _) (fun r e => by cases e; exact fun h => h.elim hG (by omega)))
    refine wpIn_mono (hbody pre x G a' _ ⟨_, hbusy⟩ (hIt _ _ _ _ _ hia (put _ _) (fun r e => by cases e; exact .inr rfl)) (hAx _ _ _ _ _ hax (put _ _) (fun r e => by cases e; rfl)) hlen) ?_
    have fin : ∀ (jump : Option Code) (W3 : World), W3.heap[L]? = (Wa.putObj L (.loop { rec .ready none with state := .busy })).heap[L]? →
        (Instr.endRound L jump).run P W3 = .ok (.bool jump.isNone) (W3.putObj L (.loop (rec (if jump.isNone then .ready else .done) jump))) ∧
        (W3.putObj L (.loop (rec (if jump.isNone then .ready else .done) jump))).heap[L]? = some (.loop (rec (if jump.isNone then .ready else .done) jump)) := fun jump W3 h3 => by
      have hl3 := h3.trans hbusy
      have := run_endRound (P := P) jump hl3
      rw [hrec] at this ⊢
      exact ⟨this, World.putObj_heap_same (Array.getElem?_eq_some_iff.1 hl3).1⟩
    rintro e a3 W3 hp
    cases e with
    | normal =>
      obtain ⟨h3, hk3, hi3⟩ := hp
      obtain ⟨hr, hl4⟩ := fin none W3 h3
      exact ⟨_, _, hr, .inl ⟨rfl, ⟨hIt _ _ _ _ _ hi3 (put _ _) (fun r e => by cases e; exact .inr rfl), hG, hl4⟩,
        (hkb.trans hk3).trans (.of_grown (put _ _) (fun r e => by cases e; exact fun h => h.elim hG (by omega)))⟩⟩
    | ret =>
      obtain ⟨hr, hl4⟩ := fin (some .ret) W3 hp.1
      exact ⟨_, _, hr, .inr ⟨rfl, ⟨.ret, hXt _ _ _ _ _ _ hp.2.2 (put _ _) (fun r e => by cases e; exact .inr rfl), hG, hl4⟩, (hkb.trans hp.2.1).trans (.of_grown (put _ _) (fun r e => by cases e; exact fun h => h.elim hG (by omega)))⟩⟩
    | exit id =>
      obtain ⟨hr, hl4⟩ := fin (some (.exit id)) W3 hp.1
      exact ⟨_, _, hr, .inr ⟨rfl, ⟨.exit id, hXt _ _ _ _ _ _ hp.2.2 (put _ _) (fun r e => by cases e; exact .inr rfl), hG, hl4⟩, (hkb.trans hp.2.1).trans (.of_grown (put _ _) (fun r e => by cases e; exact fun h => h.elim hG (by omega)))⟩⟩
    | goto t =>
      obtain ⟨hr, hl4⟩ := fin (some (.goto t)) W3 hp.1
      exact ⟨_, _, hr, .inr ⟨rfl, ⟨.goto t, hXt _ _ _ _ _ _ hp.2.2 (put _ _) (fun r e => by cases e; exact .inr rfl), hG, hl4⟩, (hkb.trans hp.2.1).trans (.of_grown (put _ _) (fun r e => by cases e; exact fun h => h.elim hG (by omega)))⟩⟩
    | panic ch => exact hp.elim
    | outgrown => exact hp.elim
  · rintro e W2 ⟨⟨v, rfl⟩, (⟨xs, G, hS, hi, hG, hl⟩ | ⟨pre, G, hSp, c, hi, hG, hl⟩)⟩
    · exact ⟨none, _, by have := run_endLoop (P := P) hl (by rw [hrec]; simp); rw [hrec] at this; exact this, hdone xs G _ hS (hIt _ _ _ _ _ hi (put _ _) (fun r e => by cases e; exact .inr rfl))⟩
    · exact ⟨some c, _, by have := run_endLoop (P := P) hl (by rw [hrec]; simp); rw [hrec] at this; exact this, hstop c pre G _ hSp (hXt _ _ _ _ _ _ hi (put _ _) (fun r e => by cases e; exact .inr rfl))⟩

theorem enter_outer (hro : F.round = none) (w : World) (a : Act) (ps : Array Tmp) (assign body : Code) : ∀ fn, (Instr.enterLoop fn a.tmps ps assign body F.round).run P w = .ok (w.heap.size + 1, [{ target := .collected w.heap.size, args := #[] }]) ((w.alloc (.deferred (some []))).alloc (.loop { state := .ready, pending := none, fn, tmps := a.tmps, params := ps, assign, body, defers := w.heap.size })) := fun fn => by
  rw [hro]; exact run_enterLoop_outer _ _ _ _ _
theorem enter_inner {l₀ : Nat} {r₀ : Loop} (hro : F.round = some l₀) (w : World) (hl₀ : w.heap[l₀]? = some (.loop r₀)) (a : Act) (ps : Array Tmp) (assign body : Code) : ∀ fn, (Instr.enterLoop fn a.tmps ps assign body F.round).run P w = .ok (w.heap.size, []) (w.alloc (.loop { state := .ready, pending := none, fn, tmps := a.tmps, params := ps, assign, body, defers := r₀.defers })) := fun fn => by
  rw [hro]; exact run_enterLoop_inner hl₀ _ _ _ _ _
/-- Where no depth is asked the figures are all one. -/
theorem YieldAt.anyDepth {F : Fence} (hd : F.depth = none) {m : Nat} (m' : Nat) {P : Program} {l : Nat} {args : Array Value} {W : World} {R : Ending → World → Prop} (h : YieldAt F m P l args W R) : YieldAt F m' P l args W R := by
  obtain ⟨fn, tmps, assign, body, hy, hR⟩ := h
  exact ⟨fn, tmps, assign, body, hy, hR.1, fun c cs _ => hR.2 c cs (fun d h => by rw [hd] at h; cases h)⟩
theorem Seq.inRound {α : Type} {g : Nat} {lb : Array Value} {encs : α → Array Value} {own : Nat → Prop} {n₀ : Nat} {S Sp : List α → Prop} {w : World} (l : Nat) (h : Seq F n P g lb encs own n₀ S Sp w) : Seq (F.inRound l) n P g lb encs own n₀ S Sp w := h
theorem Keeps.grown {G : Nat → Prop} {A B C : World} {row : Option Nat} (h : Keeps G A B) (hg : B.grownBy C row) (hr : ∀ r, row = some r → A.heap.size ≤ r) : Keeps G A C :=
  ⟨hg.os.trans h.os, hg.tape.trans h.tape, hg.output.trans h.output, Nat.le_trans h.size hg.size, fun k hk hG => (hg.block k (Nat.lt_of_lt_of_le hk h.size) (fun e => by have := hr k e.symm; omega)).trans (h.block k hk hG)⟩
end Hs
