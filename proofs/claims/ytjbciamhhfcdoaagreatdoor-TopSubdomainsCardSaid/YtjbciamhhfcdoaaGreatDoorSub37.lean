/- A map from names to true in memory: the names that have been seen. Conditions: none.
   What holds between two rounds of Merge of the layer csp; its laws. Conditions: none. -/
import Derived.Test.YtjbciamhhfcdoaaGreatDoorSub34
import Derived.Test.YtjbciamhhfcdoaaGreatDoorSub01
import Derived.Test.YtjbciamhhfcdoaaGreatDoorSub12
import Derived.Maps.OwnSet
import Derived.Maps.OwnIn
import Derived.WalkKit
import Derived.Test.YtjbciamhhfcdoaaGreatDoorSub36
import Derived.Test.YtjbciamhhfcdoaaGreatDoorSub23
import Derived.Test.YtjbciamhhfcdoaaGreatDoorSub35
import Derived.RangeFuncBox
import Derived.Maps.AppendAt
namespace Go.Proofs.YtjbciamhhfcdoaaGreatDoor
open Go.RowKit Go.Maps Hs
set_option linter.unusedSimpArgs false
set_option linter.unusedVariables false

/-- How an element reads. -/
def boolElem (v : Value) : Option (DataW Unit × List MemPlace) := match v with
  | .bool b => some (.lit (.bool b), [])
  | _ => none
theorem boolElem_inv {v : Value} {b : Bool} {ps : List MemPlace} (h : boolElem v = some (.lit (.bool b), ps)) : v = .bool b := by
  unfold boolElem at h
  split at h
  · simp only [Option.some.injEq, Prod.mk.injEq, DataW.lit.injEq, Lit.bool.injEq] at h
    rw [h.1]
  · cases h
/-- What the map reads as behind the names l. -/
def mapN : List Bs → DataW Unit := fun l => l.foldl (fun D n => D.put (.string n) (.lit (.bool true))) (.map [])
theorem mapN_snoc (l : List Bs) (n : Bs) : mapN (l ++ [n]) = (mapN l).put (.string n) (.lit (.bool true)) := by simp [mapN, List.foldl_append]
theorem key_lit (n : Bs) : WideAt.IsKeyLit (.string n) := by trivial
theorem mapN_tidy (l : List Bs) : Tidy (mapN l) := by
  have : ∀ (l : List Bs) (D : DataW Unit), Tidy D → Tidy (l.foldl (fun D n => D.put (.string n) (.lit (.bool true))) D) := by
    intro l
    induction l with
    | nil => intro D h; exact h
    | cons d l ih => intro D h; exact ih _ (h.put (key_lit _) _)
  exact this l _ tidy_empty
theorem mapN_rev (n : Bs) : ∀ l : List Bs, (mapN l.reverse).atKey (.string n) (.lit (.bool false)) = .lit (.bool (decide (n ∈ l)))
  | [] => rfl
  | d :: l => by
    rw [List.reverse_cons, mapN_snoc]
    have ih := mapN_rev n l
    by_cases hd : d = n
    · subst hd
      rw [atKey_put_same (mapN_tidy _).isMap (key_lit _)]
      simp
    · have hne : (Lit.string n) ≠ (Lit.string d) := fun e => by
        simp only [Lit.string.injEq] at e
        exact hd e.symm
      rw [atKey_put_other hne, ih]
      have e : (n ∈ d :: l) = (n ∈ l) := by simp only [List.mem_cons, eq_iff_iff]; exact ⟨fun h => h.elim (fun e => absurd e.symm hd) id, .inr⟩
      simp only [e]
theorem mapN_at (l : List Bs) (n : Bs) : (mapN l).atKey (.string n) (.lit (.bool false)) = .lit (.bool (decide (n ∈ l))) := by
  have := mapN_rev n l.reverse
  rw [List.reverse_reverse] at this
  rw [this]
  simp
theorem str_key : Keyed Tryz.prog 9 := string_keyed Tryz.underlying9
theorem zero_bool (w : World) : (zeroValue 4).run Tryz.prog w = .ok (.bool false) w := by kernel_rfl
/-- 'm[name]' where what comes back is known. -/
theorem wpListIn_lookup_seen {F : Fence} {nF : Nat} {w : World} {ops : Array Oper} {rest : List Oper} {o : Oper} {a : Act} {Q : Exit → Act → World → Prop} (hg : o.guard = none) (m x : Operand) (hop : o.op = Op.lookup 128 m x false)
    (b n : Nat) (l : List Bs) (hm : a.eval m = .map (some b)) (hown : w.ownsMap Tryz.prog 9 boolElem b n (mapN l)) (s : Bs) (hx : a.eval x = .string (mk s)) (hs : s.length ≤ maxLen) (ok : Bool) (hok : decide (s ∈ l) = ok)
    (hK : wpListIn F nF Tryz.prog ops Q rest (a.put o.dst (.bool ok)) w) : wpListIn F nF Tryz.prog ops Q (o :: rest) a w := by
  have hkey : keyOf Tryz.prog 9 (.string (mk s)) = some (.string s) := by rw [WideMaps.keyOf_string_mk Tryz.underlying9 (by rw [size_mk]; exact hs)]; exact congrArg some (congrArg Lit.string (un_mk s))
  refine wpListIn_plain hg fun K' hK' => ?_
  obtain ⟨v, ps, hrun, hv⟩ := hown.lookup str_key Tryz.underlying128 (zero_bool w) (zd := .lit (.bool false)) (zp := []) rfl hkey
  rw [mapN_at, hok] at hv
  obtain rfl := boolElem_inv hv
  unfold Oper.wpIn
  refine ⟨by simp [Oper.about, hop], ?_⟩
  rw [Oper.semAt_plain F _ _ (by rw [hop]; intro c hc'; cases hc')]
  simp [execOp, hop, hm, hx, hrun, Result.andThen]
  exact hK' _ _ hK
theorem wpListIn_seen {F : Fence} {nF : Nat} (w : World) {ops : Array Oper} {rest : List Oper} {o : Oper} {a : Act} {Q : Exit → Act → World → Prop} (hg : o.guard = none) (m x v : Operand) (hop : o.op = Op.mapUpdate 128 m x v)
    (b n : Nat) (l : List Bs) (hm : a.eval m = .map (some b)) (hown : w.ownsMap Tryz.prog 9 boolElem b n (mapN l)) (hn : n < maxLen) (s : Bs) (hx : a.eval x = .string (mk s)) (hv : a.eval v = .bool true) (hs : s.length ≤ maxLen)
    (hK : ∀ w', w'.ownsMap Tryz.prog 9 boolElem b (n + 1) (mapN (l ++ [s])) → w.grownBy w' (some b) → wpListIn F nF Tryz.prog ops Q rest (a.put o.dst undef) w') : wpListIn F nF Tryz.prog ops Q (o :: rest) a w := by
  have hkey : keyOf Tryz.prog 9 (.string (mk s)) = some (.string s) := by rw [WideMaps.keyOf_string_mk Tryz.underlying9 (by rw [size_mk]; exact hs)]; exact congrArg some (congrArg Lit.string (un_mk s))
  exact wpListIn_mapUpdate_own w hg m x v 128 hop 9 4 str_key Tryz.underlying128 boolElem b n (mapN l) hm hown hn _ _ (.string s) hx hv hkey (.lit (.bool true)) [] rfl (fun w' h1 h2 => hK w' (by rw [mapN_snoc]; exact h1) h2)
end Go.Proofs.YtjbciamhhfcdoaaGreatDoor
namespace Go.Proofs.YtjbciamhhfcdoaaGreatDoor
open Go.RowKit Go.Shelf Hs
set_option linter.unusedSimpArgs false
set_option linter.unusedVariables false

theorem own_slice {w : World} {base : Nat} {e : TypeId} {size n : Nat} {v : Value} {xs : List Value} (h : w.ownsRow base e size v n xs) : ∃ a cap, v = .slice a n cap := by
  rcases h.2 with ⟨rfl, rfl⟩ | ⟨g, cap, cur, rfl, _⟩
  · exact ⟨none, 0, rfl⟩
  · exact ⟨_, cap, rfl⟩
theorem own_ne_obj {w : World} {base : Nat} {e : TypeId} {size n : Nat} {v : Value} {xs : List Value} {k : Nat} {o : Obj} (hd : w.heap[k]? = some o) (ho : ∀ C f, o ≠ .cells C e f) (h : w.ownsRow base e size v n xs) : v.ownBlock ≠ some k := by
  rcases h.2 with ⟨rfl, rfl⟩ | ⟨g, cap, cur, rfl, hb, hg, _⟩
  · simp [Value.ownBlock]
  · intro e
    have : g = k := by simpa [Value.ownBlock] using e
    subst this
    rw [hg] at hd
    exact ho _ _ (Option.some.inj hd).symm
theorem own_ne_of {v : Value} {r : Option Nat} (h : ∀ k, r = some k → v.ownBlock ≠ some k) : v.ownBlock = none ∨ v.ownBlock ≠ r := by
  cases r with
  | none => cases hv : v.ownBlock <;> simp
  | some k => exact .inr (h k rfl)

theorem own_keeps {A B : World} {G : Nat → Prop} {base : Nat} {e : TypeId} {size n : Nat} {v : Value} {xs : List Value} (h : A.ownsRow base e size v n xs) (hk : Keeps G A B) (hg : ∀ k, v.ownBlock = some k → G k) : B.ownsRow base e size v n xs := by
  refine ⟨h.1, ?_⟩
  rcases h.2 with h0 | ⟨g, cap, cur, rfl, hb, hgg, rest⟩
  · exact .inl h0
  · exact .inr ⟨g, cap, cur, rfl, hb, (hk.block g (Array.getElem?_eq_some_iff.1 hgg).1 (hg g rfl)).trans hgg, rest⟩
/-- The blocks of a call of Merge: z: the result; z + 1: out; z + 2: the map; z + 3: its box; ds: the blocks for deferred calls. -/
structure MCore (w : World) (z : Nat) (N : List Bs) (v : Value) (ds : List Nat) (W : World) : Prop where
  res : Blk3 W z 98 (.bool false) (.bool false) (.slice none 0 0)
  out : Blk3 W (z + 1) 98 (.bool false) (.bool false) v
  row : W.ownsRow z 9 1 v N.length (scells N)
  seen : W.ownsMap Tryz.prog 9 boolElem (z + 2) N.length (mapN N)
  box : Boxed W (z + 3) 128 (.map (some (z + 2)))
  marks : ∀ r, r ∈ ds → z + 4 ≤ r ∧ W.heap[r]? = some (.deferred (some []))
  below : Below z w W
theorem MCore.kept {w : World} {z : Nat} {N : List Bs} {v : Value} {ds : List Nat} {A B : World} {row : Option Nat} (h : MCore w z N v ds A) (hz : z ≤ w.heap.size) (hg : A.grownBy B row) (hr : ∀ r, row = some r → z + 4 ≤ r ∧ r ∉ ds ∧ v.ownBlock ≠ some r) : MCore w z N v ds B := by
  have ne : ∀ j, j < z + 4 → some j ≠ row := fun j hj e => by have := (hr j e.symm).1; omega
  exact ⟨h.res.grown hg (ne _ (by omega)), h.out.grown hg (ne _ (by omega)), h.row.kept hg (own_ne_of fun k e => (hr k e).2.2), h.seen.kept hg (ne _ (by omega)), h.box.kept hg (ne _ (by omega)),
    fun r hm => ⟨(h.marks r hm).1, (hg.block r (Array.getElem?_eq_some_iff.1 (h.marks r hm).2).1 (fun e => (hr r e.symm).2.1 hm)).trans (h.marks r hm).2⟩, h.below.grown hg (Nat.le_trans hz h.below.size) (fun k e => by have := (hr k e).1; omega)⟩
theorem MCore.size {w : World} {z : Nat} {N : List Bs} {v : Value} {ds : List Nat} {A : World} (h : MCore w z N v ds A) : z + 4 ≤ A.heap.size := h.box.lt
theorem MCore.not_mark {w : World} {z : Nat} {N : List Bs} {v : Value} {ds : List Nat} {A : World} (h : MCore w z N v ds A) : ∀ r, r ∈ ds → v.ownBlock ≠ some r := fun r hm => own_ne_obj (h.marks r hm).2 (fun C f e => by cases e) h.row
theorem MCore.not_low {w : World} {z : Nat} {N : List Bs} {v : Value} {ds : List Nat} {A : World} (h : MCore w z N v ds A) : v.ownBlock ≠ some z ∧ v.ownBlock ≠ some (z + 1) ∧ v.ownBlock ≠ some (z + 2) ∧ v.ownBlock ≠ some (z + 3) :=
  ⟨own_ne_obj h.res (fun C f e => by cases e) h.row, own_ne_obj h.out (fun C f e => by cases e) h.row,
    by
      obtain ⟨es, clock, hb, _⟩ := h.seen
      exact own_ne_obj hb (fun C f e => by cases e) h.row,
    own_ne_obj h.box (fun C f e => by cases e) h.row⟩
theorem MCore.mark {w : World} {z D : Nat} {N : List Bs} {v : Value} {ds : List Nat} {A : World} (h : MCore w z N v ds A) (hd : A.heap[D]? = some (.deferred (some []))) (hD : z + 4 ≤ D) : MCore w z N v (D :: ds) A :=
  ⟨h.res, h.out, h.row, h.seen, h.box, fun r hr => (List.mem_cons.1 hr).elim (fun e => e ▸ ⟨hD, hd⟩) (fun hr => h.marks r hr), h.below⟩
/-- Between two rounds over names. L: the record. -/
def MInv (w : World) (z : Nat) (N0 : List Bs) (ds : List Nat) (L : Nat) (pre : List Bs) (G : Nat → Prop) (W : World) : Prop :=
  ∃ v, MCore w z (uniqN N0 pre) v ds W ∧ ∀ k, (G k ∨ k = L) → k < W.heap.size ∧ z + 4 ≤ k ∧ k ∉ ds ∧ v.ownBlock ≠ some k
theorem MInv.turn {w : World} {z L : Nat} {N0 : List Bs} {ds : List Nat} {pre : List Bs} {G : Nat → Prop} {A B : World} {row : Option Nat} (h : MInv w z N0 ds L pre G A) (hz : z ≤ w.heap.size) (hg : A.grownBy B row) (hr : ∀ r, row = some r → G r ∨ r = L) : MInv w z N0 ds L pre G B := by
  obtain ⟨v, hc, hk⟩ := h
  exact ⟨v, hc.kept hz hg (fun r e => (hk r (hr r e)).2), fun k h => ⟨by have := (hk k h).1; have := hg.size; omega, (hk k h).2⟩⟩
theorem MInv.lay {w : World} {z L : Nat} {N0 : List Bs} {ds : List Nat} {pre : List Bs} {G : Nat → Prop} {A B : World} (h : MInv w z N0 ds L pre G A) (hz : z ≤ w.heap.size) (hg : A.grownBy B none) : MInv w z N0 ds L pre (fun k => G k ∨ (A.heap.size ≤ k ∧ k < B.heap.size)) B := by
  obtain ⟨v, hc, hk⟩ := h
  refine ⟨v, hc.kept hz hg (fun r e => by cases e), fun k h => ?_⟩
  rcases h with (h | ⟨h3, h4⟩) | h
  · have := hg.size; exact ⟨by have := (hk k (.inl h)).1; omega, (hk k (.inl h)).2⟩
  · refine ⟨h4, by have := hc.size; omega, fun hm => ?_, fun e => ?_⟩
    · have := (Array.getElem?_eq_some_iff.1 (hc.marks k hm).2).1; omega
    · have := (hc.row.lt k e).2; omega
  · have := hg.size; exact ⟨by have := (hk k (.inr h)).1; omega, (hk k (.inr h)).2⟩
/-- A name is put behind the others. A2: behind the store into the map; A1: behind the append. -/
theorem MInv.added {w : World} {z L : Nat} {N0 : List Bs} {ds : List Nat} {pre : List Bs} {x : Bs} {G : Nat → Prop} {A A2 A1 : World} {v : Value} {o : Obj} {g cap : Nat} (h : MInv w z N0 ds L pre G A) (hz : z ≤ w.heap.size) (hv : Blk3 A (z + 1) 98 (.bool false) (.bool false) v)
    (hx : x ∉ uniqN N0 pre) (hm : A2.ownsMap Tryz.prog 9 boolElem (z + 2) ((uniqN N0 pre).length + 1) (mapN (uniqN N0 pre ++ [x]))) (hgm : A.grownBy A2 (some (z + 2)))
    (hown : A1.ownsRow z 9 1 (.slice (some ⟨g, 0, none⟩) ((uniqN N0 pre).length + 1) cap) ((uniqN N0 pre).length + 1) (scells (uniqN N0 pre) ++ [.string (mk x)])) (hg : (A2.alloc o).grownBy A1 v.ownBlock) (hat : v.ownBlock = some g ∨ g = (A2.alloc o).heap.size) :
    (A1.setCell ⟨z + 1, 2, none⟩ (.slice (some ⟨g, 0, none⟩) ((uniqN N0 pre).length + 1) cap)).heap[L]? = A.heap[L]? ∧
      Keeps (fun k => G k ∨ k < z) A (A1.setCell ⟨z + 1, 2, none⟩ (.slice (some ⟨g, 0, none⟩) ((uniqN N0 pre).length + 1) cap)) ∧ MInv w z N0 ds L (pre ++ [x]) G (A1.setCell ⟨z + 1, 2, none⟩ (.slice (some ⟨g, 0, none⟩) ((uniqN N0 pre).length + 1) cap)) := by
  obtain ⟨v', hc, hk⟩ := h
  have hvv : v' = v := Option.some.inj (hc.out.c2.symm.trans hv.c2)
  subst hvv
  obtain ⟨n0, n1, n2, n3⟩ := hc.not_low
  have nm := hc.not_mark
  have hs1 := hgm.size
  have hs2 := hg.size
  rw [World.size_alloc] at hs2
  -- what lies in A lies in A1 but for v's own row and the map
  have keep : ∀ k, k < A.heap.size → k ≠ z + 2 → v'.ownBlock ≠ some k → A1.heap[k]? = A.heap[k]? := fun k hk h1 h2 =>
    (hg.block k (by simp; omega) (fun e => h2 e.symm)).trans ((Below.heap_alloc A2 o k (by omega)).trans (hgm.block k hk (by simpa using h1)))
  have hsz := hc.size
  have hL := hk L (.inr rfl)
  have hlow : ∀ k, (G k ∨ k < z) → k < A.heap.size → A1.heap[k]? = A.heap[k]? := fun k h hlt => by
    rcases h with h | h
    · exact keep k hlt (by have := (hk k (.inl h)).2.1; omega) (hk k (.inl h)).2.2.2
    · exact keep k hlt (by omega) (fun e => by have := (hc.row.lt k e).1; omega)
  have hne : ∀ k, (G k ∨ k < z) → k ≠ z + 1 := fun k h => by
    rcases h with h | h
    · have := (hk k (.inl h)).2.1; omega
    · omega
  have gz : g ≠ z + 1 := fun e => own_ne_obj (k := z + 1) (w := A1) (show A1.heap[z + 1]? = some _ from (keep _ (by omega) (by omega) n1).trans hc.out) (fun C f e => by cases e) hown (by simp [Value.ownBlock, e])
  have eu : uniqN N0 (pre ++ [x]) = uniqN N0 pre ++ [x] := by rw [uniqN_snoc, addN_no _ _ hx]
  have st : ∀ k, k ≠ z + 1 → (A1.setCell ⟨z + 1, 2, none⟩ (.slice (some ⟨g, 0, none⟩) ((uniqN N0 pre).length + 1) cap)).heap[k]? = A1.heap[k]? := fun k h => Below.heap_setCell _ _ _ _ (by simpa using h)
  have osA1 : A1.os = A.os := hg.os.trans hgm.os
  have hout1 : Blk3 A1 (z + 1) 98 (.bool false) (.bool false) v' := (keep _ (by omega) (by omega) n1).trans hc.out
  refine ⟨(st L (by omega)).trans (keep L hL.1 (by omega) hL.2.2.2), ?_, .slice (some ⟨g, 0, none⟩) ((uniqN N0 pre).length + 1) cap, ⟨?_, hout1.set2 _, ?_, ?_, ?_, ?_, ?_⟩, ?_⟩
  · exact ⟨osA1, hg.tape.trans hgm.tape, hg.output.trans hgm.output, by simp; omega, fun k hk1 hG => (st k (hne k hG)).trans (hlow k hG hk1)⟩
  · exact (st z (by omega)).trans ((keep z (by omega) (by omega) n0).trans hc.res)
  · have := hown.kept (grown_setCell A1 (z + 1) 2 (.slice (some ⟨g, 0, none⟩) ((uniqN N0 pre).length + 1) cap)) (own_ne_of fun k e => by cases e; simp [Value.ownBlock]; exact gz)
    rw [eu, List.length_append, scells_append]
    exact this
  · have h1 := ((hm.alloc o).kept hg (fun e => n2 e.symm)).setCell (a := ⟨z + 1, 2, none⟩) (by simp) (.slice (some ⟨g, 0, none⟩) ((uniqN N0 pre).length + 1) cap)
    rw [eu, List.length_append]
    exact h1
  · exact (st (z + 3) (by omega)).trans ((keep (z + 3) (by omega) (by omega) n3).trans hc.box)
  · intro r hr
    obtain ⟨h1, h2⟩ := hc.marks r hr
    exact ⟨h1, (st r (by omega)).trans ((keep r (Array.getElem?_eq_some_iff.1 h2).1 (by omega) (nm r hr)).trans h2)⟩
  · have hb := hc.below
    refine ⟨osA1.trans hb.os, (hg.tape.trans hgm.tape).trans hb.tape, (hg.output.trans hgm.output).trans hb.output, by have := hb.size; simp; omega, fun k hk1 => (st k (by omega)).trans ((hlow k (.inr hk1) (by have := hb.size; omega)).trans (hb.block k hk1))⟩
  · intro k h
    obtain ⟨k1, k2, k3, k4⟩ := hk k h
    refine ⟨by simp; omega, k2, k3, fun e => ?_⟩
    have e' : g = k := by simpa [Value.ownBlock] using e
    rcases hat with hat | hat
    · exact k4 (by rw [hat, e'])
    · rw [World.size_alloc] at hat; omega
theorem MInv.addedM {w : World} {z L : Nat} {N0 : List Bs} {ds : List Nat} {pre : List Bs} {x : Bs} {G : Nat → Prop} {A A2 A1 : World} {v : Value} {o : Obj} {g cap : Nat} {M : List Bs} (hM : M = uniqN N0 pre) (h : MInv w z N0 ds L pre G A) (hz : z ≤ w.heap.size) (hv : Blk3 A (z + 1) 98 (.bool false) (.bool false) v)
    (hx : x ∉ uniqN N0 pre) (hm : A2.ownsMap Tryz.prog 9 boolElem (z + 2) (M.length + 1) (mapN (M ++ [x]))) (hgm : A.grownBy A2 (some (z + 2)))
    (hown : A1.ownsRow z 9 1 (.slice (some ⟨g, 0, none⟩) (M.length + 1) cap) (M.length + 1) (scells M ++ [.string (mk x)])) (hg : (A2.alloc o).grownBy A1 v.ownBlock) (hat : v.ownBlock = some g ∨ g = (A2.alloc o).heap.size) :
    (A1.setCell ⟨z + 1, 2, none⟩ (.slice (some ⟨g, 0, none⟩) (M.length + 1) cap)).heap[L]? = A.heap[L]? ∧
      Keeps (fun k => G k ∨ k < z) A (A1.setCell ⟨z + 1, 2, none⟩ (.slice (some ⟨g, 0, none⟩) (M.length + 1) cap)) ∧ MInv w z N0 ds L (pre ++ [x]) G (A1.setCell ⟨z + 1, 2, none⟩ (.slice (some ⟨g, 0, none⟩) (M.length + 1) cap)) := by
  subst hM
  exact h.added hz hv hx hm hgm hown hg hat
theorem MInv.known {w : World} {z L : Nat} {N0 : List Bs} {ds : List Nat} {pre : List Bs} {x : Bs} {G : Nat → Prop} {A : World} (h : MInv w z N0 ds L pre G A) (hx : x ∈ uniqN N0 pre) : MInv w z N0 ds L (pre ++ [x]) G A := by
  unfold MInv at h ⊢
  rw [uniqN_snoc, addN_yes _ _ hx]
  exact h

/-- The two known names. -/
def upB : ByteArray := ⟨#[117, 112, 103, 114, 97, 100, 101, 45, 105, 110, 115, 101, 99, 117, 114, 101, 45, 114, 101, 113, 117, 101, 115, 116, 115]⟩
def blB : ByteArray := ⟨#[98, 108, 111, 99, 107, 45, 97, 108, 108, 45, 109, 105, 120, 101, 100, 45, 99, 111, 110, 116, 101, 110, 116]⟩
/-- A result as a value. -/
def cspVal (N : List Bs) (u : Value) : Value := .agg #[.bool (decide (un upB ∈ N)), .bool (decide (un blB ∈ N)), u]
/-- The marks of the activation. -/
def marksOf (ds : List Nat) : List Deferred := ds.map fun r => { target := .collected r, args := #[] }
/-- The way out, past the marks. -/
theorem leaves_marks {F : Fence} {n : Nat} {P : Program} {fn : Func} {tmps : Array Value} {R : Ending → World → Prop} : ∀ (ds : List Nat) (W : World), (∀ r, r ∈ ds → W.heap[r]? = some (.deferred (some []))) → ds.Nodup →
    (∀ W', Keeps (fun k => k ∉ ds) W W' → LeavesIn F n P fn tmps R [] .returning W') → LeavesInM F n P fn tmps R (marksOf ds) .returning W
  | [], W, _, _, h => h W (Keeps.refl _ _)
  | r :: ds, W, hd, hn, h => by
    rw [List.nodup_cons] at hn
    refine ⟨by simp, .inl ⟨r, _, rfl, run_takeDeferred (hd r (by simp)), ?_⟩⟩
    refine leaves_marks ds _ (fun k hk => ?_) hn.2 (fun W' hW' => h W' ?_)
    · exact (World.putObj_heap_other (fun e => hn.1 (by first | exact e ▸ hk | exact e.symm ▸ hk))).trans (hd k (by simp [hk]))
    · refine (Keeps.of_grown (grownBy_putObj' W r (.deferred none)) (fun k e => by cases e; simp)).trans (hW'.mono fun k hk => ?_)
      simp only [List.mem_cons, not_or] at hk
      exact hk.2
/-- Whether a slice of strings contains a string. -/
theorem contains_strs (v : Value) (l : List Bs) (x : ByteArray) (w : World) (hv : Strs w v l) : Calls Tryz.prog 60 #[v, .string x] w fun e w' => e = .returned (.bool (decide (un x ∈ l))) ∧ w = w' := by
  obtain ⟨a, cap, rfl, hn, hm, hc⟩ := hv.open
  rcases Nat.eq_zero_or_pos l.length with h0 | hpos
  · obtain rfl : l = [] := List.eq_nil_of_length_eq_zero h0
    refine (Tryz.slices_Contains_string_empty a cap x w).mono ?_
    rintro e w' ⟨rfl, rfl⟩
    exact ⟨rfl, rfl⟩
  · obtain ⟨b, off, rfl, hb, hcell⟩ := hc hpos
    refine (Tryz.slices_Contains_string b off l.length cap (l.map mk) x w (by simp) (by unfold maxLen at hm; omega) (fun j hj => ?_)).mono ?_
    · have hj' : j < l.length := by simpa using hj
      rw [hcell j hj']
      simp [List.getD, List.getElem?_eq_getElem hj']
    · rintro e w' ⟨rfl, rfl⟩
      refine ⟨?_, rfl⟩
      congr 2
      rw [List.take_of_length_le (by simp), Bool.eq_iff_iff, Lib.containsS_iff, decide_eq_true_eq, List.mem_map]
      constructor
      · rintro ⟨t, ht, e⟩
        rw [← e, un_mk]; exact ht
      · intro h
        exact ⟨_, h, mk_un x⟩
end Go.Proofs.YtjbciamhhfcdoaaGreatDoor
