/- Append of a slice of bytes, whatever it is (nil, empty, a row), onto a slice that the call itself owns, and onto the row that '[]byte(s)' left. Conditions: lengths are bounded. -/
import Derived.Test.YtimfngfimnapoaaConv
import Derived.Laws.OwnMore
import Derived.Lib.FrozenHead
namespace Go.Proofs.Ytimfngfimnapoaa
open Go.RowKit Hs
set_option linter.unusedSimpArgs false
set_option linter.unusedVariables false

theorem bcells_one (r : Bs) : ∀ u ∈ bcells r, u.oneCell' = true := by
  intro u hu
  unfold bcells at hu
  obtain ⟨x, _, rfl⟩ := List.mem_map.1 hu
  rfl
/-- Bytes appended to an owned row. -/
theorem run_append_byts (w : World) (ty : TypeId) (base : Nat) (v : Value) (n : Nat) (xs : List Value) (hown : w.ownsRow base 5 1 v n xs) (xv : Value) (r : Bs) (hr : Byts w xv r) (h1 : n + r.length ≤ 1000000) (hb : base ≤ w.heap.size) :
    ∃ v' w', (Builtin.append_ #[22, 22] ty #[v, xv]).run Try.prog w = .ok v' w' ∧ w'.ownsRow base 5 1 v' (n + r.length) (xs ++ bcells r) ∧ w.grownBy w' v.ownBlock := by
  obtain ⟨iB0, iB⟩ := info_parts infoByte
  obtain ⟨ar, c, rfl, hn, hm, hc⟩ := hr.open
  rcases Nat.eq_zero_or_pos r.length with h0 | hpos
  · obtain rfl : r = [] := List.eq_nil_of_length_eq_zero h0
    refine ⟨v, w, ?_, by simpa [bcells] using hown, ⟨rfl, rfl, rfl, Nat.le_refl _, fun _ _ _ => rfl⟩⟩
    rcases hown.2 with ⟨rfl, rfl⟩ | ⟨g, cap, cur, rfl, _, _, hnc, _⟩ <;> cases ar <;>
      simp [Builtin.append_, run_underlying Try.underlying22, sizeOf, typeInfo, iB.1, Builtin.lenOf, Builtin.firstCells, loadCells, loadCellsFrom, storeCells, *]
  · obtain ⟨b, off, rfl, hlt, hcell⟩ := hc hpos
    have hnews : ∀ j u, (bcells r)[j]? = some u → w.cell? ((⟨b, off, none⟩ : Addr).add j) = some u := by
      intro j u hj
      obtain ⟨h, e⟩ := List.getElem?_eq_some_iff.1 hj
      have hjl : j < r.length := by simpa using h
      rw [addr_none, hcell j hjl, ← e]
      simp [bcells]
    obtain ⟨v', w', h2, h3, h4, _⟩ := run_append_own (P := Try.prog) w base 22 ty 5 iB0 (.int .u8 0) 1 1 Try.underlying22 iB.1 iB.2.1 iB.2.2.1 iB.2.2.2 rfl (by decide) v n xs hown ⟨b, off, none⟩ r.length c (bcells r) (by simp) hnews (bcells_one r) (by unfold maxLen; omega) (by omega) hb
    exact ⟨v', w', h2, h3, h4⟩
theorem wpList_append_byts (w : World) {ops : Array Oper} {rest : List Oper} {o : Oper} {a : Act} {Q : Exit → Act → World → Prop} (hgd : o.guard = none) (s x : Operand)
    (ho : o.op = .call { callee := .builtin .append, args := #[s, x], argTypes := #[22, 22] })
    (base : Nat) (v : Value) (n : Nat) (xs : List Value) (hs : a.eval s = v) (hown : w.ownsRow base 5 1 v n xs) (xv : Value) (hx : a.eval x = xv) (r : Bs) (hr : Byts w xv r) (h1 : n + r.length ≤ 1000000) (hb : base ≤ w.heap.size)
    (h : ∀ v' w', w'.ownsRow base 5 1 v' (n + r.length) (xs ++ bcells r) → w.grownBy w' v.ownBlock → wpList Try.prog ops Q rest (a.put o.dst v') w') : wpList Try.prog ops Q (o :: rest) a w := by
  refine wpList_plain hgd fun K hK => ?_
  obtain ⟨v', w', hrun, h2, h3⟩ := run_append_byts w o.type base v n xs hown xv r hr h1 hb
  unfold Oper.wp execOp
  simp only [ho, resolve, invoke, builtin, Sem.run_bind, Sem.run_pure, Result.andThen_ok, List.map_toArray, List.map_cons, List.map_nil, hs, hx, hrun]
  exact hK _ _ (h v' w' h2 h3)

theorem run_storeCells_atB (P : Program) (g o : Nat) (t : TypeId) (fz : Nat × Nat) : ∀ (vs : List Value) (i : Nat) (cur : Array Value) (w : World), w.heap[g]? = some (.cells cur t fz) → o + i + vs.length ≤ fz.1 → o + i + vs.length ≤ cur.size → (∀ v ∈ vs, v.oneCell' = true) →
    (storeCells ⟨g, o, none⟩ vs i).run P w = .ok () (w.setRow g (cur.toList.take (o + i) ++ vs ++ cur.toList.drop (o + i + vs.length)).toArray)
  | [], i, cur, w, hg, _, _, _ => by
    simp only [storeCells, List.append_nil, List.length_nil, Nat.add_zero, List.take_append_drop, Array.toArray_toList]
    rw [setRow_self w g cur t fz hg]
    rfl
  | v :: rest, i, cur, w, hg, hfz, hl, h1 => by
    have hi : o + i < cur.size := by simp at hl; omega
    have hadd : (⟨g, o, none⟩ : Addr).add i = ⟨g, o + i, none⟩ := by unfold Addr.add; split <;> simp_all
    have hcell : w.cell? ⟨g, o + i, none⟩ = some cur[o + i] := by simp [World.cell?, hg, hi]
    have hfro : w.frozen? ⟨g, o + i, none⟩ = false := by
      obtain ⟨lo, hi'⟩ := fz
      simp only [World.frozen?, hg, Bool.and_eq_false_iff, decide_eq_false_iff_not]
      left
      simp only [List.length_cons] at hfz
      omega
    have hst : (store ((⟨g, o, none⟩ : Addr).add i) v).run P w = .ok () (w.setRow g (cur.setIfInBounds (o + i) v)) := by
      rw [hadd, run_store P w _ v _ (h1 v (by simp)), hcell]
      simp [hfro, setCell_eq_setRow w g (o + i) cur t fz v hg]
    have ih := run_storeCells_atB P g o t fz rest (i + 1) (cur.setIfInBounds (o + i) v) (w.setRow g (cur.setIfInBounds (o + i) v)) (setRow_heap w g cur _ t _ hg) (by simp at hfz ⊢; omega) (by simp at hl ⊢; omega) (fun x hx => h1 x (by simp [hx]))
    simp only [storeCells, Sem.run_bind, hst, Result.andThen_ok, ih, setRow_setRow]
    congr 3
    have e := list_seg_step cur.toList (o + i) v rest (by simp at hl ⊢; omega)
    simpa [Array.toList_setIfInBounds, Nat.add_assoc] using e

/-- Bytes appended to the row that a conversion left. -/
theorem run_append_conv (w : World) (ty : TypeId) (g n cap : Nat) (l : Bs) (cur : Array Value) (fz : Nat × Nat) (hn : n = l.length) (hg : w.heap[g]? = some (.cells cur 5 fz)) (hcs : cur.size = cap) (hfz : cap ≤ fz.1) (hnc : n ≤ cap) (hcm : cap ≤ maxLen)
    (htake : cur.toList.take n = bcells l) (xv : Value) (r : Bs) (hr : Byts w xv r) (hb : n + r.length ≤ 1000000) :
    ∃ v' w', (Builtin.append_ #[22, 22] ty #[.slice (some ⟨g, 0, none⟩) n cap, xv]).run Try.prog w = .ok v' w' ∧ Byts w' v' (l ++ r) ∧ w.grownBy w' (some g) := by
  obtain ⟨iB0, iB⟩ := info_parts infoByte
  obtain ⟨ar, c, rfl, hrn, hrm, hc⟩ := hr.open
  subst hn
  have hgl : g < w.heap.size := (Array.getElem?_eq_some_iff.1 hg).1
  have holds : ∀ j u, (bcells l)[j]? = some u → w.cell? ((⟨g, 0, none⟩ : Addr).add j) = some u := by
    intro j u hu
    rw [addr_none, Nat.zero_add, cell_of_row w g j cur 5 fz hg]
    rw [← htake, List.getElem?_take] at hu
    split at hu
    · simpa using hu
    · cases hu
  have hbyts : Byts w (.slice (some ⟨g, 0, none⟩) l.length cap) l := ⟨by simp, _, _, rfl, hnc, hcm, .inr ⟨g, 0, rfl, hgl, fun j u hu => by have := holds j u hu; rwa [addr_none] at this⟩⟩
  rcases Nat.eq_zero_or_pos r.length with h0 | hpos
  · obtain rfl : r = [] := List.eq_nil_of_length_eq_zero h0
    refine ⟨_, w, ?_, by rw [List.append_nil]; exact hbyts, ⟨rfl, rfl, rfl, Nat.le_refl _, fun _ _ _ => rfl⟩⟩
    cases ar <;>
      simp [Builtin.append_, run_underlying Try.underlying22, sizeOf, typeInfo, iB.1, Builtin.lenOf, Builtin.firstCells, loadCells, loadCellsFrom, storeCells, hnc]
  · obtain ⟨b, off, rfl, hlt, hcell⟩ := hc hpos
    have hnews : ∀ j u, (bcells r)[j]? = some u → w.cell? ((⟨b, off, none⟩ : Addr).add j) = some u := by
      intro j u hj
      obtain ⟨h, e⟩ := List.getElem?_eq_some_iff.1 hj
      have hjl : j < r.length := by simpa using h
      rw [addr_none, hcell j hjl, ← e]
      simp [bcells]
    have hnew : ∀ (w' : World) (k cp : Nat) (C : Array Value) (f2 : Nat × Nat), w'.heap[k]? = some (.cells C 5 f2) → l.length + r.length ≤ cp → cp ≤ maxLen → C.toList.take (l.length + r.length) = bcells l ++ bcells r → Byts w' (.slice (some ⟨k, 0, none⟩) (l.length + r.length) cp) (l ++ r) := fun w' k cp C f2 hk h1 h2 h3 =>
      ⟨by simp, _, _, by rw [List.length_append], by simpa using h1, h2, .inr ⟨k, 0, rfl, (Array.getElem?_eq_some_iff.1 hk).1, fun j u hu => by
        rw [Nat.zero_add, cell_of_row w' k j C 5 f2 hk]
        rw [bcells_append, ← h3, List.getElem?_take] at hu
        split at hu
        · simpa using hu
        · cases hu⟩⟩
    have hf := run_firstCells_some (P := Try.prog) w 1 r.length ⟨b, off, none⟩ r.length c (bcells r) (by simp) hnews
    by_cases hroom : l.length + r.length ≤ cap
    · have hst := run_storeCells_atB Try.prog g l.length 5 fz (bcells r) 0 cur w hg (by simp; omega) (by simp; omega) (bcells_one r)
      simp only [Nat.add_zero] at hst
      have hrun : (Builtin.append_ #[22, 22] ty #[.slice (some ⟨g, 0, none⟩) l.length cap, .slice (some ⟨b, off, none⟩) r.length c]).run Try.prog w = .ok (.slice (some ⟨g, 0, none⟩) (l.length + r.length) cap) (w.setRow g (cur.toList.take l.length ++ bcells r ++ cur.toList.drop (l.length + (bcells r).length)).toArray) := by
        simp [Builtin.append_, run_underlying Try.underlying22, sizeOf, typeInfo, iB.1, iB.2.2.1, Builtin.lenOf, hroom, hf, Addr.add_lit]
        simp at hst
        simp [hst]
      refine ⟨_, _, hrun, ?_, ⟨rfl, rfl, rfl, by simp, fun k _ hk => setRow_other w g k _ (fun e => hk (by rw [e]))⟩⟩
      refine hnew _ g cap _ fz (setRow_heap w g cur _ 5 _ hg) hroom hcm ?_
      have hll : (bcells l ++ bcells r).length = l.length + r.length := by simp
      rw [htake, ← hll]
      exact List.take_left
    · have hrun := run_append_grow (P := Try.prog) w 22 ty 5 iB0 (.int .u8 0) Try.underlying22 iB.1 iB.2.1 ⟨g, 0, none⟩ l.length cap (bcells l) (by simp [iB.2.2.1]) holds ⟨b, off, none⟩ r.length c (bcells r) (by simp [iB.2.2.1]) hnews (by omega) (by omega) (growslice_fits (by omega) (by rw [iB.2.2.2]; omega))
      refine ⟨_, _, hrun, ?_, ⟨rfl, rfl, rfl, by simp, fun k hk _ => Below.heap_alloc w.drew _ k hk⟩⟩
      refine hnew _ w.heap.size _ _ (0, 0) (heap_alloc_new w.drew _) (grownCap_ge w _ cap 5) (grownCap_le_maxLen w _ cap 5 (by unfold maxLen; omega)) ?_
      have hll : (bcells l ++ bcells r).length = l.length + r.length := by simp
      simp only [Array.toList_append, List.append_assoc]
      rw [← List.append_assoc, ← hll]
      exact List.take_left
theorem wpList_append_conv (w : World) {ops : Array Oper} {rest : List Oper} {o : Oper} {a : Act} {Q : Exit → Act → World → Prop} (hgd : o.guard = none) (s x : Operand)
    (ho : o.op = .call { callee := .builtin .append, args := #[s, x], argTypes := #[22, 22] })
    (g n cap : Nat) (l : Bs) (hs : a.eval s = .slice (some ⟨g, 0, none⟩) n cap) (cur : Array Value) (fz : Nat × Nat) (hn : n = l.length) (hg : w.heap[g]? = some (.cells cur 5 fz)) (hcs : cur.size = cap) (hfz : cap ≤ fz.1) (hnc : n ≤ cap) (hcm : cap ≤ maxLen)
    (htake : cur.toList.take n = bcells l) (xv : Value) (hx : a.eval x = xv) (r : Bs) (hr : Byts w xv r) (hb : n + r.length ≤ 1000000)
    (h : ∀ v' w', Byts w' v' (l ++ r) → w.grownBy w' (some g) → wpList Try.prog ops Q rest (a.put o.dst v') w') : wpList Try.prog ops Q (o :: rest) a w := by
  refine wpList_plain hgd fun K hK => ?_
  obtain ⟨v', w', hrun, h2, h3⟩ := run_append_conv w o.type g n cap l cur fz hn hg hcs hfz hnc hcm htake xv r hr hb
  unfold Oper.wp execOp
  simp only [ho, resolve, invoke, builtin, Sem.run_bind, Sem.run_pure, Result.andThen_ok, List.map_toArray, List.map_cons, List.map_nil, hs, hx, hrun]
  exact hK _ _ (h v' w' h2 h3)
theorem bytesRow_size (X : ByteArray) (cap : Nat) (h : X.size ≤ cap) : (bytesRow X cap).size = cap := by
  have e : X.data.size = X.size := rfl
  unfold bytesRow
  rw [Array.size_append, Array.size_map, Array.size_replicate, e]
  omega
theorem bytesRow_take (X : ByteArray) (cap : Nat) : (bytesRow X cap).toList.take X.size = bcells (un X) := by
  have e : (X.data.map fun b => Value.int .u8 b.toNat).toList.length = X.size := by simp
  unfold bytesRow
  rw [Array.toList_append, ← e, List.take_left]
  simp [bcells, un]
/-- The world behind '[]byte(Y)'. -/
abbrev convW (w : World) (Y : ByteArray) : World := w.drew.alloc (.cells (bytesRow Y (grownCap w Y.size 0 5)) 5 ((bytesRow Y (grownCap w Y.size 0 5)).size, (bytesRow Y (grownCap w Y.size 0 5)).size + 1))
theorem wpList_append_conv_new (w : World) (Y : ByteArray) {ops : Array Oper} {rest : List Oper} {o : Oper} {a : Act} {Q : Exit → Act → World → Prop} (hgd : o.guard = none) (s x : Operand)
    (ho : o.op = .call { callee := .builtin .append, args := #[s, x], argTypes := #[22, 22] })
    (hs : a.eval s = .slice (some ⟨w.heap.size, 0, none⟩) Y.size (grownCap w Y.size 0 5)) (xv : Value) (hx : a.eval x = xv) (r : Bs) (hr : Byts (convW w Y) xv r) (hb : Y.size + r.length ≤ 1000000)
    (h : ∀ v' w', Byts w' v' (un Y ++ r) → (convW w Y).grownBy w' (some w.heap.size) → wpList Try.prog ops Q rest (a.put o.dst v') w') : wpList Try.prog ops Q (o :: rest) a (convW w Y) :=
  have hg := grownCap_ge w Y.size 0 5
  wpList_append_conv (convW w Y) hgd s x ho w.heap.size Y.size _ (un Y) hs _ _ (length_un Y).symm (heap_alloc_new w.drew _) (bytesRow_size Y _ hg) (Nat.le_of_eq (bytesRow_size Y _ hg).symm) hg (grownCap_le_maxLen w _ 0 5 (by unfold maxLen; omega)) (bytesRow_take Y _) xv hx r hr hb h
end Go.Proofs.Ytimfngfimnapoaa
