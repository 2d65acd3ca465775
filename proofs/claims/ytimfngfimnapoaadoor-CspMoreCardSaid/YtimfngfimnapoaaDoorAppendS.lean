/- Append of a slice of strings, whatever it is (nil, empty, a row), onto a slice that the call itself owns. Conditions: lengths are bounded. -/
import Derived.Test.YtimfngfimnapoaaDoorAsciiWords
import Derived.Laws.OwnMore
namespace Go.Proofs.YtimfngfimnapoaaDoor
open Go.RowKit Hs
set_option linter.unusedSimpArgs false
set_option linter.unusedVariables false

theorem sadd_none (b off j : Nat) : (⟨b, off, none⟩ : Addr).add j = ⟨b, off + j, none⟩ := by
  unfold Addr.add
  split
  · rename_i h; rw [h]; rfl
  · rfl
theorem run_append_strs (w : World) (ty : TypeId) (base : Nat) (v : Value) (n : Nat) (xs : List Value) (hown : w.ownsRow base 9 1 v n xs) (xv : Value) (r : List Bs) (hr : Strs w xv r) (h1 : n + r.length ≤ 1000000) (hb : base ≤ w.heap.size) :
    ∃ v' w', (Builtin.append_ #[22, 22] ty #[v, xv]).run Tryd.prog w = .ok v' w' ∧ w'.ownsRow base 9 1 v' (n + r.length) (xs ++ scells r) ∧ w.grownBy w' v.ownBlock := by
  obtain ⟨iS0, iS⟩ := info_parts infoStr
  obtain ⟨ar, c, rfl, hn, hm, hc⟩ := hr.open
  rcases Nat.eq_zero_or_pos r.length with h0 | hpos
  · obtain rfl : r = [] := List.eq_nil_of_length_eq_zero h0
    refine ⟨v, w, ?_, by simpa [scells] using hown, ⟨rfl, rfl, rfl, Nat.le_refl _, fun _ _ _ => rfl⟩⟩
    rcases hown.2 with ⟨rfl, rfl⟩ | ⟨g, cap, cur, rfl, _, _, hnc, _⟩ <;> cases ar <;>
      simp [Builtin.append_, run_underlying Tryd.underlying22, sizeOf, typeInfo, iS.1, Builtin.lenOf, Builtin.firstCells, loadCells, loadCellsFrom, storeCells, *]
  · obtain ⟨b, off, rfl, hlt, hcell⟩ := hc hpos
    have hnews : ∀ j u, (scells r)[j]? = some u → w.cell? ((⟨b, off, none⟩ : Addr).add j) = some u := by
      intro j u hj
      obtain ⟨h, e⟩ := List.getElem?_eq_some_iff.1 hj
      have hjl : j < r.length := by simpa using h
      rw [sadd_none, hcell j hjl, ← e]
      simp [scells]
    obtain ⟨v', w', h2, h3, h4, _⟩ := run_append_own (P := Tryd.prog) w base 22 ty 9 iS0 (.string ByteArray.empty) 1 16 Tryd.underlying22 iS.1 iS.2.1 iS.2.2.1 iS.2.2.2 rfl (by decide) v n xs hown ⟨b, off, none⟩ r.length c (scells r) (by simp) hnews (by
      intro u hu
      unfold scells at hu
      obtain ⟨x, _, rfl⟩ := List.mem_map.1 hu
      rfl) (by unfold maxLen; omega) (by omega) hb
    exact ⟨v', w', h2, h3, h4⟩
theorem wpList_append_strs (w : World) {ops : Array Oper} {rest : List Oper} {o : Oper} {a : Act} {Q : Exit → Act → World → Prop} (hgd : o.guard = none) (s x : Operand)
    (ho : o.op = .call { callee := .builtin .append, args := #[s, x], argTypes := #[22, 22] })
    (base : Nat) (v : Value) (n : Nat) (xs : List Value) (hs : a.eval s = v) (hown : w.ownsRow base 9 1 v n xs) (xv : Value) (hx : a.eval x = xv) (r : List Bs) (hr : Strs w xv r) (h1 : n + r.length ≤ 1000000) (hb : base ≤ w.heap.size)
    (h : ∀ v' w', w'.ownsRow base 9 1 v' (n + r.length) (xs ++ scells r) → w.grownBy w' v.ownBlock → wpList Tryd.prog ops Q rest (a.put o.dst v') w') : wpList Tryd.prog ops Q (o :: rest) a w := by
  refine wpList_plain hgd fun K hK => ?_
  obtain ⟨v', w', hrun, h2, h3⟩ := run_append_strs w o.type base v n xs hown xv r hr h1 hb
  unfold Oper.wp execOp
  simp only [ho, resolve, invoke, builtin, Sem.run_bind, Sem.run_pure, Result.andThen_ok, List.map_toArray, List.map_cons, List.map_nil, hs, hx, hrun]
  exact hK _ _ (h v' w' h2 h3)
end Go.Proofs.YtimfngfimnapoaaDoor
