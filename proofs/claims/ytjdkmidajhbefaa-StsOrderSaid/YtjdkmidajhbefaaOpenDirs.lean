/- An argument that is a slice of directives, opened: its elements, its cells. Conditions: none. -/
import Derived.Test.YtjdkmidajhbefaaDirK
import Derived.ProofKit
import Derived.OpenShut
import Derived.Deep.Slices
import Derived.Deep.Strs
import Derived.Deep.Fields
import Derived.Lib.SmallJoins
import Derived.ChangeOld
namespace Go.Proofs.Ytjdkmidajhbefaa
open Go.ChangeShapes Go.WideShapes Go.Deep Go.RowKit Hs
set_option linter.unusedVariables false
set_option linter.unusedSimpArgs false

theorem exists_list {α : Type} (Q : Nat → α → Prop) : ∀ n : Nat, (∀ i, i < n → ∃ x, Q i x) → ∃ l : List α, l.length = n ∧ ∀ i (h : i < l.length), Q i l[i]
  | 0, _ => ⟨[], rfl, fun i h => by simp at h⟩
  | n + 1, h => by
    obtain ⟨l, hl, hq⟩ := exists_list Q n (fun i hi => h i (by omega))
    obtain ⟨x, hx⟩ := h n (by omega)
    refine ⟨l ++ [x], by simp [hl], fun i hi => ?_⟩
    by_cases hi2 : i < l.length
    · rw [List.getElem_append_left hi2]; exact hq i hi2
    · have : i = l.length := by simp at hi; omega
      subst this
      rw [List.getElem_append_right (Nat.le_refl _)]
      simpa [hl] using hx
theorem cells_dir : Try.prog.cellsOf 41 = 3 := by kernel_rfl
theorem cells_str : Try.prog.cellsOf 9 = 1 := by kernel_rfl
theorem cells_bool : Try.prog.cellsOf 4 = 1 := by kernel_rfl
/-- The cells of a list of directives, one by one. -/
theorem dirs_of_cells {W : World} {b off len cap : Nat} {l : List Dir} (hl : l.length = len) (h1 : len ≤ cap) (h2 : cap ≤ maxLen) (hb : b < W.heap.size) (h : ∀ i (hi : i < l.length), W.cell? ⟨b, off + i * 3, none⟩ = some (.string (mk l[i].1)) ∧ W.cell? ⟨b, off + i * 3 + 1, none⟩ = some (.string (mk l[i].2.1)) ∧ W.cell? ⟨b, off + i * 3 + 2, none⟩ = some (.bool l[i].2.2)) : Dirs W (.slice (some ⟨b, off, none⟩) len cap) l := by
  subst hl
  refine ⟨length_dcells l, _, cap, rfl, h1, h2, .inr ⟨b, off, rfl, hb, fun j u hj => ?_⟩⟩
  have hjl : j < l.length * 3 := by have := (List.getElem?_eq_some_iff.1 hj).1; rwa [length_dcells] at this
  obtain ⟨i, r, rfl, hr⟩ : ∃ i r, j = i * 3 + r ∧ r < 3 := ⟨j / 3, j % 3, by omega, by omega⟩
  have hi : i < l.length := by omega
  obtain ⟨g0, g1, g2⟩ := dcells_get l i hi
  obtain ⟨k0, k1, k2⟩ := h i hi
  match r, hr with
  | 0, _ =>
    rw [Nat.add_zero] at hj ⊢
    rw [g0] at hj; cases hj; exact k0
  | 1, _ => rw [g1] at hj; cases hj; rw [← Nat.add_assoc]; exact k1
  | 2, _ => rw [g2] at hj; cases hj; rw [← Nat.add_assoc]; exact k2
theorem opened_dirs {H : Type} {enc : TypeId × Value → H} {W : World} {base : Nat} {v : Value} {d : DataW H} {p : List MemPlace} (hval : Value.okWide Try.prog W .any base 39 v) (h : DataW.Trod enc Try.prog W 0 (fun _ => true) true 39 v d p) :
    ∃ l : List Dir, Dirs W v l ∧ ∀ x ∈ l, x.1.length ≤ maxLen ∧ x.2.1.length ≤ maxLen := by
  obtain ⟨fuel, hf⟩ := h
  obtain ⟨a0, len, cap, rfl⟩ := okWide_slice Try.underlying39 hval
  rcases open_slice Try.underlying39 hf with ⟨hcs, hx⟩ | ⟨a, len', cap', m, n, D, Pl, hcs, _, hl, hm, hmm, hx, hel⟩
  · simp [Value.cells] at hcs
    obtain ⟨rfl, rfl, rfl⟩ := hcs
    exact ⟨[], Row.nil _ _, fun x hx => by cases hx⟩
  · simp [Value.cells] at hcs
    obtain ⟨rfl, rfl, rfl⟩ := hcs
    simp only [if_true] at hmm
    subst hmm
    have key : ∀ i, i < len → ∃ x : Dir, (x.1.length ≤ maxLen ∧ x.2.1.length ≤ maxLen) ∧ W.cell? (a.add (i * 3)) = some (.string (mk x.1)) ∧ W.cell? ((a.add (i * 3)).add 1) = some (.string (mk x.2.1)) ∧ W.cell? ((a.add (i * 3)).add 2) = some (.bool x.2.2) := by
      intro i hi
      obtain ⟨cs', hc0, ht0⟩ := hel i (by omega)
      rw [cells_dir] at hc0
      obtain ⟨y0, y1, y2, n', hD, hlen3, hA, hB, hC⟩ := trod_struct3 Try.underlying41 ht0
      obtain ⟨s0, hs0, _, hz0⟩ := DataW.trod_string Try.underlying9 hA
      obtain ⟨s1, hs1, _, hz1⟩ := DataW.trod_string Try.underlying9 hB
      obtain ⟨b2, hs2, _⟩ := DataW.trod_bool Try.underlying4 hC
      obtain ⟨_, hl3, hcell⟩ := World.cells?_some hc0
      have k0 := hcell 0 (by omega)
      have k1 := hcell 1 (by omega)
      have k2 := hcell 2 (by omega)
      obtain ⟨c0, c1, c2, rfl⟩ : ∃ c0 c1 c2, cs' = [c0, c1, c2] := by
        match cs', hl3 with
        | [c0, c1, c2], _ => exact ⟨c0, c1, c2, rfl⟩
      have e0 : c0 = .string s0 := by simpa [cells_str] using hs0
      have e1 : c1 = .string s1 := by simpa [cells_str] using hs1
      have e2 : c2 = .bool b2 := by simpa [cells_bool] using hs2
      subst e0 e1 e2
      refine ⟨(un s0, un s1, b2), ⟨by rw [length_un]; exact hz0, by rw [length_un]; exact hz1⟩, ?_, ?_, ?_⟩
      · simpa [Addr.add] using k0
      · simpa using k1
      · simpa using k2
    obtain ⟨l, hll, hq⟩ := exists_list _ len key
    by_cases h0 : len = 0
    · have hl0 : l = [] := List.eq_nil_of_length_eq_zero (by omega)
      subst hl0
      subst h0
      exact ⟨[], ⟨rfl, _, _, rfl, hl, hm, .inl rfl⟩, fun x hx => by cases hx⟩
    · obtain ⟨b, off, spot⟩ := a
      have k0 := (hq 0 (by omega)).2.1
      have hspot : spot = none := by simpa [Addr.add] using World.cell?_spot k0
      subst hspot
      have hadd : ∀ i r, ((⟨b, off, none⟩ : Addr).add (i * 3)).add r = ⟨b, off + i * 3 + r, none⟩ := by
        intro i r
        rw [add_add]
        unfold Addr.add
        split
        · rename_i h; rw [Nat.add_assoc, h]; rfl
        · rw [Nat.add_assoc]
      have hadd0 : ∀ i, (⟨b, off, none⟩ : Addr).add (i * 3) = ⟨b, off + i * 3, none⟩ := by
        intro i
        unfold Addr.add
        split
        · rename_i h; rw [h]; rfl
        · rfl
      have hb : b < W.heap.size := by
        rw [hadd0] at k0
        exact World.block_lt_of_cell? W _ k0
      refine ⟨l, dirs_of_cells hll hl hm hb (fun i hi => ?_), fun x hx => ?_⟩
      · have := (hq i hi).2
        rw [hadd, hadd, hadd0] at this
        exact this
      · obtain ⟨i, hi, rfl⟩ := List.getElem_of_mem hx
        exact (hq i hi).1
/-- An argument that is a directive. -/
theorem opened_dir1 {H : Type} {enc : TypeId × Value → H} {W : World} {base : Nat} {v : Value} {d : DataW H} {p : List MemPlace} (hval : Value.okWide Try.prog W .any base 41 v) (h : DataW.Trod enc Try.prog W 0 (fun _ => true) true 41 v d p) :
    ∃ x : Dir, v = .agg #[.string (mk x.1), .string (mk x.2.1), .bool x.2.2] ∧ x.1.length ≤ maxLen ∧ x.2.1.length ≤ maxLen := by
  obtain ⟨v0, v1, v2, y0, y1, y2, n, rfl, _, _, hA, hB, hC⟩ := Go.Joins.open_agg3 Try.underlying41 (by kernel_rfl) cells_dir hval h
  obtain ⟨s0, hs0, _, hz0⟩ := DataW.trod_string Try.underlying9 hA
  obtain ⟨s1, hs1, _, hz1⟩ := DataW.trod_string Try.underlying9 hB
  obtain ⟨b2, hs2, _⟩ := DataW.trod_bool Try.underlying4 hC
  cases hs0; cases hs1; cases hs2
  exact ⟨(un s0, un s1, b2), by simp only [mk_un], by rw [length_un]; exact hz0, by rw [length_un]; exact hz1⟩
end Go.Proofs.Ytjdkmidajhbefaa
