/- Arguments that are slices of bytes or of fields, opened: their elements, their cells. Conditions: none. -/
import Derived.Test.YtimfngfimnapoaaBytes
import Derived.Test.YtimfngfimnapoaaFieldsK
import Derived.ProofKit
import Derived.OpenShut
import Derived.ChangeSlices
import Derived.ChangeOld
import Derived.ChangeSame
import Derived.Deep.Slices
import Derived.Deep.Strs
import Derived.Deep.Fields
import Derived.Lib.SmallJoins
namespace Go.Proofs.Ytimfngfimnapoaa
open Go.ChangeShapes Go.WideShapes Go.Deep Go.RowKit Hs
set_option linter.unusedVariables false
set_option linter.unusedSimpArgs false

theorem exists_list {α : Type} (Q : Nat → α → Prop) : ∀ n : Nat, (∀ i, i < n → ∃ x, Q i x) → ∃ l : List α, l.length = n ∧ ∀ i (h : i < l.length), Q i l[i]
  | 0, _ => ⟨[], rfl, fun i h => by simp at h⟩
  | n + 1, h => by
    obtain ⟨l, hl, hq⟩ := exists_list Q n (fun i hi => h i (by omega))
    obtain ⟨x, hx⟩ := h n (by omega)
    refine ⟨l ++ [x], by simp [hl], fun i hi => ?_⟩
    by_cases hi2 : i < l.length
    · rw [List.getElem_append_left hi2]; exact hq i hi2
    · have : i = l.length := by simp at hi; omega
      subst this
      rw [List.getElem_append_right (Nat.le_refl _)]
      simpa [hl] using hx
theorem u8_wf {n : Int} (h : (Lit.int .u8 n).wf = true) : ((UInt8.ofNat n.toNat).toNat : Int) = n := by
  have h2 := bounds_u8 h
  have : (UInt8.ofNat n.toNat).toNat = n.toNat := by simp; omega
  omega
theorem opened_bytes {H : Type} {enc : TypeId × Value → H} {W : World} {base : Nat} {v : Value} {d : DataW H} {p : List MemPlace} (hval : Value.okWide Try.prog W .any base 22 v) (h : DataW.Trod enc Try.prog W 0 (fun _ => true) true 22 v d p) :
    ∃ l : Bs, Byts W v l := by
  obtain ⟨fuel, hf⟩ := h
  obtain ⟨a0, len, cap, rfl⟩ := okWide_slice Try.underlying22 hval
  rcases open_ints Try.underlying22 Try.underlying5 (by kernel_rfl) hf with ⟨hcs, hx⟩ | ⟨a, len', cap', zs, hcs, _, hl, hm, hlen, hx, hel, hwf⟩
  · simp [Value.cells] at hcs
    obtain ⟨rfl, rfl, rfl⟩ := hcs
    exact ⟨[], Row.nil _ _⟩
  · simp [Value.cells] at hcs
    obtain ⟨rfl, rfl, rfl⟩ := hcs
    simp only [if_true] at hlen
    refine ⟨(zs.take len).map fun n => UInt8.ofNat n.toNat, ?_⟩
    have e : ((zs.take len).map fun n => UInt8.ofNat n.toNat).length = len := by simp; omega
    unfold Byts
    rw [e]
    have hcell : ∀ i (hi : i < len), W.cell? (a.add i) = some (.int .u8 ((UInt8.ofNat (zs[i]'(by omega)).toNat).toNat : Int)) := fun i hi => by
      rw [hel i (by omega), u8_wf (hwf _ (List.getElem_mem _))]
      simp [List.getD, List.getElem?_eq_getElem (show i < zs.length by omega)]
    by_cases h0 : len = 0
    · exact ⟨by simp; omega, some a, cap, rfl, hl, hm, .inl h0⟩
    · obtain ⟨b, off, spot⟩ := a
      have k0 := hcell 0 (by omega)
      have hspot : spot = none := by simpa [Addr.add] using World.cell?_spot k0
      subst hspot
      rw [addr_none] at k0
      refine ⟨by simp; omega, _, cap, rfl, hl, hm, .inr ⟨b, off, rfl, World.block_lt_of_cell? W _ k0, fun j u hj => ?_⟩⟩
      have hjl : j < len := by have := (List.getElem?_eq_some_iff.1 hj).1; simp at this; omega
      have := hcell j hjl
      rw [addr_none] at this
      rw [this, ← hj]
      simp [bcells, List.getElem?_take, hjl, List.getElem?_eq_getElem (show j < zs.length by omega)]

theorem cells_fld : Try.prog.cellsOf 44 = 2 := by kernel_rfl
theorem cells_str : Try.prog.cellsOf 9 = 1 := by kernel_rfl
/-- The cells of a list of fields, one by one. -/
theorem flds_of_cells {W : World} {b off len cap : Nat} {l : List Fld} (hl : l.length = len) (h1 : len ≤ cap) (h2 : cap ≤ maxLen) (hb : b < W.heap.size) (h : ∀ i (hi : i < l.length), W.cell? ⟨b, off + i * 2, none⟩ = some (.string (mk l[i].1)) ∧ W.cell? ⟨b, off + i * 2 + 1, none⟩ = some (.string (mk l[i].2))) : Flds W (.slice (some ⟨b, off, none⟩) len cap) l := by
  subst hl
  refine ⟨length_fcells l, _, cap, rfl, h1, h2, .inr ⟨b, off, rfl, hb, fun j u hj => ?_⟩⟩
  have hjl : j < l.length * 2 := by have := (List.getElem?_eq_some_iff.1 hj).1; rwa [length_fcells] at this
  obtain ⟨i, r, rfl, hr⟩ : ∃ i r, j = i * 2 + r ∧ r < 2 := ⟨j / 2, j % 2, by omega, by omega⟩
  have hi : i < l.length := by omega
  obtain ⟨g0, g1⟩ := fcells_get l i hi
  obtain ⟨k0, k1⟩ := h i hi
  match r, hr with
  | 0, _ =>
    rw [Nat.add_zero] at hj ⊢
    rw [g0] at hj; cases hj; exact k0
  | 1, _ => rw [g1] at hj; cases hj; rw [← Nat.add_assoc]; exact k1
theorem opened_flds {H : Type} {enc : TypeId × Value → H} {W : World} {base : Nat} {v : Value} {d : DataW H} {p : List MemPlace} (hval : Value.okWide Try.prog W .any base 25 v) (h : DataW.Trod enc Try.prog W 0 (fun _ => true) true 25 v d p) :
    ∃ l : List Fld, Flds W v l ∧ ∀ x ∈ l, x.1.length ≤ maxLen ∧ x.2.length ≤ maxLen := by
  obtain ⟨fuel, hf⟩ := h
  obtain ⟨a0, len, cap, rfl⟩ := okWide_slice Try.underlying25 hval
  rcases open_slice Try.underlying25 hf with ⟨hcs, hx⟩ | ⟨a, len', cap', m, n, D, Pl, hcs, _, hl, hm, hmm, hx, hel⟩
  · simp [Value.cells] at hcs
    obtain ⟨rfl, rfl, rfl⟩ := hcs
    exact ⟨[], Row.nil _ _, fun x hx => by cases hx⟩
  · simp [Value.cells] at hcs
    obtain ⟨rfl, rfl, rfl⟩ := hcs
    simp only [if_true] at hmm
    subst hmm
    have key : ∀ i, i < len → ∃ x : Fld, (x.1.length ≤ maxLen ∧ x.2.length ≤ maxLen) ∧ W.cell? (a.add (i * 2)) = some (.string (mk x.1)) ∧ W.cell? ((a.add (i * 2)).add 1) = some (.string (mk x.2)) := by
      intro i hi
      obtain ⟨cs', hc0, ht0⟩ := hel i (by omega)
      rw [cells_fld] at hc0
      obtain ⟨y0, y1, n', hD, hlen2, hA, hB⟩ := trod_struct2 Try.underlying44 ht0
      obtain ⟨s0, hs0, _, hz0⟩ := DataW.trod_string Try.underlying9 hA
      obtain ⟨s1, hs1, _, hz1⟩ := DataW.trod_string Try.underlying9 hB
      obtain ⟨_, hl2, hcell⟩ := World.cells?_some hc0
      have k0 := hcell 0 (by omega)
      have k1 := hcell 1 (by omega)
      obtain ⟨c0, c1, rfl⟩ : ∃ c0 c1, cs' = [c0, c1] := by
        match cs', hl2 with
        | [c0, c1], _ => exact ⟨c0, c1, rfl⟩
      have e0 : c0 = .string s0 := by simpa [cells_str] using hs0
      have e1 : c1 = .string s1 := by simpa [cells_str] using hs1
      subst e0 e1
      refine ⟨(un s0, un s1), ⟨by rw [length_un]; exact hz0, by rw [length_un]; exact hz1⟩, ?_, ?_⟩
      · simpa [Addr.add] using k0
      · simpa using k1
    obtain ⟨l, hll, hq⟩ := exists_list _ len key
    by_cases h0 : len = 0
    · have hl0 : l = [] := List.eq_nil_of_length_eq_zero (by omega)
      subst hl0
      subst h0
      exact ⟨[], ⟨rfl, _, _, rfl, hl, hm, .inl rfl⟩, fun x hx => by cases hx⟩
    · obtain ⟨b, off, spot⟩ := a
      have k0 := (hq 0 (by omega)).2.1
      have hspot : spot = none := by simpa [Addr.add] using World.cell?_spot k0
      subst hspot
      have hadd0 : ∀ i, (⟨b, off, none⟩ : Addr).add (i * 2) = ⟨b, off + i * 2, none⟩ := fun i => addr_none b off (i * 2)
      have hadd : ∀ i r, ((⟨b, off, none⟩ : Addr).add (i * 2)).add r = ⟨b, off + i * 2 + r, none⟩ := fun i r => by rw [hadd0, addr_none]
      have hb : b < W.heap.size := by
        rw [hadd0] at k0
        exact World.block_lt_of_cell? W _ k0
      refine ⟨l, flds_of_cells hll hl hm hb (fun i hi => ?_), fun x hx => ?_⟩
      · have := (hq i hi).2
        rw [hadd, hadd0] at this
        exact this
      · obtain ⟨i, hi, rfl⟩ := List.getElem_of_mem hx
        exact (hq i hi).1
end Go.Proofs.Ytimfngfimnapoaa
