/- Slices of fields in memory; the walk of keep.Fields. Conditions: none. -/
import Derived.Test.YtimfngfimnapoaaAsciiText
import Derived.Test.YtimfngfimnapoaaPlainFields
import Derived.Test.YtimfngfimnapoaaBlkTwo
namespace Go.Proofs.Ytimfngfimnapoaa
open Go.RowKit Hs
set_option linter.unusedSimpArgs false
set_option linter.unusedVariables false

theorem infoFld : (Try.prog.info? 44).map (fun i => (i.zero, i.size, i.bytes)) = some (some (.agg #[.string ⟨#[]⟩, .string ⟨#[]⟩]), 2, 32) := by kernel_rfl
/-- A field as a value. -/
def fldVal (d : Fld) : Value := .agg #[.string (mk d.1), .string (mk d.2)]
/-- A list of fields as cells. -/
def fcells (l : List Fld) : List Value := l.flatMap fun d => [.string (mk d.1), .string (mk d.2)]
theorem fcells_snoc (l : List Fld) (d : Fld) : fcells l ++ [.string (mk d.1), .string (mk d.2)] = fcells (l ++ [d]) := by simp [fcells]
theorem length_fcells : ∀ l : List Fld, (fcells l).length = l.length * 2
  | [] => rfl
  | d :: l => by
    have := length_fcells l
    unfold fcells at this ⊢
    simp only [List.flatMap_cons, List.length_append, List.length_cons, List.length_nil]
    omega
theorem fcells_get : ∀ (l : List Fld) (k : Nat) (h : k < l.length), (fcells l)[k * 2]? = some (.string (mk l[k].1)) ∧ (fcells l)[k * 2 + 1]? = some (.string (mk l[k].2))
  | [], k, h => by simp at h
  | d :: l, 0, h => by simp [fcells]
  | d :: l, k + 1, h => by
    have := fcells_get l k (by simpa using h)
    have e : fcells (d :: l) = .string (mk d.1) :: .string (mk d.2) :: fcells l := by simp [fcells]
    rw [e]
    have e1 : (k + 1) * 2 = k * 2 + 2 := by omega
    rw [e1]
    simpa using this

/-- A slice of fields. -/
def Flds (w : World) (v : Value) (l : List Fld) : Prop := Row w v 2 l.length (fcells l)
theorem Flds.below {w w' : World} {v : Value} {l : List Fld} (h : Flds w v l) (hb : Below w.heap.size w w') : Flds w' v l := Row.below h hb
theorem Flds.owned {w : World} {base : Nat} {v : Value} {l : List Fld} (h : w.ownsRow base 44 2 v l.length (fcells l)) : Flds w v l := Row.owned h
/-- Its shape and its cells. -/
theorem Flds.open {w : World} {v : Value} {l : List Fld} (h : Flds w v l) : ∃ a cap, v = .slice a l.length cap ∧ l.length ≤ cap ∧ cap ≤ maxLen ∧
    ∀ (hn : 0 < l.length), ∃ b off, a = some ⟨b, off, none⟩ ∧ b < w.heap.size ∧ ∀ j (hj : j < l.length), w.cell? ⟨b, off + j * 2, none⟩ = some (.string (mk l[j].1)) ∧ w.cell? ⟨b, off + j * 2 + 1, none⟩ = some (.string (mk l[j].2)) := by
  obtain ⟨hl, a, cap, rfl, hn, hm, h⟩ := h
  refine ⟨a, cap, rfl, hn, hm, fun h0 => ?_⟩
  rcases h with h | ⟨b, off, ha, hlt, hc⟩
  · omega
  · refine ⟨b, off, ha, hlt, fun j hj => ?_⟩
    obtain ⟨g0, g1⟩ := fcells_get l j hj
    exact ⟨hc _ _ g0, by have := hc _ _ g1; rwa [← Nat.add_assoc] at this⟩
theorem fld_eq_step (l m : List Fld) (k : Nat) (h1 : k < l.length) (h2 : k < m.length) (h : l.take k = m.take k) : (l[k] = m[k] → l.take (k + 1) = m.take (k + 1)) ∧ (l[k] ≠ m[k] → l ≠ m) := by
  refine ⟨fun e => ?_, fun e he => e (by subst he; rfl)⟩
  rw [List.take_succ_eq_append_getElem h1, List.take_succ_eq_append_getElem h2, h, e]

set_option maxHeartbeats 1000000 in
theorem keep_fields (v u : Value) (l m : List Fld) (w : World) (hv : Flds w v l) (hu : Flds w u m) : Calls Try.prog 12 #[v, u] w fun e w' => e = .returned (.bool (decide (l = m))) ∧ Below w.heap.size w w' := by
  obtain ⟨a, cap, rfl, hn, hm, hc⟩ := hv.open
  obtain ⟨a2, cap2, rfl, hn2, hm2, hc2⟩ := hu.open
  unfold maxLen at hm hm2
  have HC := Lib.hid hc
  have HC2 := Lib.hid hc2
  clear hc hc2 hv hu
  by_cases hll : l.length = m.length
  · have hl1 : ((l.length : Int) != (m.length : Int)) = false := by simp [hll]
    have hl2 : m.length ≤ l.length := by omega
    have hl3 : l.length ≤ m.length := by omega
    clear hll
    go_enter Try.func12, Try.ntmps12
    go_wp2
    go_loopw [5] (fun i wr => ∃ k : Nat, i = .int .i64 k ∧ k ≤ l.length ∧ Below w.heap.size w wr ∧ Hid (l.take k = m.take k)) (fun i _ => l.length - (intOf i).toNat)
    case atStart => exact ⟨0, rfl, by omega, Below.refl _ _, rfl⟩
    case round =>
      obtain ⟨k, rfl, hk, hnx, ht⟩ := hrel
      by_cases hlt : k < l.length
      · obtain ⟨b, off, rfl, hb1, hcell⟩ := HC.out (by omega)
        obtain ⟨b2, off2, rfl, hb2, hcell2⟩ := HC2.out (by omega)
        obtain ⟨x0, x1⟩ := hcell k hlt
        obtain ⟨y0, y1⟩ := hcell2 k (by omega)
        have c0 := (hnx.cell (p := ⟨b, off + k * 2, none⟩) hb1).trans x0
        have c1 := (hnx.cell (p := ⟨b, off + k * 2 + 1, none⟩) hb1).trans x1
        have e0 := (hnx.cell (p := ⟨b2, off2 + k * 2, none⟩) hb2).trans y0
        have e1 := (hnx.cell (p := ⟨b2, off2 + k * 2 + 1, none⟩) hb2).trans y1
        clear hcell hcell2 x0 x1 y0 y1
        have HST := Lib.hid (fld_eq_step l m k hlt (by omega) ht.out)
        obtain ⟨x, hx⟩ : ∃ x, x = l[k] := ⟨_, rfl⟩
        obtain ⟨y, hy⟩ : ∃ y, y = m[k]'(by omega) := ⟨_, rfl⟩
        rw [← hx] at c0 c1
        rw [← hy] at e0 e1
        have HX := Lib.hid hx
        have HY := Lib.hid hy
        clear hx hy
        obtain ⟨xa, xb⟩ := x
        obtain ⟨ya, yb⟩ := y
        simp only at c0 c1 e0 e1
        have hk2 : k < m.length := by omega
        by_cases hxy : (xa, xb) = (ya, yb)
        · simp only [Prod.mk.injEq] at hxy
          obtain ⟨rfl, rfl⟩ := hxy
          have hst := Lib.hid (HST.out.1 (HX.out.symm.trans HY.out))
          clear HST HX HY
          go_wp2
          refine wp_region_quiet_lit (by kernel_rfl) (by kernel_rfl) ?_
          repeat (quiet_step (fail))
          refine wpQuiet_nil ?_
          intro _ hw'
          obtain ⟨nq, hw''⟩ := hw'
          subst hw''
          go_wp2
          go_roundw
          case rel => exact ⟨k + 1, by go_num, by omega, by first | exact hnx | exact below_drewN hnx _, hst⟩
          case measure => simp [intOf]; omega
        · have hcase : (¬ (mk xa).toList = (mk ya).toList) ∨ (xa = ya ∧ ¬ (mk xb).toList = (mk yb).toList) := by
            simp only [Prod.mk.injEq] at hxy
            simp only [toList_mk']
            by_cases h1 : xa = ya
            · exact .inr ⟨h1, fun h2 => hxy ⟨h1, h2⟩⟩
            · exact .inl h1
          have hfin : Hid (l ≠ m) := Lib.hid (HST.out.2 (by rw [← HX.out, ← HY.out]; exact hxy))
          clear HST HX HY hxy
          rcases hcase with h | ⟨rfl, h⟩
          all_goals
            go_wp2
            refine wp_region_quiet_lit (by kernel_rfl) (by kernel_rfl) ?_
            repeat (quiet_step (fail))
            refine wpQuiet_nil ?_
            intro _ hw'
            obtain ⟨nq, hw''⟩ := hw'
            subst hw''
            go_wp2
            go_ret
            exact ⟨ret_bool (bfalse hfin.out), by first | exact hnx | exact below_drewN hnx _⟩
      · obtain rfl : k = l.length := by omega
        have hfin : Hid (l = m) := by
          have e := ht.out
          rw [List.take_length, List.take_of_length_le (by omega)] at e
          exact e
        clear ht
        go_wp2
        go_ret
        exact ⟨ret_bool (btrue hfin.out), hnx⟩
  · have hl1 : ((l.length : Int) != (m.length : Int)) = true := by simp; omega
    have hne : l ≠ m := fun e => hll (by rw [e])
    have HNE := Lib.hid hne
    clear hll hne
    go_enter Try.func12, Try.ntmps12
    go_wp2
    go_ret
    exact ⟨ret_bool (bfalse HNE.out), Below.refl _ _⟩
end Go.Proofs.Ytimfngfimnapoaa
