/- The walks of keep.OwnBytes and keep.Bytes. Conditions: lengths are bounded. -/
import Derived.Test.YtimfngfimnapoaaAsciiText
import Derived.Test.YtimfngfimnapoaaAppendAt
import Derived.Maps.AppendAt
namespace Go.Proofs.Ytimfngfimnapoaa
open Go.RowKit Hs
set_option linter.unusedSimpArgs false
set_option linter.unusedVariables false

/-- A slice of bytes. -/
def Byts (w : World) (v : Value) (l : Bs) : Prop := Row w v 1 l.length (bcells l)
theorem Byts.below {w w' : World} {v : Value} {l : Bs} (h : Byts w v l) (hb : Below w.heap.size w w') : Byts w' v l := Row.below h hb
theorem Byts.owned {w : World} {base : Nat} {v : Value} {l : Bs} (h : w.ownsRow base 5 1 v l.length (bcells l)) : Byts w v l := Row.owned h
theorem Byts.conv {w : World} {v : Value} {l : Bs} (h : Byts w v l) : (convert 22 9 v).run Try.prog w = .ok (.string (mk l)) w :=
  string_of_row (P := Try.prog) h Try.underlying22 Try.underlying5 Try.underlying9
theorem Byts.open {w : World} {v : Value} {l : Bs} (h : Byts w v l) : ∃ a cap, v = .slice a l.length cap ∧ l.length ≤ cap ∧ cap ≤ maxLen ∧ (0 < l.length → ∃ b off, a = some ⟨b, off, none⟩ ∧ b < w.heap.size ∧ ∀ j (hj : j < l.length), w.cell? ⟨b, off + j, none⟩ = some (.int .u8 (l[j].toNat : Int))) := by
  obtain ⟨hl, a, cap, rfl, hn, hm, h⟩ := h
  refine ⟨a, cap, rfl, hn, hm, fun h0 => ?_⟩
  rcases h with h | ⟨b, off, ha, hlt, hc⟩
  · omega
  · exact ⟨b, off, ha, hlt, fun j hj => hc j _ (by simp [bcells, List.getElem?_eq_getElem hj])⟩

theorem keep_bytes (u v : Value) (l m : Bs) (w : World) (hu : Byts w u l) (hv : Byts w v m) : Calls Try.prog 13 #[u, v] w fun e w' => e = .returned (.bool (decide (l = m))) ∧ w = w' := by
  have h1 := hu.conv
  have h2 := hv.conv
  obtain ⟨a, cap, rfl, _, _, _⟩ := hu.open
  obtain ⟨a2, cap2, rfl, _, _, _⟩ := hv.open
  clear hu hv
  go_enter Try.func13, Try.ntmps13
  go_wp2
  go_ret
  refine ⟨ret_bool ?_, rfl⟩
  rw [Bool.eq_iff_iff]
  simp [toList_mk']

theorem addr_none (b off j : Nat) : (⟨b, off, none⟩ : Addr).add j = ⟨b, off + j, none⟩ := by
  unfold Addr.add
  split
  · rename_i h; rw [h]; rfl
  · rfl
theorem keep_ownBytes (v : Value) (l : Bs) (w : World) (hv : Byts w v l) (hl : l.length ≤ 1000000) : Calls Try.prog 9 #[v] w fun e w' => ∃ u, e = .returned u ∧ w'.ownsRow w.heap.size 5 1 u l.length (bcells l) ∧ Below w.heap.size w w' := by
  obtain ⟨iB0, iB⟩ := info_parts infoByte
  obtain ⟨a, cap, rfl, hn, hm, hc⟩ := hv.open
  clear hv
  rcases Nat.eq_zero_or_pos l.length with h0 | hpos
  · obtain rfl : l = [] := List.eq_nil_of_length_eq_zero h0
    have hown : (w.alloc (.cells #[] 5)).ownsRow w.heap.size 5 1 (.slice (some ⟨w.heap.size, 0, none⟩) 0 0) 0 [] := World.ownsRow_made w #[] 0 (Nat.le_refl _) (by simp [maxLen]) (by simp)
    clear hc
    cases a with
    | none =>
      go_enter Try.func9, Try.ntmps9
      go_wp2
      go_ret
      exact ⟨_, rfl, hown, (Below.refl _ w).alloc (Nat.le_refl _) _⟩
    | some a =>
      go_enter Try.func9, Try.ntmps9
      go_wp2
      go_ret
      exact ⟨_, rfl, hown, (Below.refl _ w).alloc (Nat.le_refl _) _⟩
  · obtain ⟨b, off, rfl, hb, hcell⟩ := hc hpos
    have hown : (w.alloc (.cells #[] 5)).ownsRow w.heap.size 5 1 (.slice (some ⟨w.heap.size, 0, none⟩) 0 0) 0 [] := World.ownsRow_made w #[] 0 (Nat.le_refl _) (by simp [maxLen]) (by simp)
    have hnews : ∀ j u, (bcells l)[j]? = some u → (w.alloc (.cells #[] 5)).cell? ((⟨b, off, none⟩ : Addr).add j) = some u := by
      intro j u hj
      obtain ⟨h, e⟩ := List.getElem?_eq_some_iff.1 hj
      have hjl : j < l.length := by simpa using h
      rw [addr_none, World.cell?_alloc_past _ _ _ hb, hcell j hjl, ← e]
      simp [bcells]
    have h1 : ∀ u ∈ bcells l, u.oneCell' = true := by
      intro u hu
      unfold bcells at hu
      obtain ⟨x, _, rfl⟩ := List.mem_map.1 hu
      rfl
    clear hc hcell
    go_enter Try.func9, Try.ntmps9
    go_wp2_with (at_builtin; refine wpList_append_own _ rfl (.tmp 3) (.tmp 4) 22 rfl w.heap.size 5 iB0 (.int .u8 0) 1 1 Try.underlying22 iB.1 iB.2.1 iB.2.2.1 iB.2.2.2 rfl (by decide) _ _ _ rfl hown ⟨b, off, none⟩ l.length cap (bcells l) rfl (by simp) hnews h1 (by unfold maxLen; omega) (by omega) (by simp) ?_; intro v1 w1 hown1 hgrow1 hnil1)
    go_ret
    rw [Nat.zero_add, List.nil_append] at hown1
    exact ⟨_, rfl, hown1, ((Below.refl _ w).alloc (Nat.le_refl _) _).grown hgrow1 (by simp) (fun k e => by have e2 : some w.heap.size = some k := e; cases e2; exact Nat.le_refl _)⟩
end Go.Proofs.Ytimfngfimnapoaa
