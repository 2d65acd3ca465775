/- The walks of the laws of layer 18 (directive): each returns true; memory that existed is unchanged. Conditions: none. -/
import Derived.Test.YtjdkmidajhbefaaDirB
import Derived.Test.YtjdkmidajhbefaaDirRp
import Derived.Test.YtjdkmidajhbefaaDirFp
import Derived.Test.YtjdkmidajhbefaaDirFr
import Derived.Test.YtjdkmidajhbefaaPlainDirN
import Derived.Test.YtjdkmidajhbefaaAsciiWords
namespace Go.Proofs.Ytjdkmidajhbefaa
open Go.RowKit Hs
set_option linter.unusedSimpArgs false
set_option linter.unusedVariables false

/-- The list that awake formats. -/
theorem lit_two (w : World) (a b c d e f : Value) (T : TypeId) (l : List Dir) (h : dcells l = [a, b, c, d, e, f]) (hl : l.length = 2) : Dirs (w.alloc (.cells #[a, b, c, d, e, f] T)) (.slice (some ⟨w.heap.size, 0, none⟩) 2 2) l := by
  refine ⟨by rw [length_dcells], some ⟨w.heap.size, 0, none⟩, 2, by rw [hl], by omega, by simp [maxLen], .inr ⟨w.heap.size, 0, rfl, by simp, fun j u hj => ?_⟩⟩
  rw [h] at hj
  rw [Nat.zero_add, World.cell?_alloc_mark]
  simpa using hj
/-- What the call owns: its block and its cells. -/
theorem own_cells {w : World} {base : Nat} {e : TypeId} {size n : Nat} {v : Value} {xs : List Value} (h : w.ownsRow base e size v n xs) (hn : 0 < n) : ∃ g cap, v = .slice (some ⟨g, 0, none⟩) n cap ∧ g < w.heap.size ∧ ∀ j u, xs[j]? = some u → w.cell? ⟨g, j, none⟩ = some u := by
  rcases h.2 with ⟨rfl, rfl⟩ | ⟨g, cap, cur, rfl, hb, hg, hn, hm, hs, ht⟩
  · omega
  · refine ⟨g, cap, rfl, (Array.getElem?_eq_some_iff.1 hg).1, fun j u hj => ?_⟩
    have := h.cells (g := g) rfl j u hj
    have hadd : (⟨g, 0, none⟩ : Addr).add j = ⟨g, j, none⟩ := by unfold Addr.add; split <;> simp_all
    rw [hadd] at this
    simpa using this

set_option maxHeartbeats 2000000 in
theorem law18_awake (w : World) : Calls Try.prog 32 #[] w fun e w' => e = .returned (.bool true) ∧ Below w.heap.size w w' := by
  have E1 := Lib.hid ex18a
  have E2 := Lib.hid ex18b
  have E3 : Hid (Value.tuple #[.string (mk (formatD [([97], [120, 32, 121], true), ([98], [], false)]).1), .int .i64 (formatD [([97], [120, 32, 121], true), ([98], [], false)]).2] = .tuple #[.string ⟨#[97, 61, 34, 120, 32, 121, 34, 59, 32, 98]⟩, .int .i64 0]) := Lib.hid (by rw [ex18c]; rfl)
  go_enter Try.func32, Try.ntmps32
  go_wp2_with fail
  refine (d_parse _ _ (by decide)).mono ?_; rintro e w1 ⟨v1, rfl, hown1, hb1⟩
  rw [E1.out] at hown1 ⊢
  obtain ⟨g, cap, rfl, hg, hc⟩ := own_cells hown1 (by decide)
  have c0 : w1.cell? ⟨g, 1, none⟩ = some (.string ⟨#[54, 48]⟩) := hc 1 _ rfl
  have c1 : w1.cell? ⟨g, 3, none⟩ = some (.string ⟨#[105, 110, 99, 108, 117, 100, 101, 115, 117, 98, 100, 111, 109, 97, 105, 110, 115]⟩) := hc 3 _ rfl
  clear hc hown1
  go_wp2_with fail
  refine (d_parse _ _ (by decide)).mono ?_; rintro e w2 ⟨v2, rfl, hown2, hb2⟩
  rw [E2.out] at hown2 ⊢
  have d0 := ((bcell hb2).1 g 1 hg).trans c0
  have d1 := ((bcell hb2).1 g 3 hg).trans c1
  have hg2 : g < w2.heap.size := by have := hb2.size; omega
  clear c0 c1 hown2
  go_wp2_with fail
  refine (p_format _ [([97], [120, 32, 121], true), ([98], [], false)] _ (lit_two w2 _ _ _ _ _ _ 41 _ rfl rfl) (by decide)).mono ?_; rintro e w3 ⟨rfl, hb3⟩
  rw [E3.out]
  have x0 := ((bcell hb3).1 g 1 (by simp; omega)).trans ((World.cell?_alloc_past _ _ _ hg2).trans d0)
  have x1 := ((bcell hb3).1 g 3 (by simp; omega)).trans ((World.cell?_alloc_past _ _ _ hg2).trans d1)
  clear d0 d1
  have b3 := ((hb1.trans (hb2.mono hb1.size)).alloc (by have := hb1.size; have := hb2.size; omega) _).trans (hb3.mono (by have := hb1.size; have := hb2.size; simp; omega))
  clear hb1 hb2 hb3
  go_wp2_with fail
  go_ret
  exact ⟨rfl, b3⟩

set_option maxHeartbeats 1000000 in
theorem parse_walk (s : ByteArray) (w : World) (hs : s.size ≤ maxLen) : Calls Try.prog 11 #[.string s] w fun e w' => e = .returned (.bool true) ∧ Below w.heap.size w w' := by
  unfold maxLen at hs
  by_cases hl : s.size ≤ 4500
  · clear hs
    go_enter Try.func11, Try.ntmps11
    go_wp2_with fail
    refine (d_parse s _ (by omega)).mono ?_; rintro e w1 ⟨v1, rfl, hown1, hb1⟩
    obtain ⟨R, hR⟩ : ∃ R, R = parseD (un s) := ⟨_, rfl⟩
    have HR := Lib.hid hR
    rw [← hR] at hown1 ⊢
    clear hR
    have hd1 := Dirs.owned hown1
    clear hown1
    go_wp2_with fail
    refine (r18_parse s _ (by omega)).mono ?_; rintro e w2 ⟨v2, rfl, hown2, hb2⟩
    rw [← HR.out] at hown2 ⊢
    have hd2 := Dirs.owned hown2
    have hd3 := hd1.below hb2
    clear hown2 hd1
    go_wp2_with fail
    refine (keep_directives v1 v2 R.1 R.1 _ hd3 hd2).mono ?_; rintro e w3 ⟨rfl, hb3⟩
    rw [decide_eq_true rfl]
    go_wp2_with fail
    refine (law18_awake _).mono ?_; rintro e w4 ⟨rfl, hb4⟩
    go_wp2_with fail
    go_ret
    refine ⟨rfl, ?_⟩
    exact by have c1 := hb1; have c2 := c1.trans (hb2.mono c1.size); have c3 := c2.trans (hb3.mono c2.size); have c4 := c3.trans (hb4.mono c3.size); exact c4
  · go_enter Try.func11, Try.ntmps11
    go_wp2_with fail
    refine (law18_awake _).mono ?_; rintro e w1 ⟨rfl, hb1⟩
    go_wp2_with fail
    go_ret
    exact ⟨rfl, hb1⟩
end Go.Proofs.Ytjdkmidajhbefaa
