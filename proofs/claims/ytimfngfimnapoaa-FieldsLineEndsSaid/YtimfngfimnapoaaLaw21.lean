/- The walks of awake and FieldsParseMatchesSpec (laws of layer 21): each returns true; memory that existed is unchanged. Conditions: internal/bytealg.MaxLen holds some number. -/
import Derived.Test.YtimfngfimnapoaaFieldsA
import Derived.Test.YtimfngfimnapoaaFieldsR
import Derived.Test.YtimfngfimnapoaaBytes
import Derived.Test.YtimfngfimnapoaaAsciiWords
import Derived.Lib.SlBytesConst
namespace Go.Proofs.Ytimfngfimnapoaa
open Go.RowKit Hs
set_option linter.unusedSimpArgs false
set_option linter.unusedVariables false

theorem f_parse (v : Value) (l : Bs) (w : World) (hv : Byts w v l) (hl : l.length ≤ 1000000) (hm : MaxOk w) :
    Calls Try.prog 10 #[v] w fun e w' => ∃ u, e = .returned (.tuple #[u, .int .i64 (parseF l).2]) ∧ w'.ownsRow w.heap.size 44 2 u (parseF l).1.length (fcells (parseF l).1) ∧ Below w.heap.size w w' := by
  by_cases h : l.length ≤ 16384
  · have := f_parse_short v (mk l) w (by rw [size_mk, un_mk]; exact hv) (by rw [size_mk]; exact h) hm
    rw [un_mk] at this
    exact this
  · rw [parseF_long l (by omega)]
    obtain ⟨a, cap, rfl, _, _, _⟩ := hv.open
    have hl' : ((16384 : Int) < (l.length : Int)) := by omega
    have hB2 : Below w.heap.size w ((w.alloc (.cells #[.slice none 0 0] 25)).alloc (.cells #[.int .i64 0] 26)) := ((Below.refl _ w).alloc (Nat.le_refl _) _).alloc (by simp) _
    clear hv
    refine (callsIn_wide (n := 5)).1 ?_
    refine callsIn_of_wp_marks Try.func10 rfl trivial ?_ rfl
    simp only [Try.ntmps10, List.size_toArray, List.length_cons, List.length_nil, Nat.reduceAdd, Nat.reduceSub, Array.replicate_succ, Array.replicate_zero, List.push_toArray, List.append_toArray, List.nil_append, List.cons_append]
    gi_wp2
    refine (show ∃ v, _ ∧ _ from ⟨.tuple #[.slice none 0 0, .int .i64 3], ?_, .slice none 0 0, rfl, World.ownsRow_nil _ _ _ _, ((Below.refl _ w).alloc (Nat.le_refl _) _).alloc (by simp) _⟩)
    have b1 := Boxed.new (w.alloc (.cells #[.slice none 0 0] 25)) 26 (.int .i64 3)
    have e0 := ((Boxed.new w 25 (.slice none 0 0)).alloc (.cells #[.int .i64 3] 26)).cell
    rw [World.size_alloc] at b1
    have e1 := b1.cell
    simp [results, Try.f10, go_sem, e0, e1]
theorem r21_parse (v : Value) (l : Bs) (w : World) (hv : Byts w v l) (hl : l.length ≤ 1000000) :
    Calls Try.prog 11 #[v] w fun e w' => ∃ u, e = .returned (.tuple #[u, .int .i64 (parseF l).2]) ∧ w'.ownsRow w.heap.size 44 2 u (parseF l).1.length (fcells (parseF l).1) ∧ Below w.heap.size w w' := by
  by_cases h : l.length ≤ 16384
  · exact r21_parse_short v l w hv h
  · rw [parseF_long l (by omega)]
    obtain ⟨a, cap, rfl, _, _, _⟩ := hv.open
    have hl' : ((16384 : Int) < (l.length : Int)) := by omega
    clear hv
    go_enter Try.func11, Try.ntmps11
    go_wp2
    go_ret2
    exact ⟨_, rfl, World.ownsRow_nil _ _ _ _, Below.refl _ _⟩

theorem bytes_lit (w : World) (l : Bs) (xs : Array Value) (h : xs.toList = bcells l) (T : TypeId) (fr : Nat × Nat) (n : Nat) (hn : n = l.length) (hl : n ≤ maxLen) : Byts (w.alloc (.cells xs T fr)) (.slice (some ⟨w.heap.size, 0, none⟩) n n) l := by
  subst hn
  refine ⟨by simp, some ⟨w.heap.size, 0, none⟩, l.length, rfl, Nat.le_refl _, hl, .inr ⟨w.heap.size, 0, rfl, by simp, fun j u hj => ?_⟩⟩
  rw [Nat.zero_add, World.cell?_alloc_mark]
  rw [← h] at hj
  simpa using hj
theorem own_cells {w : World} {base : Nat} {e : TypeId} {size n : Nat} {v : Value} {xs : List Value} (h : w.ownsRow base e size v n xs) (hn : 0 < n) : ∃ g cap, v = .slice (some ⟨g, 0, none⟩) n cap ∧ g < w.heap.size ∧ ∀ j u, xs[j]? = some u → w.cell? ⟨g, j, none⟩ = some u := by
  rcases h.2 with ⟨rfl, rfl⟩ | ⟨g, cap, cur, rfl, hb, hg, hn, hm, hs, ht⟩
  · omega
  · refine ⟨g, cap, rfl, (Array.getElem?_eq_some_iff.1 hg).1, fun j u hj => ?_⟩
    have := h.cells (g := g) rfl j u hj
    have hadd : (⟨g, 0, none⟩ : Addr).add j = ⟨g, j, none⟩ := by unfold Addr.add; split <;> simp_all
    rw [hadd] at this
    simpa using this
theorem ex21a : parseF [65, 58, 32, 120, 32, 13, 10, 98, 58, 121, 10, 13, 10, 114, 101, 115, 116] = ([([97], [120]), ([98], [121])], 0) := by rfl
theorem ex21b : parseF [32, 120, 58, 32, 121, 10] = ([], 4) := by rfl
theorem ex21c : parseF [97, 58, 32, 98] = ([], 5) := by rfl
theorem ex21d : firstF [([97], [120]), ([98], [121])] [66] = ([121], true) := by rfl

set_option maxHeartbeats 2000000 in
theorem law21_awake (w : World) (hm : MaxOk w) : Calls Try.prog 8 #[] w fun e w' => e = .returned (.bool true) ∧ Below w.heap.size w w' := by
  have E1 := Lib.hid ex21a
  have E2 := Lib.hid ex21b
  have E3 := Lib.hid ex21c
  have E4 := Lib.hid ex21d
  have HM := Lib.hid hm
  go_enter Try.func8, Try.ntmps8
  have K := Lib.run_convert_bytes_const (P := Try.prog) w 22 5 #[.int .u8 65, .int .u8 58, .int .u8 32, .int .u8 120, .int .u8 32, .int .u8 13, .int .u8 10, .int .u8 98, .int .u8 58, .int .u8 121, .int .u8 10, .int .u8 13, .int .u8 10, .int .u8 114, .int .u8 101, .int .u8 115, .int .u8 116] 17 17 Try.underlying22 Try.underlying5
  go_wp2_with fail
  clear K
  refine (f_parse _ [65, 58, 32, 120, 32, 13, 10, 98, 58, 121, 10, 13, 10, 114, 101, 115, 116] _ ?_ (by decide) ?_).mono ?_
  · exact bytes_lit w [65, 58, 32, 120, 32, 13, 10, 98, 58, 121, 10, 13, 10, 114, 101, 115, 116] _ rfl _ _ _ rfl (by simp [maxLen])
  · exact hm.below ((Below.refl _ w).alloc (Nat.le_refl _) _) hm.lt
  rintro e w1 ⟨v1, rfl, hown1, hb1⟩
  rw [E1.out] at hown1 ⊢
  have hF := Flds.owned hown1
  have B1 : Below w.heap.size w w1 := ((Below.refl _ w).alloc (Nat.le_refl _) _).trans (hb1.mono (by simp))
  obtain ⟨g, cap, rfl, hg, hc⟩ := own_cells hown1 (by decide)
  have c0 : w1.cell? ⟨g, 0, none⟩ = some (.string ⟨#[97]⟩) := hc 0 _ rfl
  have c1 : w1.cell? ⟨g, 1, none⟩ = some (.string ⟨#[120]⟩) := hc 1 _ rfl
  clear hc hown1 hb1
  have K := Lib.run_convert_bytes_const (P := Try.prog) w1 22 5 #[.int .u8 32, .int .u8 120, .int .u8 58, .int .u8 32, .int .u8 121, .int .u8 10] 6 6 Try.underlying22 Try.underlying5
  go_wp2_with fail
  clear K
  refine (f_parse _ [32, 120, 58, 32, 121, 10] _ ?_ (by decide) ?_).mono ?_
  · exact bytes_lit w1 [32, 120, 58, 32, 121, 10] _ rfl _ _ _ rfl (by simp [maxLen])
  · exact HM.out.below (B1.alloc B1.size _) HM.out.lt
  rintro e w2 ⟨v2, rfl, hown2, hb2⟩
  rw [E2.out] at hown2 ⊢
  have D2 : Below w1.heap.size w1 w2 := ((Below.refl _ w1).alloc (Nat.le_refl _) _).trans (hb2.mono (by simp))
  have B2 := B1.trans (D2.mono B1.size)
  have hF2 := hF.below D2
  have d0 := ((bcell D2).1 g 0 hg).trans c0
  have d1 := ((bcell D2).1 g 1 hg).trans c1
  have hg2 : g < w2.heap.size := by have := D2.size; omega
  clear c0 c1 hown2 hb2 hF hg B1 D2
  have K := Lib.run_convert_bytes_const (P := Try.prog) w2 22 5 #[.int .u8 97, .int .u8 58, .int .u8 32, .int .u8 98] 4 4 Try.underlying22 Try.underlying5
  go_wp2_with fail
  clear K
  refine (f_parse _ [97, 58, 32, 98] _ ?_ (by decide) ?_).mono ?_
  · exact bytes_lit w2 [97, 58, 32, 98] _ rfl _ _ _ rfl (by simp [maxLen])
  · exact HM.out.below (B2.alloc B2.size _) HM.out.lt
  rintro e w3 ⟨v3, rfl, hown3, hb3⟩
  rw [E3.out] at hown3 ⊢
  have D3 : Below w2.heap.size w2 w3 := ((Below.refl _ w2).alloc (Nat.le_refl _) _).trans (hb3.mono (by simp))
  have B3 := B2.trans (D3.mono B2.size)
  have hF3 := hF2.below D3
  have x0 := ((bcell D3).1 g 0 hg2).trans d0
  have x1 := ((bcell D3).1 g 1 hg2).trans d1
  have hg3 : g < w3.heap.size := by have := D3.size; omega
  clear d0 d1 hown3 hb3 hF2 hg2 B2 D3
  go_wp2_with fail
  refine (f_first _ _ ⟨#[66]⟩ _ hF3 (by decide) (by decide) (by decide)).mono ?_; rintro e w4 ⟨rfl, hb4⟩
  rw [show firstF [([97], [120]), ([98], [121])] (un ⟨#[66]⟩) = ([121], true) from E4.out]
  have y0 := ((bcell hb4).1 g 0 hg3).trans x0
  have y1 := ((bcell hb4).1 g 1 hg3).trans x1
  have B4 := B3.trans (hb4.mono B3.size)
  clear x0 x1 hF3 hg3 B3 hb4
  go_wp2_with fail
  go_ret
  exact ⟨ret_bool (by rw [toList_mk']; rfl), B4⟩

set_option maxHeartbeats 1000000 in
theorem parse_walk21 (v0 : Value) (l : Bs) (w : World) (hmax : MaxOk w) (hv : Byts w v0 l) : Calls Try.prog 3 #[v0] w fun e w' => e = .returned (.bool true) ∧ Below w.heap.size w w' := by
  obtain ⟨a, cap, rfl, _, _, _⟩ := hv.open
  by_cases hl : l.length ≤ 17000
  · have hl' : ((l.length : Int) ≤ 17000) := by omega
    go_enter Try.func3, Try.ntmps3
    go_wp2_with fail
    refine (keep_ownBytes _ l w hv (by omega)).mono ?_; rintro e w1 ⟨v1, rfl, hown1, hb1⟩
    have hd1 := Byts.owned hown1
    clear hown1
    go_wp2_with fail
    refine (f_parse v1 l _ hd1 (by omega) (hmax.below hb1 hmax.lt)).mono ?_; rintro e w2 ⟨v2, rfl, hown2, hb2⟩
    obtain ⟨R, hR⟩ : ∃ R, R = parseF l := ⟨_, rfl⟩
    have HR := Lib.hid hR
    rw [← hR] at hown2 ⊢
    clear hR
    have hf2 := Flds.owned hown2
    have hd2 := hd1.below hb2
    have hv2 := (hv.below hb1).below hb2
    have B2 := hb1.trans (hb2.mono hb1.size)
    clear hown2 hd1 hb2
    go_wp2_with fail
    refine (r21_parse _ l _ hv2 (by omega)).mono ?_; rintro e w3 ⟨v3, rfl, hown3, hb3⟩
    rw [← HR.out] at hown3 ⊢
    have hf3 := Flds.owned hown3
    have hg2 := hf2.below hb3
    have hd3 := hd2.below hb3
    have hv3 := hv2.below hb3
    have B3 := B2.trans (hb3.mono B2.size)
    clear hown3 hf2 hd2 hv2 hb3
    go_wp2_with fail
    refine (keep_fields v2 v3 R.1 R.1 _ hg2 hf3).mono ?_; rintro e w4 ⟨rfl, hb4⟩
    rw [decide_eq_true rfl]
    have hd4 := hd3.below hb4
    have hv4 := hv3.below hb4
    have B4 := B3.trans (hb4.mono B3.size)
    clear hd3 hv3 hb4
    go_wp2_with fail
    refine (keep_bytes v1 _ l l _ hd4 hv4).mono ?_; rintro e w' ⟨rfl, rfl⟩
    rw [decide_eq_true rfl]
    go_wp2_with fail
    refine (law21_awake _ (hmax.below B4 hmax.lt)).mono ?_; rintro e w5 ⟨rfl, hb5⟩
    go_wp2_with fail
    go_ret
    exact ⟨rfl, B4.trans (hb5.mono B4.size)⟩
  · have hl' : ((17000 : Int) < (l.length : Int)) := by omega
    go_enter Try.func3, Try.ntmps3
    go_wp2_with fail
    refine (law21_awake _ hmax).mono ?_; rintro e w1 ⟨rfl, hb1⟩
    go_wp2_with fail
    go_ret
    exact ⟨rfl, hb1⟩
end Go.Proofs.Ytimfngfimnapoaa
