/- The walk of join of ipv6. Conditions: eight groups; the library's tables stand. -/
import Derived.Test.YtblcgicgbindlaaDoorIpv6U
import Derived.Test.YtblcgicgbindlaaDoorIpv6Z
import Derived.Test.YtblcgicgbindlaaDoorLater
import Derived.Lib.Join
namespace Go.Proofs.YtblcgicgbindlaaDoor
open Go.RowKit Hs
set_option linter.unusedSimpArgs false
set_option linter.unusedVariables false

theorem intercalate_joinD (c : UInt8) : ∀ L : List Bs, List.intercalate [c] L = joinD c L
  | [] => rfl
  | [p] => by simp [List.intercalate, joinD]
  | p :: q :: r => by
    have ih := intercalate_joinD c (q :: r)
    show List.intercalate [c] (p :: q :: r) = p ++ c :: joinD c (q :: r)
    rw [← ih]
    simp [List.intercalate, List.intersperse]
theorem lib_join58 (v : Value) (L : List Bs) (w : World) (hst : Strs w v L) (hl : (joinD 58 L).length ≤ 1000) (hn : L.length ≤ 1000) : Calls Tryd.prog 56 #[v, .string ⟨#[58]⟩] w fun e w' => e = .returned (.string (mk (joinD 58 L))) ∧ Below w.heap.size w w' := by
  obtain ⟨a, cap, rfl, h1, h2, hc⟩ := hst.open
  cases L with
  | nil =>
    refine (Tryd.strings_Join_none a cap ⟨#[58]⟩ w).mono ?_
    rintro e w' ⟨rfl, rfl⟩
    exact ⟨rfl, Below.refl _ _⟩
  | cons x r =>
    obtain ⟨b, off, rfl, hb, hcell⟩ := hc (by simp)
    have hx : ((x :: r).map mk).length = (x :: r).length := by simp
    have hm : (((x :: r).map mk).map (·.data.toList)) = x :: r := by
      rw [List.map_map]
      conv => rhs; rw [← List.map_id (x :: r)]
      apply List.map_congr_left
      intro y _
      exact un_mk y
    have hj : Lib.join (((x :: r).map mk).map (·.data.toList)) (⟨#[58]⟩ : ByteArray).data.toList = joinD 58 (x :: r) := by
      rw [hm]; exact intercalate_joinD 58 (x :: r)
    have := Tryd.strings_Join b off cap ((x :: r).map mk) ⟨#[58]⟩ w (by
      intro j y hy
      have hjl : j < (x :: r).length := by have := (List.getElem?_eq_some_iff.1 hy).1; simpa using this
      rw [List.getElem?_map, List.getElem?_eq_getElem hjl] at hy
      have hy := Option.some.inj hy
      rw [← hy]
      exact hcell j hjl) hb (by rw [hx]; omega) (by rw [hx]; exact h1) (by rw [hj]; omega)
    rw [hj, hx] at this
    exact this

theorem row_strs {w : World} {v : Value} {n : Nat} {L : List Bs} (h : Row w v 1 n (scells L)) (hl : L.length = n) : Strs w v L := by
  subst hl; exact h
set_option maxHeartbeats 2000000 in
theorem i6_join (v : Value) (l : List Nat) (w : World) (hB : Base6 w) (hg : Grps w v l) (h8 : l.length ≤ 8) (hl : ∀ x ∈ l, x < 65536) : Calls Tryd.prog 46 #[v] w fun e w' => e = .returned (.string (mk (join6 l))) ∧ Below w.heap.size w w' := by
  obtain ⟨iS0, iS⟩ := info_parts infoStr
  obtain ⟨a, c, rfl, hn, hm, hc⟩ := hg.open
  unfold maxLen at hm
  have HC := Lib.hid hc
  have HB := Lib.hid hB
  have HL := Lib.hid hl
  obtain ⟨n, hn0⟩ : ∃ n, l.length = n := ⟨_, rfl⟩
  rw [hn0] at hn h8 ⊢
  have HN := Lib.hid hn0
  clear hc hg hB hl hn0
  go_enter Tryd.func46, Tryd.ntmps46
  go_wp2
  go_loopw [3, 8] (fun ov iv wr => ∃ (k : Nat), iv = .int .i64 k ∧ k ≤ n ∧ wr.ownsRow w.heap.size 9 1 ov k (scells ((l.take k).map hexT)) ∧ Below w.heap.size w wr) (fun _ iv _ => n - (intOf iv).toNat)
  case atStart => exact ⟨0, rfl, by omega, World.ownsRow_nil _ _ _ _, Below.refl _ _⟩
  case round =>
    obtain ⟨k, rfl, hk, hown, hnx⟩ := hrel
    have hsz := hnx.size
    by_cases hlt : k < n
    · obtain ⟨b, off, rfl, hb1, hcell⟩ := HC.out (by rw [HN.out]; omega)
      have hkl : k < l.length := by rw [HN.out]; exact hlt
      have c0 := ((bcell hnx).1 b (off + k) hb1).trans (hcell k hkl)
      have hx := HL.out l[k] (List.getElem_mem hkl)
      have hst : Hid ((l.take (k + 1)).map hexT = (l.take k).map hexT ++ [hexT l[k]]) := Lib.hid (by rw [List.take_succ_eq_append_getElem hkl, List.map_append]; rfl)
      obtain ⟨x, hxx⟩ : ∃ x, x = l[k] := ⟨_, rfl⟩
      rw [← hxx] at c0 hx hst
      have HF := Lib.hid (lib_hex x wr (HB.out.below hnx) hx)
      clear hxx hcell hkl
      go_wp2_with fail
      refine HF.out.mono ?_; rintro e w2 ⟨rfl, hb2⟩
      have hown2 := own_later hown hb2
      have hs2 := hb2.size
      go_wp2_with (first | (at_builtin; refine wpList_append_own _ rfl (.tmp 12) (.tmp 16) 50 rfl (w.heap.size) 9 iS0 (.string ByteArray.empty) 1 16 Tryd.underlying50 iS.1 iS.2.1 iS.2.2.1 iS.2.2.2 rfl (by decide) _ _ _ rfl (hown2.alloc _) ⟨w2.heap.size, 0, none⟩ 1 1 [_] rfl rfl (cell_one_new _ _ _) (by intro u hu; simp at hu; subst hu; rfl) (by unfold maxLen; omega) (by omega) (by simp; omega) ?_; intro v1 w3 hown1 hgrow1 hnil1))
      go_roundw
      case rel =>
        refine ⟨k + 1, by go_num, by omega, ?_, (hnx.trans (hb2.mono hnx.size)).alloc (by omega) _ |>.grown hgrow1 (by simp; omega) (fun j hj => (hown2.lt j hj).1)⟩
        rw [hst.out, scells_append]
        exact hown1
      case measure => simp [intOf]; omega
    · obtain rfl : k = n := by omega
      have e := Row.owned hown
      rw [List.take_of_length_le (by rw [HN.out]; exact Nat.le_refl _)] at e
      have hst := row_strs e (by rw [List.length_map, HN.out])
      clear e
      have hjl := join6_len l HL.out
      have HJ := Lib.hid (lib_join58 _ (l.map hexT) wr hst (by show (join6 l).length ≤ _; rw [HN.out] at hjl; omega) (by rw [List.length_map, HN.out]; omega))
      clear hst hown hjl
      go_wp2_with fail
      refine HJ.out.mono ?_; rintro e w2 ⟨rfl, hb2⟩
      go_wp2
      go_ret
      exact ⟨rfl, hnx.trans (hb2.mono hnx.size)⟩
/-- The head of an array of eight groups. -/
theorem slice_head (b m : Nat) (h : m ≤ 8) (W : World) : (Instr.sliceAt 39 (.pointer (some ⟨b, 0, none⟩)) none (some (.int .i64 (m : Int))) none).run Tryd.prog W = .ok (.slice (some ⟨b, 0, none⟩) m 8) W := by
  have hal : Tryd.prog.arrayLen 39 = 8 := by kernel_rfl
  have hel : Tryd.prog.elem 39 = 38 := by kernel_rfl
  have hs : ∀ W, (sizeOf 38).run Tryd.prog W = .ok 1 W := by
    intro W
    obtain ⟨i, hi, hsz⟩ := Option.map_eq_some_iff.1 infoU16s
    simp [sizeOf, typeInfo, hi, hsz]
  rw [run_sliceAt_array_h W _ _ (by rw [hal, hel]; exact Tryd.underlying39) .i64 _ (by omega) (by rw [hal]; omega), hel, hs]
  simp [Result.andThen, slicedAt, hal, Addr.add]
theorem slice_from (b e : Nat) (h : e ≤ 8) : ∃ sa : Addr, Hid (e < 8 → sa = ⟨b, e, none⟩) ∧ ∀ W : World, (Instr.sliceAt 39 (.pointer (some ⟨b, 0, none⟩)) (some (.int .i64 (e : Int))) none none).run Tryd.prog W = .ok (.slice (some sa) (8 - e) (8 - e)) W := by
  obtain ⟨sa, h1, h2⟩ := slice_tail b (8 - e) (by omega)
  have e1 : 8 - ((8 - e : Nat) : Int) = (e : Int) := by omega
  have e2 : 8 - (8 - e) = e := by omega
  rw [e1] at h2
  rw [e2] at h1
  exact ⟨sa, Lib.hid (fun h => h1.out (by omega)), h2⟩
/-- A part of a block of eight groups. -/
theorem grps_part {w : World} {g : Nat} {T : TypeId} {l : List Nat} (h : BlkN w g T (gcells l).toArray) (a : Option Addr) (o n c : Nat) (ha : 0 < n → a = some ⟨g, o, none⟩) (hon : o + n ≤ l.length) (hc : n ≤ c) (hm : c ≤ maxLen) : Grps w (.slice a n c) ((l.drop o).take n) := by
  have hl : ((l.drop o).take n).length = n := by rw [List.length_take, List.length_drop]; omega
  refine ⟨by rw [length_gcells, hl, Nat.mul_one], a, c, by rw [hl], by omega, hm, ?_⟩
  rcases Nat.eq_zero_or_pos n with h0 | h0
  · exact .inl (by rw [hl]; exact h0)
  · refine .inr ⟨g, o, ha h0, h.lt, fun j u hj => ?_⟩
    rw [cell_of_row w g (o + j) _ _ _ h]
    have hjn : j < n := by have := (List.getElem?_eq_some_iff.1 hj).1; rw [length_gcells, hl] at this; exact this
    unfold gcells at hj ⊢
    rw [List.getElem?_map, List.getElem?_take_of_lt hjn, List.getElem?_drop] at hj
    rw [List.getElem?_toArray, List.getElem?_map]
    exact hj

end Go.Proofs.YtblcgicgbindlaaDoor
