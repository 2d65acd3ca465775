/- The walk of the library's FormatUint at the base 16. Conditions: the number has at most 16 bits; the library's table of trailing zeros stands.
   The walk of zeros of ipv6. Conditions: eight groups.
   A region that draws its order, whose operations only read and whose callees leave all blocks that existed as they were: one walk of the order of the text serves every order. Conditions: none.
   The walk of join of ipv6. Conditions: eight groups; the library's tables stand. -/
import Derived.Test.YtjbciamhhfcdoaaGreatDoorSub24
import Derived.Laws.BitsAllLaws
import Derived.Test.YtjbciamhhfcdoaaGreatDoorSub01
import Derived.Lib.Join
namespace Go.Proofs.YtjbciamhhfcdoaaGreatDoor
open Go.RowKit Hs
set_option linter.unusedSimpArgs false
set_option linter.unusedVariables false

/-- What the walks of ipv6 ask of memory: beside the rest, the table's entry for 16. -/
def Base6 (w : World) : Prop := Base w ∧ w.cell? ⟨5, 15, none⟩ = some (.int .u8 4)
theorem Base6.below {w w' : World} (h : Base6 w) (hb : Below w.heap.size w w') : Base6 w' :=
  ⟨h.1.below hb, ((bcell hb).1 _ _ (World.block_lt_of_cell? w _ h.2)).trans h.2⟩

set_option maxHeartbeats 1000000 in
theorem lib_tz64 (w : World) (h : w.cell? ⟨5, 15, none⟩ = some (.int .u8 4)) : Calls Tryz.prog 269 #[.int .u64 16] w fun e w' => e = .returned (.int .i64 4) ∧ w = w' := by
  have e1 : bits BinOp.and IntKind.u64 16 (IntKind.u64.wrap (-16)) = 16 := by kernel_rfl
  have e2 : IntKind.u64.wrap (16 * 285870213051353865) = 4573923408821661840 := by kernel_rfl
  go_enter Tryz.func269, Tryz.ntmps269
  go_wp2
  go_ret
  exact ⟨rfl, rfl⟩
set_option maxHeartbeats 1000000 in
theorem lib_tz (w : World) (h : w.cell? ⟨5, 15, none⟩ = some (.int .u8 4)) : Calls Tryz.prog 262 #[.int .u64 16] w fun e w' => e = .returned (.int .i64 4) ∧ w = w' := by
  have HT := Lib.hid (lib_tz64 w h)
  clear h
  go_enter Tryz.func262, Tryz.ntmps262
  go_wp2_with fail
  refine (HT.out).mono ?_; rintro e w2 ⟨rfl, rfl⟩
  go_wp2
  go_ret
  exact ⟨rfl, rfl⟩
theorem lib_pow (w : World) : Calls Tryz.prog 261 #[.int .i64 16] w fun e w' => e = .returned (.bool true) ∧ w = w' := by
  go_enter Tryz.func261, Tryz.ntmps261
  go_wp2
  go_ret
  exact ⟨rfl, rfl⟩
/-- The letters of the digits. -/
theorem lit36 (d : Nat) (h : d < 16) (h2 : d < (⟨#[48, 49, 50, 51, 52, 53, 54, 55, 56, 57, 97, 98, 99, 100, 101, 102, 103, 104, 105, 106, 107, 108, 109, 110, 111, 112, 113, 114, 115, 116, 117, 118, 119, 120, 121, 122]⟩ : ByteArray).size) : (⟨#[48, 49, 50, 51, 52, 53, 54, 55, 56, 57, 97, 98, 99, 100, 101, 102, 103, 104, 105, 106, 107, 108, 109, 110, 111, 112, 113, 114, 115, 116, 117, 118, 119, 120, 121, 122]⟩ : ByteArray)[d]'h2 = hexC d := by
  have : ∀ d : Fin 16, (⟨#[48, 49, 50, 51, 52, 53, 54, 55, 56, 57, 97, 98, 99, 100, 101, 102, 103, 104, 105, 106, 107, 108, 109, 110, 111, 112, 113, 114, 115, 116, 117, 118, 119, 120, 121, 122]⟩ : ByteArray)[d.1]'(Nat.lt_of_lt_of_le d.2 (by decide)) = hexC d.1 := by decide
  exact this ⟨d, h⟩
theorem and15 (x : Nat) (hx : x < 65536) : bits .and .u64 (x : Int) 15 = ((x % 16 : Nat) : Int) := by
  have h := u64_and_nat x 15 (by omega) (by omega)
  have e : x &&& 15 = x % 16 := Nat.and_two_pow_sub_one_eq_mod x 4
  rw [e] at h
  exact h

theorem BlkN.set {w : World} {g : Nat} {T : TypeId} {cs : Array Value} (h : BlkN w g T cs) (j : Nat) (v : Value) : BlkN (w.setCell ⟨g, j, none⟩ v) g T (cs.setIfInBounds j v) := by
  have hlt := h.lt
  have h' : w.heap[g] = .cells cs T (0, 0) := by simpa [BlkN, Array.getElem?_eq_getElem hlt] using h
  show (w.heap.modify g _)[g]? = _
  rw [Array.getElem?_eq_getElem (by simpa using hlt), Array.getElem_modify_self, h']
  rfl
theorem drop_set_cell (cs : Array Value) (j : Nat) (v : Value) (h : j < cs.size) : (cs.setIfInBounds j v).toList.drop j = v :: cs.toList.drop (j + 1) := by
  rw [Array.toList_setIfInBounds, List.drop_eq_getElem_cons (by simpa using h), List.getElem_set_self, List.drop_set_of_lt (by omega)]
theorem infoU8s : (Tryz.prog.info? 5).map (·.size) = some 1 := by kernel_rfl
/-- The tail of an array of 65 bytes. -/
theorem slice_tail65 (b j : Nat) (h : j < 65) (W : World) : (Instr.sliceAt 257 (.pointer (some ⟨b, 0, none⟩)) (some (.int .i64 (j : Int))) none none).run Tryz.prog W = .ok (.slice (some ⟨b, j, none⟩) (65 - j) (65 - j)) W := by
  have hal : Tryz.prog.arrayLen 257 = 65 := by kernel_rfl
  have hel : Tryz.prog.elem 257 = 5 := by kernel_rfl
  have hs : ∀ W, (sizeOf 5).run Tryz.prog W = .ok 1 W := by
    intro W
    obtain ⟨i, hi, hsz⟩ := Option.map_eq_some_iff.1 infoU8s
    simp [sizeOf, typeInfo, hi, hsz]
  have hadd : (⟨b, 0, none⟩ : Addr).add (j * 1) = ⟨b, j, none⟩ := by
    unfold Addr.add
    split
    · rename_i h1; simp at h1; simp [h1]
    · simp
  rw [run_sliceAt_array_l W _ _ (by rw [hal, hel]; exact Tryz.underlying257) .i64 _ (by omega) (by rw [hal]; omega), hel, hs]
  simp only [Result.andThen, slicedAt, hal, Int.toNat_natCast]
  rw [if_neg (by omega), hadd]
theorem bits_row {W : World} {g j : Nat} {cs : Array Value} {t : Bs} (h : BlkN W g 257 cs) (hs : cs.size = 65) (hj : j < 65) (ht : j + t.length = 65) (hd : cs.toList.drop j = bcells t) : Row W (.slice (some ⟨g, j, none⟩) (65 - j) (65 - j)) 1 (65 - j) (bcells t) := by
  refine ⟨by rw [length_bcells]; omega, _, _, rfl, Nat.le_refl _, by unfold maxLen; omega, .inr ⟨g, j, rfl, h.lt, fun i u hi => ?_⟩⟩
  rw [cell_of_row W g (j + i) cs _ _ h, ← hi, ← hd, List.getElem?_drop]
  simp

set_option maxRecDepth 20000 in
set_option maxHeartbeats 2000000 in
theorem lib_bits (n : Nat) (w : World) (hB : Base6 w) (hn : n < 65536) : Calls Tryz.prog 247 #[.slice none 0 0, .int .u64 (n : Int), .int .i64 16, .bool false, .bool false] w fun e w' => e = .returned (.tuple #[.slice none 0 0, .string (mk (hexT n))]) ∧ Below w.heap.size w w' := by
  have HP := Lib.hid (fun W => lib_pow W)
  have HT := Lib.hid (fun W h => lib_tz W h)
  have HB := Lib.hid hB
  clear hB
  go_enter Tryz.func247, Tryz.ntmps247
  go_wp2_with fail
  refine (HP.out _).mono ?_; rintro e w2 ⟨rfl, rfl⟩
  go_wp2_with fail
  refine (HT.out _ ?_).mono ?_
  · exact ((bcell ((Below.refl _ w).alloc (Nat.le_refl _) _)).1 _ _ (World.block_lt_of_cell? w _ HB.out.2)).trans HB.out.2
  rintro e w2 ⟨rfl, rfl⟩
  have h0 : BlkN (w.alloc (.cells Tryz.zeroCells257 257)) w.heap.size 257 Tryz.zeroCells257 := BlkN.new w _ _
  have hz : Tryz.zeroCells257.size = 65 := by kernel_rfl
  have HZ := Lib.hid (And.intro h0 hz)
  have hbA : Below w.heap.size w (w.alloc (.cells Tryz.zeroCells257 257)) := (Below.refl _ w).alloc (Nat.le_refl _) _
  have HA := Lib.hid hbA
  clear h0 hz hbA HP HT
  go_wp2
  go_loopw [1, 13] (fun uv iv wr => ∃ (m q : Nat) (t : Bs) (cur : Array Value), uv = .int .u64 m ∧ iv = .int .i64 q ∧ m < 65536 ∧ q ≤ 65 ∧ 61 ≤ q ∧ Hid (q + t.length = 65 ∧ hexT n = hexT m ++ t ∧ cur.size = 65 ∧ cur.toList.drop q = bcells t) ∧ Hid (BlkN wr w.heap.size 257 cur) ∧ Below w.heap.size w wr) (fun uv _ _ => (intOf uv).toNat)
  case atStart => exact ⟨n, 65, [], _, rfl, rfl, hn, by omega, by omega, Lib.hid ⟨rfl, by simp, HZ.out.2, by rw [List.drop_of_length_le (by rw [Array.length_toList, HZ.out.2]; exact Nat.le_refl _)]; rfl⟩, Lib.hid HZ.out.1, HA.out⟩
  case round =>
    obtain ⟨m, q, t, cur, rfl, rfl, hm, hq, hq1, hst, hblk, hnx⟩ := hrel
    have hq2 : 62 ≤ q := by
      have h4 := hexT_len n hn
      have h1 : 0 < (hexT m).length := List.length_pos_iff.2 (hexT_solid m).1
      have e := congrArg List.length hst.out.2.1
      rw [List.length_append] at e
      have := hst.out.1
      omega
    obtain ⟨j, rfl⟩ : ∃ j, q = j + 1 := ⟨q - 1, by omega⟩
    have hj : j < cur.size := by rw [hst.out.2.2.1]; omega
    obtain ⟨u0, hu0⟩ : ∃ u, cur[j]? = some u := ⟨cur[j], Array.getElem?_eq_getElem hj⟩
    have c0 : wr.cell? ⟨w.heap.size, j, none⟩ = some u0 := by rw [cell_of_row wr w.heap.size j cur _ _ hblk.out]; exact hu0
    have f0 : wr.frozen? ⟨w.heap.size, j, none⟩ = false := Lib.frozen_of_heap hblk.out j
    clear hu0
    have hcs : Hid (j < cur.size) := Lib.hid hj
    clear hj
    by_cases hge : 16 ≤ m
    · have g1 : decide ((16 : Int) ≤ (m : Int)) = true := decide_eq_true (by omega)
      obtain ⟨d, hd⟩ : ∃ d, d = m % 16 := ⟨_, rfl⟩
      have ha : bits .and .u64 (m : Int) 15 = (d : Int) := by rw [hd]; exact and15 m hm
      have hd16 : d < 16 := by omega
      have hdl : d < (⟨#[48, 49, 50, 51, 52, 53, 54, 55, 56, 57, 97, 98, 99, 100, 101, 102, 103, 104, 105, 106, 107, 108, 109, 110, 111, 112, 113, 114, 115, 116, 117, 118, 119, 120, 121, 122]⟩ : ByteArray).size := Nat.lt_of_lt_of_le hd16 (by decide)
      have HL := Lib.hid (lit36 d hd16 hdl)
      have HD := Lib.hid hd
      clear hd
      go_wp2
      all_goals (try (exfalso; omega))
      go_roundw
      case rel =>
        refine ⟨m / 16, j, hexC d :: t, cur.setIfInBounds j (.int .u8 ((⟨#[48, 49, 50, 51, 52, 53, 54, 55, 56, 57, 97, 98, 99, 100, 101, 102, 103, 104, 105, 106, 107, 108, 109, 110, 111, 112, 113, 114, 115, 116, 117, 118, 119, 120, 121, 122]⟩ : ByteArray)[d].toNat : Int)), by go_num, rfl, by omega, by omega, by omega, Lib.hid ⟨?_, ?_, ?_, ?_⟩, Lib.hid (hblk.out.set j _), hnx.setCell (p := ⟨w.heap.size, j, none⟩) (Nat.le_refl _) _⟩
        · have := hst.out.1; rw [List.length_cons]; omega
        · rw [hst.out.2.1, HD.out]
          unfold hexT
          rw [digsN_big (by decide) hge, List.append_assoc]
          rfl
        · rw [Array.size_setIfInBounds]; exact hst.out.2.2.1
        · rw [drop_set_cell cur j _ hcs.out, hst.out.2.2.2, HL.out]
          rfl
      case measure => simp [intOf]; omega
    · have g1 : decide ((16 : Int) ≤ (m : Int)) = false := decide_eq_false (by omega)
      have hd16 : m < 16 := by omega
      have hdl : m < (⟨#[48, 49, 50, 51, 52, 53, 54, 55, 56, 57, 97, 98, 99, 100, 101, 102, 103, 104, 105, 106, 107, 108, 109, 110, 111, 112, 113, 114, 115, 116, 117, 118, 119, 120, 121, 122]⟩ : ByteArray).size := Nat.lt_of_lt_of_le hd16 (by decide)
      have hsl := slice_tail65 w.heap.size j (by omega)
      have h2 := hblk.out.set j (.int .u8 ((⟨#[48, 49, 50, 51, 52, 53, 54, 55, 56, 57, 97, 98, 99, 100, 101, 102, 103, 104, 105, 106, 107, 108, 109, 110, 111, 112, 113, 114, 115, 116, 117, 118, 119, 120, 121, 122]⟩ : ByteArray)[m].toNat : Int))
      have hrow := bits_row (j := j) (t := hexC m :: t) h2 (by rw [Array.size_setIfInBounds]; exact hst.out.2.2.1) (by omega) (by have := hst.out.1; rw [List.length_cons]; omega) (by rw [drop_set_cell cur j _ hcs.out, hst.out.2.2.2, lit36 m hd16 hdl]; rfl)
      have hcv := string_of_row hrow Tryz.underlying32 Tryz.underlying5 Tryz.underlying9
      have hfin : Hid (hexC m :: t = hexT n) := Lib.hid (by rw [hst.out.2.1]; unfold hexT; rw [digsN_small hd16]; rfl)
      rw [hfin.out] at hcv
      clear h2 hrow hst hblk hcs hfin
      go_wp2
      all_goals (try (exfalso; omega))
      go_ret2
      exact ⟨rfl, hnx.setCell (p := ⟨w.heap.size, j, none⟩) (Nat.le_refl _) _⟩

set_option maxHeartbeats 1000000 in
theorem lib_hex0 (n : Nat) (w : World) (hB : Base6 w) (hn : n < 65536) : Calls Tryz.prog 224 #[.int .u64 (n : Int), .int .i64 16] w fun e w' => e = .returned (.string (mk (hexT n))) ∧ Below w.heap.size w w' := by
  have HS := Lib.hid (lib_bits n w hB hn)
  clear hB
  go_enter Tryz.func224, Tryz.ntmps224
  go_wp2_with fail
  refine HS.out.mono ?_; rintro e w2 ⟨rfl, hb2⟩
  go_wp2
  go_ret
  exact ⟨rfl, hb2⟩
set_option maxHeartbeats 1000000 in
theorem lib_hex (n : Nat) (w : World) (hB : Base6 w) (hn : n < 65536) : Calls Tryz.prog 193 #[.int .u64 (n : Int), .int .i64 16] w fun e w' => e = .returned (.string (mk (hexT n))) ∧ Below w.heap.size w w' := by
  have HS := Lib.hid (lib_hex0 n w hB hn)
  clear hB
  go_enter Tryz.func193, Tryz.ntmps193
  go_wp2_with fail
  refine HS.out.mono ?_; rintro e w2 ⟨rfl, hb2⟩
  go_wp2
  go_ret
  exact ⟨rfl, hb2⟩
end Go.Proofs.YtjbciamhhfcdoaaGreatDoor
namespace Go.Proofs.YtjbciamhhfcdoaaGreatDoor
open Go.RowKit Hs
set_option linter.unusedSimpArgs false
set_option linter.unusedVariables false

/-- The cells of a new block of groups. -/
theorem grp_new (w : World) (T : TypeId) (l : List Nat) : ∀ j (hj : j < l.length), (w.alloc (.cells (gcells l).toArray T)).cell? ⟨w.heap.size, j, none⟩ = some (.int .u16 (l[j] : Int)) := by
  intro j hj
  rw [World.cell?_alloc_mark]
  simp [gcells, List.getElem?_eq_getElem hj]
theorem runZ_drop_zero {l : List Nat} {k : Nat} (h : k < l.length) (h0 : l[k] = 0) : runZ (l.drop k) = runZ (l.drop (k + 1)) + 1 := by
  rw [List.drop_eq_getElem_cons h, runZ, if_pos h0]
theorem runZ_drop_not {l : List Nat} {k : Nat} (h : k < l.length) (h0 : l[k] ≠ 0) : runZ (l.drop k) = 0 := by
  rw [List.drop_eq_getElem_cons h, runZ, if_neg h0]
theorem bestZ_drop {l : List Nat} {k : Nat} (h : k < l.length) (b : Nat × Nat) : bestZ (l.drop k) k b = bestZ (l.drop (k + 1)) (k + 1) (if b.2 < runZ (l.drop k) then (k, runZ (l.drop k)) else b) := by
  rw [List.drop_eq_getElem_cons h, bestZ]

set_option maxHeartbeats 4000000 in
theorem i6_zeros (l : List Nat) (w : World) (h8 : l.length = 8) (hl : ∀ x ∈ l, x < 65536) : Calls Tryz.prog 142 #[.agg (gcells l).toArray] w fun e w' => e = .returned (.tuple #[.int .i64 (bestZ l 0 (0, 0)).1, .int .i64 (bestZ l 0 (0, 0)).2]) ∧ Below w.heap.size w w' := by
  have hcell := grp_new w 58 l
  have hbA : Below w.heap.size w (w.alloc (.cells (gcells l).toArray 58)) := (Below.refl _ w).alloc (Nat.le_refl _) _
  have hszA : w.heap.size < (w.alloc (.cells (gcells l).toArray 58)).heap.size := by simp
  have HA := Lib.hid (And.intro hbA (And.intro hszA hcell))
  have H8 := Lib.hid h8
  clear hcell hbA hszA
  go_enter Tryz.func142, Tryz.ntmps142
  go_wp2
  go_loopw [4, 5, 8] (fun av mv iv wr => ∃ (k a m : Nat), iv = .int .i64 k ∧ k ≤ 8 ∧ av = .int .i64 a ∧ mv = .int .i64 m ∧ a ≤ 8 ∧ m ≤ 8 ∧ Hid (bestZ l 0 (0, 0) = bestZ (l.drop k) k (a, m)) ∧ Below (w.alloc (.cells (gcells l).toArray 58)).heap.size (w.alloc (.cells (gcells l).toArray 58)) wr) (fun _ _ iv _ => 8 - (intOf iv).toNat)
  case atStart => exact ⟨0, 0, 0, rfl, by omega, rfl, rfl, by omega, by omega, Lib.hid rfl, Below.refl _ _⟩
  case round =>
    obtain ⟨k, a, m, rfl, hk, rfl, rfl, ha, hm, hst, hnx⟩ := hrel
    by_cases hlt : k < 8
    · have hkl : k < l.length := by rw [H8.out]; exact hlt
      have hst2 : Hid (bestZ l 0 (0, 0) = bestZ (l.drop (k + 1)) (k + 1) (if m < runZ (l.drop k) then (k, runZ (l.drop k)) else (a, m))) := Lib.hid (by rw [hst.out, bestZ_drop hkl])
      have hw1 : w.heap.size < wr.heap.size := Nat.lt_of_lt_of_le HA.out.2.1 hnx.size
      have HCR : Hid (∀ j (hj : j < l.length), wr.cell? ⟨w.heap.size, j, none⟩ = some (.int .u16 (l[j] : Int))) := Lib.hid (fun j hj => ((bcell hnx).1 w.heap.size j HA.out.2.1).trans (HA.out.2.2 j hj))
      clear hst
      go_wp2
      go_loopw [7] (fun nv wq => ∃ (j : Nat), nv = .int .i64 j ∧ k + j ≤ 8 ∧ Hid (runZ (l.drop k) = j + runZ (l.drop (k + j))) ∧ Below wr.heap.size wr wq) (fun nv _ => 8 - (intOf nv).toNat)
      case atStart => exact ⟨0, rfl, by omega, Lib.hid (by simp), Below.refl _ _⟩
      case round =>
        obtain ⟨j, rfl, hj, hrun, hnq⟩ := hrel
        by_cases hjl : k + j < 8
        · have hjl2 : k + j < l.length := by rw [H8.out]; exact hjl
          have g1 : decide ((k : Int) + (j : Int) < 8) = true := decide_eq_true (by omega)
          have c0 := ((bcell hnq).1 w.heap.size (k + j) hw1).trans (HCR.out (k + j) hjl2)
          have hx := hl l[k + j] (List.getElem_mem hjl2)
          by_cases h0 : l[k + j] = 0
          · have hr2 : Hid (runZ (l.drop k) = (j + 1) + runZ (l.drop (k + (j + 1)))) := Lib.hid (by rw [hrun.out, runZ_drop_zero hjl2 h0]; simp only [← Nat.add_assoc]; omega)
            rw [h0] at c0
            clear hrun h0 hx
            go_wp2
            all_goals (try (exfalso; omega))
            go_roundw
            case rel => exact ⟨j + 1, by go_num, by omega, hr2, hnq⟩
            case measure => simp [intOf]; omega
          · obtain ⟨x, hxx⟩ : ∃ x, x = l[k + j] := ⟨_, rfl⟩
            have hfin : Hid (runZ (l.drop k) = j) := Lib.hid (by rw [hrun.out, runZ_drop_not hjl2 h0, Nat.add_zero])
            rw [← hxx] at c0 h0 hx
            have g2 : ((x : Int) == 0) = false := by simp; omega
            clear hrun hxx
            by_cases hmj : m < j
            · have hst3 : Hid (bestZ l 0 (0, 0) = bestZ (l.drop (k + 1)) (k + 1) (k, j)) := Lib.hid (by rw [hst2.out, hfin.out, if_pos hmj])
              clear hst2 hfin
              have g3 : decide ((m : Int) < (j : Int)) = true := decide_eq_true (by omega)
              go_wp2
              all_goals (try (exfalso; omega))
              go_roundw
              case rel => exact ⟨k + 1, k, j, by go_num, by omega, rfl, rfl, by omega, by omega, hst3, hnx.trans (hnq.mono hnx.size)⟩
              case measure => simp [intOf]; omega
            · have hst3 : Hid (bestZ l 0 (0, 0) = bestZ (l.drop (k + 1)) (k + 1) (a, m)) := Lib.hid (by rw [hst2.out, hfin.out, if_neg hmj])
              clear hst2 hfin
              have g3 : decide ((m : Int) < (j : Int)) = false := decide_eq_false (by omega)
              go_wp2
              all_goals (try (exfalso; omega))
              go_roundw
              case rel => exact ⟨k + 1, a, m, by go_num, by omega, rfl, rfl, by omega, by omega, hst3, hnx.trans (hnq.mono hnx.size)⟩
              case measure => simp [intOf]; omega
        · have hfin : Hid (runZ (l.drop k) = j) := Lib.hid (by rw [hrun.out, List.drop_of_length_le (by rw [H8.out]; omega)]; rfl)
          have g1 : decide ((k : Int) + (j : Int) < 8) = false := decide_eq_false (by omega)
          clear hrun
          by_cases hmj : m < j
          · have hst3 : Hid (bestZ l 0 (0, 0) = bestZ (l.drop (k + 1)) (k + 1) (k, j)) := Lib.hid (by rw [hst2.out, hfin.out, if_pos hmj])
            clear hst2 hfin
            have g3 : decide ((m : Int) < (j : Int)) = true := decide_eq_true (by omega)
            go_wp2
            all_goals (try (exfalso; omega))
            go_roundw
            case rel => exact ⟨k + 1, k, j, by go_num, by omega, rfl, rfl, by omega, by omega, hst3, hnx.trans (hnq.mono hnx.size)⟩
            case measure => simp [intOf]; omega
          · have hst3 : Hid (bestZ l 0 (0, 0) = bestZ (l.drop (k + 1)) (k + 1) (a, m)) := Lib.hid (by rw [hst2.out, hfin.out, if_neg hmj])
            clear hst2 hfin
            have g3 : decide ((m : Int) < (j : Int)) = false := decide_eq_false (by omega)
            go_wp2
            all_goals (try (exfalso; omega))
            go_roundw
            case rel => exact ⟨k + 1, a, m, by go_num, by omega, rfl, rfl, by omega, by omega, hst3, hnx.trans (hnq.mono hnx.size)⟩
            case measure => simp [intOf]; omega
    · obtain rfl : k = 8 := by omega
      have hend : Hid (bestZ l 0 (0, 0) = (a, m)) := Lib.hid (by rw [hst.out, List.drop_of_length_le (by rw [H8.out]; omega)]; rfl)
      clear hst
      go_wp2
      go_ret2
      rw [hend.out]
      exact ⟨rfl, HA.out.1.trans (hnx.mono HA.out.1.size)⟩
end Go.Proofs.YtjbciamhhfcdoaaGreatDoor
namespace Hs
open Go Go.RowKit
set_option linter.unusedVariables false

/-- The worlds in which all blocks of W are as in W. -/
def Later (W : World) : Type := { w' : World // Below W.heap.size W w' }
instance (W : World) : Nonempty (Later W) := ⟨⟨W, Below.refl _ _⟩⟩
theorem wp_region_later {P : Program} {id : Nat} {Q : Exit → Act → World → Prop} {a : Act} {w : World} (W : World) {l : List Oper} (hm : P.follows .mixedOrders = true) (hB : Region.lexB .any l.toArray = true) (h0 : Below W.heap.size W w)
    (h : wpQuiet P l.toArray (fun w' => ∃ x : Later W, w' = x.1) (fun a' => ∀ w', (∃ x : Later W, w' = x.1) → Q .normal a' w') l a) : (Code.region id l.toArray true).wp P Q a w :=
  wp_region_quiet (C := fun w' => ∃ x : Later W, w' = x.1) hm hB ⟨⟨_, h0.drew⟩, rfl⟩ (by simpa using h)
theorem Calls.later {P : Program} {f : FuncId} {args : Array Value} {W : World} {x : Later W} {v : Value} (h : Calls P f args x.1 fun e w' => e = .returned v ∧ Below x.1.heap.size x.1 w') : Calls P f args x.1 fun e w'' => e = .returned v ∧ ∃ y : Later W, w'' = y.1 :=
  h.mono fun _ w' ⟨he, hb⟩ => ⟨he, ⟨w', x.2.trans (hb.mono x.2.size)⟩, rfl⟩
theorem Calls.later_same {P : Program} {f : FuncId} {args : Array Value} {W : World} {x : Later W} {v : Value} (h : Calls P f args x.1 fun e w' => e = .returned v ∧ x.1 = w') : Calls P f args x.1 fun e w'' => e = .returned v ∧ ∃ y : Later W, w'' = y.1 :=
  h.mono fun _ _ ⟨he, hb⟩ => ⟨he, x, hb.symm⟩
end Hs
namespace Go.Proofs.YtjbciamhhfcdoaaGreatDoor
open Go.RowKit Hs
set_option linter.unusedSimpArgs false
set_option linter.unusedVariables false

theorem intercalate_joinD (c : UInt8) : ∀ L : List Bs, List.intercalate [c] L = joinD c L
  | [] => rfl
  | [p] => by simp [List.intercalate, joinD]
  | p :: q :: r => by
    have ih := intercalate_joinD c (q :: r)
    show List.intercalate [c] (p :: q :: r) = p ++ c :: joinD c (q :: r)
    rw [← ih]
    simp [List.intercalate, List.intersperse]
theorem lib_join58 (v : Value) (L : List Bs) (w : World) (hst : Strs w v L) (hl : (joinD 58 L).length ≤ 1000) (hn : L.length ≤ 1000) : Calls Tryz.prog 194 #[v, .string ⟨#[58]⟩] w fun e w' => e = .returned (.string (mk (joinD 58 L))) ∧ Below w.heap.size w w' := by
  obtain ⟨a, cap, rfl, h1, h2, hc⟩ := hst.open
  cases L with
  | nil =>
    refine (Tryz.strings_Join_none a cap ⟨#[58]⟩ w).mono ?_
    rintro e w' ⟨rfl, rfl⟩
    exact ⟨rfl, Below.refl _ _⟩
  | cons x r =>
    obtain ⟨b, off, rfl, hb, hcell⟩ := hc (by simp)
    have hx : ((x :: r).map mk).length = (x :: r).length := by simp
    have hm : (((x :: r).map mk).map (·.data.toList)) = x :: r := by
      rw [List.map_map]
      conv => rhs; rw [← List.map_id (x :: r)]
      apply List.map_congr_left
      intro y _
      exact un_mk y
    have hj : Lib.join (((x :: r).map mk).map (·.data.toList)) (⟨#[58]⟩ : ByteArray).data.toList = joinD 58 (x :: r) := by
      rw [hm]; exact intercalate_joinD 58 (x :: r)
    have := Tryz.strings_Join b off cap ((x :: r).map mk) ⟨#[58]⟩ w (by
      intro j y hy
      have hjl : j < (x :: r).length := by have := (List.getElem?_eq_some_iff.1 hy).1; simpa using this
      rw [List.getElem?_map, List.getElem?_eq_getElem hjl] at hy
      have hy := Option.some.inj hy
      rw [← hy]
      exact hcell j hjl) hb (by rw [hx]; omega) (by rw [hx]; exact h1) (by rw [hj]; omega)
    rw [hj, hx] at this
    exact this

theorem row_strs {w : World} {v : Value} {n : Nat} {L : List Bs} (h : Row w v 1 n (scells L)) (hl : L.length = n) : Strs w v L := by
  subst hl; exact h
set_option maxHeartbeats 2000000 in
theorem i6_join (v : Value) (l : List Nat) (w : World) (hB : Base6 w) (hg : Grps w v l) (h8 : l.length ≤ 8) (hl : ∀ x ∈ l, x < 65536) : Calls Tryz.prog 143 #[v] w fun e w' => e = .returned (.string (mk (join6 l))) ∧ Below w.heap.size w w' := by
  obtain ⟨iS0, iS⟩ := info_parts infoStr
  obtain ⟨a, c, rfl, hn, hm, hc⟩ := hg.open
  unfold maxLen at hm
  have HC := Lib.hid hc
  have HB := Lib.hid hB
  have HL := Lib.hid hl
  obtain ⟨n, hn0⟩ : ∃ n, l.length = n := ⟨_, rfl⟩
  rw [hn0] at hn h8 ⊢
  have HN := Lib.hid hn0
  clear hc hg hB hl hn0
  go_enter Tryz.func143, Tryz.ntmps143
  go_wp2
  go_loopw [3, 8] (fun ov iv wr => ∃ (k : Nat), iv = .int .i64 k ∧ k ≤ n ∧ wr.ownsRow w.heap.size 9 1 ov k (scells ((l.take k).map hexT)) ∧ Below w.heap.size w wr) (fun _ iv _ => n - (intOf iv).toNat)
  case atStart => exact ⟨0, rfl, by omega, World.ownsRow_nil _ _ _ _, Below.refl _ _⟩
  case round =>
    obtain ⟨k, rfl, hk, hown, hnx⟩ := hrel
    have hsz := hnx.size
    by_cases hlt : k < n
    · obtain ⟨b, off, rfl, hb1, hcell⟩ := HC.out (by rw [HN.out]; omega)
      have hkl : k < l.length := by rw [HN.out]; exact hlt
      have c0 := ((bcell hnx).1 b (off + k) hb1).trans (hcell k hkl)
      have hx := HL.out l[k] (List.getElem_mem hkl)
      have hst : Hid ((l.take (k + 1)).map hexT = (l.take k).map hexT ++ [hexT l[k]]) := Lib.hid (by rw [List.take_succ_eq_append_getElem hkl, List.map_append]; rfl)
      obtain ⟨x, hxx⟩ : ∃ x, x = l[k] := ⟨_, rfl⟩
      rw [← hxx] at c0 hx hst
      have HF := Lib.hid (lib_hex x wr (HB.out.below hnx) hx)
      clear hxx hcell hkl
      go_wp2_with fail
      refine HF.out.mono ?_; rintro e w2 ⟨rfl, hb2⟩
      have hown2 := own_later hown hb2
      have hs2 := hb2.size
      go_wp2_with (first | (at_builtin; refine wpList_append_own _ rfl (.tmp 12) (.tmp 16) 39 rfl (w.heap.size) 9 iS0 (.string ByteArray.empty) 1 16 Tryz.underlying39 iS.1 iS.2.1 iS.2.2.1 iS.2.2.2 rfl (by decide) _ _ _ rfl (hown2.alloc _) ⟨w2.heap.size, 0, none⟩ 1 1 [_] rfl rfl (cell_one_new _ _ _) (by intro u hu; simp at hu; subst hu; rfl) (by unfold maxLen; omega) (by omega) (by simp; omega) ?_; intro v1 w3 hown1 hgrow1 hnil1))
      go_roundw
      case rel =>
        refine ⟨k + 1, by go_num, by omega, ?_, (hnx.trans (hb2.mono hnx.size)).alloc (by omega) _ |>.grown hgrow1 (by simp; omega) (fun j hj => (hown2.lt j hj).1)⟩
        rw [hst.out, scells_append]
        exact hown1
      case measure => simp [intOf]; omega
    · obtain rfl : k = n := by omega
      have e := Row.owned hown
      rw [List.take_of_length_le (by rw [HN.out]; exact Nat.le_refl _)] at e
      have hst := row_strs e (by rw [List.length_map, HN.out])
      clear e
      have hjl := join6_len l HL.out
      have HJ := Lib.hid (lib_join58 _ (l.map hexT) wr hst (by show (join6 l).length ≤ _; rw [HN.out] at hjl; omega) (by rw [List.length_map, HN.out]; omega))
      clear hst hown hjl
      go_wp2_with fail
      refine HJ.out.mono ?_; rintro e w2 ⟨rfl, hb2⟩
      go_wp2
      go_ret
      exact ⟨rfl, hnx.trans (hb2.mono hnx.size)⟩
/-- The head of an array of eight groups. -/
theorem slice_head (b m : Nat) (h : m ≤ 8) (W : World) : (Instr.sliceAt 58 (.pointer (some ⟨b, 0, none⟩)) none (some (.int .i64 (m : Int))) none).run Tryz.prog W = .ok (.slice (some ⟨b, 0, none⟩) m 8) W := by
  have hal : Tryz.prog.arrayLen 58 = 8 := by kernel_rfl
  have hel : Tryz.prog.elem 58 = 57 := by kernel_rfl
  have hs : ∀ W, (sizeOf 57).run Tryz.prog W = .ok 1 W := by
    intro W
    obtain ⟨i, hi, hsz⟩ := Option.map_eq_some_iff.1 infoU16s
    simp [sizeOf, typeInfo, hi, hsz]
  rw [run_sliceAt_array_h W _ _ (by rw [hal, hel]; exact Tryz.underlying58) .i64 _ (by omega) (by rw [hal]; omega), hel, hs]
  simp [Result.andThen, slicedAt, hal, Addr.add]
theorem slice_from (b e : Nat) (h : e ≤ 8) : ∃ sa : Addr, Hid (e < 8 → sa = ⟨b, e, none⟩) ∧ ∀ W : World, (Instr.sliceAt 58 (.pointer (some ⟨b, 0, none⟩)) (some (.int .i64 (e : Int))) none none).run Tryz.prog W = .ok (.slice (some sa) (8 - e) (8 - e)) W := by
  obtain ⟨sa, h1, h2⟩ := slice_tail b (8 - e) (by omega)
  have e1 : 8 - ((8 - e : Nat) : Int) = (e : Int) := by omega
  have e2 : 8 - (8 - e) = e := by omega
  rw [e1] at h2
  rw [e2] at h1
  exact ⟨sa, Lib.hid (fun h => h1.out (by omega)), h2⟩
/-- A part of a block of eight groups. -/
theorem grps_part {w : World} {g : Nat} {T : TypeId} {l : List Nat} (h : BlkN w g T (gcells l).toArray) (a : Option Addr) (o n c : Nat) (ha : 0 < n → a = some ⟨g, o, none⟩) (hon : o + n ≤ l.length) (hc : n ≤ c) (hm : c ≤ maxLen) : Grps w (.slice a n c) ((l.drop o).take n) := by
  have hl : ((l.drop o).take n).length = n := by rw [List.length_take, List.length_drop]; omega
  refine ⟨by rw [length_gcells, hl, Nat.mul_one], a, c, by rw [hl], by omega, hm, ?_⟩
  rcases Nat.eq_zero_or_pos n with h0 | h0
  · exact .inl (by rw [hl]; exact h0)
  · refine .inr ⟨g, o, ha h0, h.lt, fun j u hj => ?_⟩
    rw [cell_of_row w g (o + j) _ _ _ h]
    have hjn : j < n := by have := (List.getElem?_eq_some_iff.1 hj).1; rw [length_gcells, hl] at this; exact this
    unfold gcells at hj ⊢
    rw [List.getElem?_map, List.getElem?_take_of_lt hjn, List.getElem?_drop] at hj
    rw [List.getElem?_toArray, List.getElem?_map]
    exact hj

end Go.Proofs.YtjbciamhhfcdoaaGreatDoor
