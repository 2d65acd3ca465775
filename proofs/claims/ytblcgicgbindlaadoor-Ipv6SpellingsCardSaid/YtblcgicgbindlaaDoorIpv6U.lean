/- The walk of the library's FormatUint at the base 16. Conditions: the number has at most 16 bits; the library's table of trailing zeros stands. -/
import Derived.Test.YtblcgicgbindlaaDoorIpv6P
import Derived.Laws.BitsAllLaws
namespace Go.Proofs.YtblcgicgbindlaaDoor
open Go.RowKit Hs
set_option linter.unusedSimpArgs false
set_option linter.unusedVariables false

/-- What the walks of ipv6 ask of memory: beside the rest, the table's entry for 16. -/
def Base6 (w : World) : Prop := Base w ∧ w.cell? ⟨5, 15, none⟩ = some (.int .u8 4)
theorem Base6.below {w w' : World} (h : Base6 w) (hb : Below w.heap.size w w') : Base6 w' :=
  ⟨h.1.below hb, ((bcell hb).1 _ _ (World.block_lt_of_cell? w _ h.2)).trans h.2⟩

set_option maxHeartbeats 1000000 in
theorem lib_tz64 (w : World) (h : w.cell? ⟨5, 15, none⟩ = some (.int .u8 4)) : Calls Tryd.prog 91 #[.int .u64 16] w fun e w' => e = .returned (.int .i64 4) ∧ w = w' := by
  have e1 : bits BinOp.and IntKind.u64 16 (IntKind.u64.wrap (-16)) = 16 := by kernel_rfl
  have e2 : IntKind.u64.wrap (16 * 285870213051353865) = 4573923408821661840 := by kernel_rfl
  go_enter Tryd.func91, Tryd.ntmps91
  go_wp2
  go_ret
  exact ⟨rfl, rfl⟩
set_option maxHeartbeats 1000000 in
theorem lib_tz (w : World) (h : w.cell? ⟨5, 15, none⟩ = some (.int .u8 4)) : Calls Tryd.prog 85 #[.int .u64 16] w fun e w' => e = .returned (.int .i64 4) ∧ w = w' := by
  have HT := Lib.hid (lib_tz64 w h)
  clear h
  go_enter Tryd.func85, Tryd.ntmps85
  go_wp2_with fail
  refine (HT.out).mono ?_; rintro e w2 ⟨rfl, rfl⟩
  go_wp2
  go_ret
  exact ⟨rfl, rfl⟩
theorem lib_pow (w : World) : Calls Tryd.prog 84 #[.int .i64 16] w fun e w' => e = .returned (.bool true) ∧ w = w' := by
  go_enter Tryd.func84, Tryd.ntmps84
  go_wp2
  go_ret
  exact ⟨rfl, rfl⟩
/-- The letters of the digits. -/
theorem lit36 (d : Nat) (h : d < 16) (h2 : d < (⟨#[48, 49, 50, 51, 52, 53, 54, 55, 56, 57, 97, 98, 99, 100, 101, 102, 103, 104, 105, 106, 107, 108, 109, 110, 111, 112, 113, 114, 115, 116, 117, 118, 119, 120, 121, 122]⟩ : ByteArray).size) : (⟨#[48, 49, 50, 51, 52, 53, 54, 55, 56, 57, 97, 98, 99, 100, 101, 102, 103, 104, 105, 106, 107, 108, 109, 110, 111, 112, 113, 114, 115, 116, 117, 118, 119, 120, 121, 122]⟩ : ByteArray)[d]'h2 = hexC d := by
  have : ∀ d : Fin 16, (⟨#[48, 49, 50, 51, 52, 53, 54, 55, 56, 57, 97, 98, 99, 100, 101, 102, 103, 104, 105, 106, 107, 108, 109, 110, 111, 112, 113, 114, 115, 116, 117, 118, 119, 120, 121, 122]⟩ : ByteArray)[d.1]'(Nat.lt_of_lt_of_le d.2 (by decide)) = hexC d.1 := by decide
  exact this ⟨d, h⟩
theorem and15 (x : Nat) (hx : x < 65536) : bits .and .u64 (x : Int) 15 = ((x % 16 : Nat) : Int) := by
  have h := u64_and_nat x 15 (by omega) (by omega)
  have e : x &&& 15 = x % 16 := Nat.and_two_pow_sub_one_eq_mod x 4
  rw [e] at h
  exact h

theorem BlkN.set {w : World} {g : Nat} {T : TypeId} {cs : Array Value} (h : BlkN w g T cs) (j : Nat) (v : Value) : BlkN (w.setCell ⟨g, j, none⟩ v) g T (cs.setIfInBounds j v) := by
  have hlt := h.lt
  have h' : w.heap[g] = .cells cs T (0, 0) := by simpa [BlkN, Array.getElem?_eq_getElem hlt] using h
  show (w.heap.modify g _)[g]? = _
  rw [Array.getElem?_eq_getElem (by simpa using hlt), Array.getElem_modify_self, h']
  rfl
theorem drop_set_cell (cs : Array Value) (j : Nat) (v : Value) (h : j < cs.size) : (cs.setIfInBounds j v).toList.drop j = v :: cs.toList.drop (j + 1) := by
  rw [Array.toList_setIfInBounds, List.drop_eq_getElem_cons (by simpa using h), List.getElem_set_self, List.drop_set_of_lt (by omega)]
theorem infoU8s : (Tryd.prog.info? 5).map (·.size) = some 1 := by kernel_rfl
/-- The tail of an array of 65 bytes. -/
theorem slice_tail65 (b j : Nat) (h : j < 65) (W : World) : (Instr.sliceAt 100 (.pointer (some ⟨b, 0, none⟩)) (some (.int .i64 (j : Int))) none none).run Tryd.prog W = .ok (.slice (some ⟨b, j, none⟩) (65 - j) (65 - j)) W := by
  have hal : Tryd.prog.arrayLen 100 = 65 := by kernel_rfl
  have hel : Tryd.prog.elem 100 = 5 := by kernel_rfl
  have hs : ∀ W, (sizeOf 5).run Tryd.prog W = .ok 1 W := by
    intro W
    obtain ⟨i, hi, hsz⟩ := Option.map_eq_some_iff.1 infoU8s
    simp [sizeOf, typeInfo, hi, hsz]
  have hadd : (⟨b, 0, none⟩ : Addr).add (j * 1) = ⟨b, j, none⟩ := by
    unfold Addr.add
    split
    · rename_i h1; simp at h1; simp [h1]
    · simp
  rw [run_sliceAt_array_l W _ _ (by rw [hal, hel]; exact Tryd.underlying100) .i64 _ (by omega) (by rw [hal]; omega), hel, hs]
  simp only [Result.andThen, slicedAt, hal, Int.toNat_natCast]
  rw [if_neg (by omega), hadd]
theorem bits_row {W : World} {g j : Nat} {cs : Array Value} {t : Bs} (h : BlkN W g 100 cs) (hs : cs.size = 65) (hj : j < 65) (ht : j + t.length = 65) (hd : cs.toList.drop j = bcells t) : Row W (.slice (some ⟨g, j, none⟩) (65 - j) (65 - j)) 1 (65 - j) (bcells t) := by
  refine ⟨by rw [length_bcells]; omega, _, _, rfl, Nat.le_refl _, by unfold maxLen; omega, .inr ⟨g, j, rfl, h.lt, fun i u hi => ?_⟩⟩
  rw [cell_of_row W g (j + i) cs _ _ h, ← hi, ← hd, List.getElem?_drop]
  simp

set_option maxRecDepth 20000 in
set_option maxHeartbeats 2000000 in
theorem lib_bits (n : Nat) (w : World) (hB : Base6 w) (hn : n < 65536) : Calls Tryd.prog 73 #[.slice none 0 0, .int .u64 (n : Int), .int .i64 16, .bool false, .bool false] w fun e w' => e = .returned (.tuple #[.slice none 0 0, .string (mk (hexT n))]) ∧ Below w.heap.size w w' := by
  have HP := Lib.hid (fun W => lib_pow W)
  have HT := Lib.hid (fun W h => lib_tz W h)
  have HB := Lib.hid hB
  clear hB
  go_enter Tryd.func73, Tryd.ntmps73
  go_wp2_with fail
  refine (HP.out _).mono ?_; rintro e w2 ⟨rfl, rfl⟩
  go_wp2_with fail
  refine (HT.out _ ?_).mono ?_
  · exact ((bcell ((Below.refl _ w).alloc (Nat.le_refl _) _)).1 _ _ (World.block_lt_of_cell? w _ HB.out.2)).trans HB.out.2
  rintro e w2 ⟨rfl, rfl⟩
  have h0 : BlkN (w.alloc (.cells Tryd.zeroCells100 100)) w.heap.size 100 Tryd.zeroCells100 := BlkN.new w _ _
  have hz : Tryd.zeroCells100.size = 65 := by kernel_rfl
  have HZ := Lib.hid (And.intro h0 hz)
  have hbA : Below w.heap.size w (w.alloc (.cells Tryd.zeroCells100 100)) := (Below.refl _ w).alloc (Nat.le_refl _) _
  have HA := Lib.hid hbA
  clear h0 hz hbA HP HT
  go_wp2
  go_loopw [1, 13] (fun uv iv wr => ∃ (m q : Nat) (t : Bs) (cur : Array Value), uv = .int .u64 m ∧ iv = .int .i64 q ∧ m < 65536 ∧ q ≤ 65 ∧ 61 ≤ q ∧ Hid (q + t.length = 65 ∧ hexT n = hexT m ++ t ∧ cur.size = 65 ∧ cur.toList.drop q = bcells t) ∧ Hid (BlkN wr w.heap.size 100 cur) ∧ Below w.heap.size w wr) (fun uv _ _ => (intOf uv).toNat)
  case atStart => exact ⟨n, 65, [], _, rfl, rfl, hn, by omega, by omega, Lib.hid ⟨rfl, by simp, HZ.out.2, by rw [List.drop_of_length_le (by rw [Array.length_toList, HZ.out.2]; exact Nat.le_refl _)]; rfl⟩, Lib.hid HZ.out.1, HA.out⟩
  case round =>
    obtain ⟨m, q, t, cur, rfl, rfl, hm, hq, hq1, hst, hblk, hnx⟩ := hrel
    have hq2 : 62 ≤ q := by
      have h4 := hexT_len n hn
      have h1 : 0 < (hexT m).length := List.length_pos_iff.2 (hexT_solid m).1
      have e := congrArg List.length hst.out.2.1
      rw [List.length_append] at e
      have := hst.out.1
      omega
    obtain ⟨j, rfl⟩ : ∃ j, q = j + 1 := ⟨q - 1, by omega⟩
    have hj : j < cur.size := by rw [hst.out.2.2.1]; omega
    obtain ⟨u0, hu0⟩ : ∃ u, cur[j]? = some u := ⟨cur[j], Array.getElem?_eq_getElem hj⟩
    have c0 : wr.cell? ⟨w.heap.size, j, none⟩ = some u0 := by rw [cell_of_row wr w.heap.size j cur _ _ hblk.out]; exact hu0
    have f0 : wr.frozen? ⟨w.heap.size, j, none⟩ = false := Lib.frozen_of_heap hblk.out j
    clear hu0
    have hcs : Hid (j < cur.size) := Lib.hid hj
    clear hj
    by_cases hge : 16 ≤ m
    · have g1 : decide ((16 : Int) ≤ (m : Int)) = true := decide_eq_true (by omega)
      obtain ⟨d, hd⟩ : ∃ d, d = m % 16 := ⟨_, rfl⟩
      have ha : bits .and .u64 (m : Int) 15 = (d : Int) := by rw [hd]; exact and15 m hm
      have hd16 : d < 16 := by omega
      have hdl : d < (⟨#[48, 49, 50, 51, 52, 53, 54, 55, 56, 57, 97, 98, 99, 100, 101, 102, 103, 104, 105, 106, 107, 108, 109, 110, 111, 112, 113, 114, 115, 116, 117, 118, 119, 120, 121, 122]⟩ : ByteArray).size := Nat.lt_of_lt_of_le hd16 (by decide)
      have HL := Lib.hid (lit36 d hd16 hdl)
      have HD := Lib.hid hd
      clear hd
      go_wp2
      all_goals (try (exfalso; omega))
      go_roundw
      case rel =>
        refine ⟨m / 16, j, hexC d :: t, cur.setIfInBounds j (.int .u8 ((⟨#[48, 49, 50, 51, 52, 53, 54, 55, 56, 57, 97, 98, 99, 100, 101, 102, 103, 104, 105, 106, 107, 108, 109, 110, 111, 112, 113, 114, 115, 116, 117, 118, 119, 120, 121, 122]⟩ : ByteArray)[d].toNat : Int)), by go_num, rfl, by omega, by omega, by omega, Lib.hid ⟨?_, ?_, ?_, ?_⟩, Lib.hid (hblk.out.set j _), hnx.setCell (p := ⟨w.heap.size, j, none⟩) (Nat.le_refl _) _⟩
        · have := hst.out.1; rw [List.length_cons]; omega
        · rw [hst.out.2.1, HD.out]
          unfold hexT
          rw [digsN_big (by decide) hge, List.append_assoc]
          rfl
        · rw [Array.size_setIfInBounds]; exact hst.out.2.2.1
        · rw [drop_set_cell cur j _ hcs.out, hst.out.2.2.2, HL.out]
          rfl
      case measure => simp [intOf]; omega
    · have g1 : decide ((16 : Int) ≤ (m : Int)) = false := decide_eq_false (by omega)
      have hd16 : m < 16 := by omega
      have hdl : m < (⟨#[48, 49, 50, 51, 52, 53, 54, 55, 56, 57, 97, 98, 99, 100, 101, 102, 103, 104, 105, 106, 107, 108, 109, 110, 111, 112, 113, 114, 115, 116, 117, 118, 119, 120, 121, 122]⟩ : ByteArray).size := Nat.lt_of_lt_of_le hd16 (by decide)
      have hsl := slice_tail65 w.heap.size j (by omega)
      have h2 := hblk.out.set j (.int .u8 ((⟨#[48, 49, 50, 51, 52, 53, 54, 55, 56, 57, 97, 98, 99, 100, 101, 102, 103, 104, 105, 106, 107, 108, 109, 110, 111, 112, 113, 114, 115, 116, 117, 118, 119, 120, 121, 122]⟩ : ByteArray)[m].toNat : Int))
      have hrow := bits_row (j := j) (t := hexC m :: t) h2 (by rw [Array.size_setIfInBounds]; exact hst.out.2.2.1) (by omega) (by have := hst.out.1; rw [List.length_cons]; omega) (by rw [drop_set_cell cur j _ hcs.out, hst.out.2.2.2, lit36 m hd16 hdl]; rfl)
      have hcv := string_of_row hrow Tryd.underlying58 Tryd.underlying5 Tryd.underlying9
      have hfin : Hid (hexC m :: t = hexT n) := Lib.hid (by rw [hst.out.2.1]; unfold hexT; rw [digsN_small hd16]; rfl)
      rw [hfin.out] at hcv
      clear h2 hrow hst hblk hcs hfin
      go_wp2
      all_goals (try (exfalso; omega))
      go_ret2
      exact ⟨rfl, hnx.setCell (p := ⟨w.heap.size, j, none⟩) (Nat.le_refl _) _⟩

set_option maxHeartbeats 1000000 in
theorem lib_hex0 (n : Nat) (w : World) (hB : Base6 w) (hn : n < 65536) : Calls Tryd.prog 63 #[.int .u64 (n : Int), .int .i64 16] w fun e w' => e = .returned (.string (mk (hexT n))) ∧ Below w.heap.size w w' := by
  have HS := Lib.hid (lib_bits n w hB hn)
  clear hB
  go_enter Tryd.func63, Tryd.ntmps63
  go_wp2_with fail
  refine HS.out.mono ?_; rintro e w2 ⟨rfl, hb2⟩
  go_wp2
  go_ret
  exact ⟨rfl, hb2⟩
set_option maxHeartbeats 1000000 in
theorem lib_hex (n : Nat) (w : World) (hB : Base6 w) (hn : n < 65536) : Calls Tryd.prog 55 #[.int .u64 (n : Int), .int .i64 16] w fun e w' => e = .returned (.string (mk (hexT n))) ∧ Below w.heap.size w w' := by
  have HS := Lib.hid (lib_hex0 n w hB hn)
  clear hB
  go_enter Tryd.func55, Tryd.ntmps55
  go_wp2_with fail
  refine HS.out.mono ?_; rintro e w2 ⟨rfl, hb2⟩
  go_wp2
  go_ret
  exact ⟨rfl, hb2⟩
end Go.Proofs.YtblcgicgbindlaaDoor
