/- The walk of ParseNumbers of the reference of layer 10, 1 parts. Conditions: strings are of bounded length. -/
import Derived.Test.YtblcgicgbindlaaDoorIpv4V
import Derived.Test.YtblcgicgbindlaaDoorIpv4P
import Derived.Test.YtblcgicgbindlaaDoorIpv4Y
namespace Go.Proofs.YtblcgicgbindlaaDoor
open Go.RowKit Hs
set_option linter.unusedSimpArgs false
set_option linter.unusedVariables false

set_option maxRecDepth 100000 in
set_option maxHeartbeats 4000000 in
theorem r10_numbers1 (s : ByteArray) (w : World) (hs : s.size ≤ 100000000) (hN : (partsD (un s)).length = 1) : Calls Tryd.prog 15 #[.string s] w fun e w' => e = .returned (.tuple #[.int .u32 (numsV (un s)).1, .bool (numsV (un s)).2]) ∧ Below w.heap.size w w' := by
  have HS := Lib.hid (r10_parts s w hs)
  have HLEN := Lib.hid (partsD_len (un s))
  obtain ⟨R, hR⟩ : ∃ R, R = numsV (un s) := ⟨_, rfl⟩
  have hfin : Hid (R = optV (numF 32 (partsD (un s)) 0)) := Lib.hid (by rw [hR]; unfold numsV; rw [hN]; rfl)
  rw [← hR]
  clear hR
  obtain ⟨L, hL⟩ : ∃ L, L = partsD (un s) := ⟨_, rfl⟩
  rw [← hL] at HS HLEN hN hfin
  clear hL
  rw [length_un] at HLEN
  have HN := Lib.hid hN
  go_enter Tryd.func15, Tryd.ntmps15
  go_wp2_with fail
  refine HS.out.mono ?_
  rintro e w1 ⟨v, rfl, hst, hb⟩
  clear HS
  obtain ⟨a, c, rfl, hn, hm, hc⟩ := hst.open
  unfold maxLen at hm
  have HC := Lib.hid hc
  clear hc hst
  rw [hN] at hn ⊢
  clear hN
  go_wp2
  go_loopw [5, 6] (fun vv iv wr => ∃ (k v V : Nat), iv = .int .i64 k ∧ k ≤ 1 ∧ vv = .int .i64 V ∧ V < 4294967296 ∧ Hid ((k < 1 → v < 256 ^ k ∧ V = v * 2 ^ (32 - 8 * k)) ∧ (1 ≤ k → V = v)) ∧ Hid (numF 32 L 0 = numF 32 (L.drop k) v) ∧ Below w1.heap.size w1 wr) (fun _ iv _ => 1 - (intOf iv).toNat)
  case atStart => exact ⟨0, 0, 0, rfl, by omega, rfl, by omega, Lib.hid ⟨fun _ => by simp, fun h => by omega⟩, Lib.hid rfl, Below.refl _ _⟩
  case round =>
    obtain ⟨k, v, V, rfl, hk, rfl, hV, hvk, hst, hnx⟩ := hrel
    rcases (by omega : k = 0 ∨ k = 1) with rfl | rfl
    · obtain ⟨b, off, rfl, hb1, hcell⟩ := HC.out (by rw [HN.out]; omega)
      have hkl : 0 < L.length := by rw [HN.out]; omega
      have c0 := ((bcell hnx).1 b (off + 0) hb1).trans (hcell 0 hkl)
      rw [Nat.add_zero] at c0
      have hlen := HLEN.out L[0] (List.getElem_mem hkl)
      have hst2 : Hid (numF 32 L 0 = numF 32 (L[0] :: L.drop 1) v) := Lib.hid (by rw [hst.out, List.drop_eq_getElem_cons hkl])
      obtain ⟨x, hx⟩ : ∃ x, x = L[0] := ⟨_, rfl⟩
      rw [← hx] at c0 hlen hst2
      clear hcell hst hx hkl
      have hd := fun W => r10_number (mk x) W (by rw [size_mk]; omega)
      simp only [un_mk] at hd
      have hlst : Hid (∀ F v, numF F [x] v = if (numP x).2 = true ∧ (numP x).1 < 2 ^ F then some (v * 2 ^ F + (numP x).1) else none) := Lib.hid (fun F v => numF_last F x v)
      have hmid : Hid (∀ F r v, r ≠ [] → numF F (x :: r) v = if (numP x).2 = true ∧ (numP x).1 ≤ 255 then numF F r (v * 256 + (numP x).1) else none) := Lib.hid (fun F r v h => numF_mid F x r v h)
      have hle := numP_le x
      obtain ⟨m, hm2⟩ : ∃ m, m = numP x := ⟨_, rfl⟩
      rw [← hm2] at hlst hmid hle
      simp only [← hm2] at hd
      clear hm2
      obtain ⟨m, ok⟩ := m
      simp only at hd hlst hmid hle
      have HD := Lib.hid hd
      have hv1 : v < 1 := by have := (hvk.out.1 (by omega)).1; simpa using this
      have hv2 : V = v * 4294967296 := by have := (hvk.out.1 (by omega)).2; simpa using this
      clear hd hvk
      have hdr : L.drop 1 = [] := List.drop_of_length_le (by rw [HN.out]; omega)
      have hnx2 : Hid (numF 32 L 0 = if ok = true ∧ m < 4294967296 then some (v * 4294967296 + m) else none) := Lib.hid (by rw [hst2.out, hdr, hlst.out])
      have hdn : Hid (numF 32 (L.drop 1) (v * 4294967296 + m) = some (v * 4294967296 + m)) := Lib.hid (by rw [hdr]; rfl)
      clear hst2 hdr hlst hmid
      cases ok
      · have hend : Hid (R = (0, false)) := Lib.hid (by rw [hfin.out, hnx2.out, if_neg (by simp)]; rfl)
        clear hnx2 hdn
        go_wp2_with fail
        refine (HD.out _).mono ?_; rintro e w2 ⟨rfl, hb2⟩
        go_wp2
        all_goals (try (exfalso; omega))
        (try rw [Exit.noGoto_ret])
        go_ret2
        rw [hend.out]
        exact ⟨rfl, hb.trans ((hnx.trans (hb2.mono hnx.size)).mono hb.size)⟩
      · by_cases hn5 : 4294967296 ≤ m
        · have g2 : decide ((4294967296 : Int) ≤ (m : Int)) = true := decide_eq_true (by omega)
          have hend : Hid (R = (0, false)) := Lib.hid (by rw [hfin.out, hnx2.out, if_neg (by omega)]; rfl)
          clear hnx2 hdn
          go_wp2_with fail
          refine (HD.out _).mono ?_; rintro e w2 ⟨rfl, hb2⟩
          go_wp2
          all_goals (try (exfalso; omega))
          (try rw [Exit.noGoto_ret])
          go_ret2
          rw [hend.out]
          exact ⟨rfl, hb.trans ((hnx.trans (hb2.mono hnx.size)).mono hb.size)⟩
        · have g2 : decide ((4294967296 : Int) ≤ (m : Int)) = false := decide_eq_false (by omega)
          have hnx3 : Hid (numF 32 L 0 = numF 32 (L.drop 1) (v * 4294967296 + m)) := Lib.hid (by rw [hnx2.out, if_pos ⟨rfl, by omega⟩, hdn.out])
          clear hnx2 hdn
          go_wp2_with fail
          refine (HD.out _).mono ?_; rintro e w2 ⟨rfl, hb2⟩
          go_wp2
          all_goals (try (exfalso; omega))
          go_roundw
          case rel => exact ⟨1, v * 4294967296 + m, V + m, by go_num, by omega, by go_num, by omega, Lib.hid ⟨fun h => absurd h (by omega), fun _ => by omega⟩, hnx3, hnx.trans (hb2.mono hnx.size)⟩
          case measure => simp [intOf]
    · have hv0 : V = v := hvk.out.2 (by omega)
      subst hv0
      have hend : Hid (R = (V, true)) := Lib.hid (by rw [hfin.out, hst.out, List.drop_of_length_le (by rw [HN.out]; omega)]; rfl)
      have m1 : (V : Int) % 4294967296 = (V : Int) := by omega
      clear hst hvk
      go_wp2
      (try rw [Exit.noGoto_ret])
      go_ret2
      rw [hend.out]
      exact ⟨rfl, hb.trans (hnx.mono hb.size)⟩
end Go.Proofs.YtblcgicgbindlaaDoor
