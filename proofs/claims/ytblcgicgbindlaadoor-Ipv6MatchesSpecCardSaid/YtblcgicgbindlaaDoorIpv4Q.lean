/- The walks of decimal and Parse of the reference of layer 10. Conditions: strings are of bounded length. -/
import Derived.Test.YtblcgicgbindlaaDoorIpv4F
import Derived.Test.YtblcgicgbindlaaDoorPlainIpv4Q
namespace Go.Proofs.YtblcgicgbindlaaDoor
open Go.RowKit Hs
set_option linter.unusedSimpArgs false
set_option linter.unusedVariables false

theorem strN_none (p : Bs) (h : ∀ i, i < 256 → Lib.decDigits i ≠ p) : strN p = none := by
  cases hp : strN p with
  | none => rfl
  | some n =>
    obtain ⟨h1, h2⟩ := strN_some hp
    exact absurd h1.symm (h n (by omega))
set_option maxHeartbeats 2000000 in
theorem r10_decimal (s : ByteArray) (w : World) : Calls Tryd.prog 33 #[.string s] w fun e w' => e = .returned (.tuple #[.int .i64 (optV (strN (un s))).1, .bool (optV (strN (un s))).2]) ∧ Below w.heap.size w w' := by
  go_enter Tryd.func33, Tryd.ntmps33
  go_wp2
  go_loopw [4] (fun iv wr => ∃ k : Nat, iv = .int .i64 k ∧ k ≤ 256 ∧ Hid (∀ i, i < k → Lib.decDigits i ≠ un s) ∧ Below w.heap.size w wr) (fun iv _ => 256 - (intOf iv).toNat)
  case atStart => exact ⟨0, rfl, by omega, Lib.hid (fun i hi => by omega), Below.refl _ _⟩
  case round =>
    obtain ⟨k, rfl, hk, hno, hnx⟩ := hrel
    by_cases hlt : k < 256
    · have g1 : decide ((k : Int) < 256) = true := decide_eq_true (by omega)
      have FA := Lib.hid (fun W => fromInt_nat' k W (by omega))
      cases hq : (Lib.decDigits k == un s)
      · have q1 : ((mk (Lib.decDigits k)).toList == s.toList) = false := by rw [toList_un, toList_un, un_mk]; exact hq
        have hno2 : Hid (∀ i, i < k + 1 → Lib.decDigits i ≠ un s) := Lib.hid (fun i hi => by
          rcases (by omega : i < k ∨ i = k) with h | h
          · exact hno.out i h
          · rw [h]; exact beq_eq_false_iff_ne.1 hq)
        clear hno hq
        go_wp2_with fail
        refine (FA.out _).mono ?_; rintro e w2 ⟨rfl, hb2⟩
        go_wp2
        all_goals (try (exfalso; omega))
        go_roundw
        case rel => exact ⟨k + 1, by go_num, by omega, hno2, hnx.trans (hb2.mono hnx.size)⟩
        case measure => simp [intOf]; omega
      · have q1 : ((mk (Lib.decDigits k)).toList == s.toList) = true := by rw [toList_un, toList_un, un_mk]; exact hq
        have hend : Hid (strN (un s) = some k) := Lib.hid (by rw [← beq_iff_eq.1 hq]; exact strN_dec k (by omega))
        clear hno hq
        go_wp2_with fail
        refine (FA.out _).mono ?_; rintro e w2 ⟨rfl, hb2⟩
        go_wp2
        all_goals (try (exfalso; omega))
        go_ret2
        rw [hend.out]
        exact ⟨rfl, hnx.trans (hb2.mono hnx.size)⟩
    · obtain rfl : k = 256 := by omega
      have hend : Hid (strN (un s) = none) := Lib.hid (strN_none _ hno.out)
      clear hno
      go_wp2
      go_ret2
      rw [hend.out]
      exact ⟨rfl, hnx⟩

set_option maxHeartbeats 2000000 in
theorem r10_parse (s : ByteArray) (w : World) (hs : s.size ≤ 100000000) : Calls Tryd.prog 13 #[.string s] w fun e w' => e = .returned (.tuple #[.int .u32 (parseV (un s)).1, .bool (parseV (un s)).2]) ∧ Below w.heap.size w w' := by
  have HS := Lib.hid (r01_dots s w hs)
  have hpv : Hid (parseV (un s) = if (splitD 46 (un s)).length = 4 then optV (strF (splitD 46 (un s)) 0) else (0, false)) := Lib.hid rfl
  obtain ⟨R, hR⟩ : ∃ R, R = parseV (un s) := ⟨_, rfl⟩
  rw [← hR] at hpv ⊢
  clear hR
  obtain ⟨L, hL⟩ : ∃ L, L = splitD 46 (un s) := ⟨_, rfl⟩
  rw [← hL] at hpv HS
  clear hL
  go_enter Tryd.func13, Tryd.ntmps13
  go_wp2_with fail
  refine HS.out.mono ?_
  rintro e w1 ⟨v, rfl, hst, hb⟩
  clear HS
  obtain ⟨a, c, rfl, hn, hm, hc⟩ := hst.open
  unfold maxLen at hm
  have HC := Lib.hid hc
  clear hc hst
  by_cases h4 : L.length = 4
  · have hfin : Hid (R = optV (strF L 0)) := Lib.hid (by rw [hpv.out, if_pos h4])
    clear hpv
    rw [h4]
    rw [h4] at hn
    have H4 := Lib.hid h4
    clear h4
    go_wp2
    go_loopw [5, 6] (fun vv iv wr => ∃ (k v : Nat), iv = .int .i64 k ∧ k ≤ 4 ∧ vv = .int .u32 v ∧ v < 256 ^ k ∧ Hid (strF L 0 = strF (L.drop k) v) ∧ Below w1.heap.size w1 wr) (fun _ iv _ => 4 - (intOf iv).toNat)
    case atStart => exact ⟨0, 0, rfl, by omega, rfl, by simp, Lib.hid rfl, Below.refl _ _⟩
    case round =>
      obtain ⟨k, v, rfl, hk, rfl, hv, hst, hnx⟩ := hrel
      by_cases hlt : k < 4
      · obtain ⟨b, off, rfl, hb1, hcell⟩ := HC.out (by rw [H4.out]; omega)
        have hkl : k < L.length := by rw [H4.out]; exact hlt
        have c0 := ((bcell hnx).1 b (off + k) hb1).trans (hcell k hkl)
        have hst2 : Hid (strF L 0 = strF (L[k] :: L.drop (k + 1)) v) := Lib.hid (by rw [hst.out, List.drop_eq_getElem_cons hkl])
        obtain ⟨x, hx⟩ : ∃ x, x = L[k] := ⟨_, rfl⟩
        rw [← hx] at c0 hst2
        clear hcell hst hx hkl
        have hd := fun W => r10_decimal (mk x) W
        simp only [un_mk] at hd
        have hle := fun n (h : strN x = some n) => strN_le h
        have hsx : Hid (strF (x :: L.drop (k + 1)) v = match strN x with | some n => strF (L.drop (k + 1)) (v * 256 + n) | none => none) := Lib.hid rfl
        have hv3 : v < 16777216 := by
          have : (256 : Nat) ^ k ≤ 256 ^ 3 := Nat.pow_le_pow_right (by decide) (by omega)
          omega
        cases hsn : strN x with
        | none =>
          rw [hsn] at hd hsx
          have HD := Lib.hid hd
          have hend : Hid (R = (0, false)) := Lib.hid (by rw [hfin.out, hst2.out, hsx.out]; rfl)
          clear hst2 hsx hd hle hsn
          go_wp2_with fail
          refine (HD.out _).mono ?_; rintro e w2 ⟨rfl, hb2⟩
          unfold optV
          go_wp2_with fail
          go_ret2
          rw [hend.out]
          exact ⟨rfl, hb.trans ((hnx.trans (hb2.mono hnx.size)).mono hb.size)⟩
        | some n =>
          rw [hsn] at hd hsx
          have HD := Lib.hid hd
          have hn5 := hle n hsn
          have hnext : Hid (strF L 0 = strF (L.drop (k + 1)) (v * 256 + n)) := Lib.hid (by rw [hst2.out, hsx.out])
          have H256 : Hid (v * 256 + n < 256 ^ (k + 1)) := Lib.hid (by rw [Nat.pow_succ]; generalize (256 : Nat) ^ k = q at hv; omega)
          have m1 : ((v : Int) * 256) % 4294967296 = (v : Int) * 256 := by omega
          have m2 : (n : Int) % 4294967296 = (n : Int) := by omega
          have m3 : ((v : Int) * 256 + (n : Int)) % 4294967296 = (v : Int) * 256 + (n : Int) := by omega
          clear hst2 hsx hd hle hsn hv
          go_wp2_with fail
          refine (HD.out _).mono ?_; rintro e w2 ⟨rfl, hb2⟩
          unfold optV
          go_wp2_with fail
          go_roundw
          case rel => exact ⟨k + 1, v * 256 + n, by go_num, by omega, by go_num, H256.out, hnext, hnx.trans (hb2.mono hnx.size)⟩
          case measure => simp [intOf]; omega
      · obtain rfl : k = 4 := by omega
        have hend : Hid (R = (v, true)) := Lib.hid (by rw [hfin.out, hst.out, List.drop_of_length_le (by rw [H4.out]; omega)]; rfl)
        clear hst
        go_wp2
        go_ret2
        rw [hend.out]
        exact ⟨rfl, hb.trans (hnx.mono hb.size)⟩
  · have hend : Hid (R = (0, false)) := Lib.hid (by rw [hpv.out, if_neg h4])
    have g1 : ((L.length : Int) != 4) = true := by simp; omega
    clear hpv
    go_wp2_with fail
    all_goals (try (exfalso; omega))
    go_ret2
    rw [hend.out]
    exact ⟨rfl, hb⟩
end Go.Proofs.YtblcgicgbindlaaDoor
