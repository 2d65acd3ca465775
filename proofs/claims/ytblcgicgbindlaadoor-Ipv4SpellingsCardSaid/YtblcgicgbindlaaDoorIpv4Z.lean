/- The walk of Format of ipv4. Conditions: the library's tables stand. -/
import Derived.Test.YtblcgicgbindlaaDoorIpv4W
import Derived.Test.YtblcgicgbindlaaDoorPlainSeconds
namespace Go.Proofs.YtblcgicgbindlaaDoor
open Go.RowKit Hs
set_option linter.unusedSimpArgs false
set_option linter.unusedVariables false

/-- The text of the first parts of an address, a dot behind each. -/
def fmtP (v : Nat) : Nat → Bs
  | 0 => []
  | 1 => Lib.decDigits (v / 16777216 % 256) ++ [46]
  | 2 => (Lib.decDigits (v / 16777216 % 256) ++ [46]) ++ (Lib.decDigits (v / 65536 % 256) ++ [46])
  | 3 => ((Lib.decDigits (v / 16777216 % 256) ++ [46]) ++ (Lib.decDigits (v / 65536 % 256) ++ [46])) ++ (Lib.decDigits (v / 256 % 256) ++ [46])
  | _ => (((Lib.decDigits (v / 16777216 % 256) ++ [46]) ++ (Lib.decDigits (v / 65536 % 256) ++ [46])) ++ (Lib.decDigits (v / 256 % 256) ++ [46])) ++ (Lib.decDigits (v % 256) ++ [46])
theorem fmtP_end (v : Nat) : fmtP v 4 = fmtV v ++ [46] := by simp [fmtP, fmtV]
theorem and_u32 (x : Nat) (hx : x < 4294967296) : bits .and .u32 (x : Int) 255 = ((x % 256 : Nat) : Int) := by
  have h := u32_and_nat x 255 hx (by omega)
  have e : x &&& 255 = x % 256 := Nat.and_two_pow_sub_one_eq_mod x 8
  rw [e] at h
  exact h
theorem fmtP_len (v k : Nat) : (fmtP v k).length ≤ 44 := by
  have h : ∀ q, (Lib.decDigits (q % 256)).length ≤ 10 := fun q => decDigits_len _ (by omega)
  have h1 := h (v / 16777216); have h2 := h (v / 65536); have h3 := h (v / 256); have h4 := h v
  match k with
  | 0 => simp [fmtP]
  | 1 => simp [fmtP]; omega
  | 2 => simp [fmtP]; omega
  | 3 => simp [fmtP]; omega
  | k + 4 => simp [fmtP]; omega

set_option maxHeartbeats 2000000 in
theorem i4_format (v : Nat) (w : World) (hB : Base w) (hv : v < 4294967296) : Calls Tryd.prog 18 #[.int .u32 (v : Int)] w fun e w' => e = .returned (.string (mk (fmtV v))) ∧ Below w.heap.size w w' := by
  have HBS := Lib.hid hB
  have HV := Lib.hid hv
  clear hB
  go_enter Tryd.func18, Tryd.ntmps18
  go_wp2
  go_loopw [3, 4] (fun ov iv wr => ∃ (k : Nat) (S : ByteArray), iv = .int .i64 (24 - 8 * (k : Int)) ∧ k ≤ 4 ∧ ov = .string S ∧ Hid (un S = fmtP v k) ∧ Below w.heap.size w wr) (fun _ iv _ => ((match iv with | .int _ z => z | _ => 0) + 8).toNat)
  case atStart => exact ⟨0, ⟨#[]⟩, by go_num, by omega, rfl, Lib.hid rfl, Below.refl _ _⟩
  case round =>
    obtain ⟨k, S, rfl, hk, rfl, hS, hnx⟩ := hrel
    have hSz : S.size ≤ 44 := by rw [← length_un, hS.out]; exact fmtP_len v k
    have hBr := HBS.out.below hnx
    rcases (by omega : k = 0 ∨ k = 1 ∨ k = 2 ∨ k = 3 ∨ k = 4) with rfl | rfl | rfl | rfl | rfl
    · obtain ⟨q, hq⟩ : ∃ q, q = v / 16777216 % 256 := ⟨_, rfl⟩
      have HI := Lib.hid (lib_itoa q wr hBr (by omega))
      have ha : bits .and .u32 ((v : Int) / 16777216) 255 = (q : Int) := by rw [hq, ← and_u32 (v / 16777216) (by omega)]; rfl
      have hq5 : q ≤ 255 := by omega
      have HS := Lib.hid (show fmtP v 1 = fmtP v 0 ++ (Lib.decDigits q ++ [46]) by rw [hq]; rfl)
      have hqz : (Lib.decDigits q).length ≤ 10 := decDigits_len q (by omega)
      clear hBr hq
      go_wp2_with fail
      refine HI.out.mono ?_; rintro e w2 ⟨rfl, hb2⟩
      go_wp2
      all_goals (try (exfalso; omega))
      go_roundw
      case rel => exact ⟨1, _, by go_num, by omega, rfl, Lib.hid (by rw [HS.out, un_append, un_append, hS.out, un_mk]; rfl), hnx.trans (hb2.mono hnx.size)⟩
      case measure => simp
    · obtain ⟨q, hq⟩ : ∃ q, q = v / 65536 % 256 := ⟨_, rfl⟩
      have HI := Lib.hid (lib_itoa q wr hBr (by omega))
      have ha : bits .and .u32 ((v : Int) / 65536) 255 = (q : Int) := by rw [hq, ← and_u32 (v / 65536) (by omega)]; rfl
      have hq5 : q ≤ 255 := by omega
      have HS := Lib.hid (show fmtP v 2 = fmtP v 1 ++ (Lib.decDigits q ++ [46]) by rw [hq]; rfl)
      have hqz : (Lib.decDigits q).length ≤ 10 := decDigits_len q (by omega)
      clear hBr hq
      go_wp2_with fail
      refine HI.out.mono ?_; rintro e w2 ⟨rfl, hb2⟩
      go_wp2
      all_goals (try (exfalso; omega))
      go_roundw
      case rel => exact ⟨2, _, by go_num, by omega, rfl, Lib.hid (by rw [HS.out, un_append, un_append, hS.out, un_mk]; rfl), hnx.trans (hb2.mono hnx.size)⟩
      case measure => simp
    · obtain ⟨q, hq⟩ : ∃ q, q = v / 256 % 256 := ⟨_, rfl⟩
      have HI := Lib.hid (lib_itoa q wr hBr (by omega))
      have ha : bits .and .u32 ((v : Int) / 256) 255 = (q : Int) := by rw [hq, ← and_u32 (v / 256) (by omega)]; rfl
      have hq5 : q ≤ 255 := by omega
      have HS := Lib.hid (show fmtP v 3 = fmtP v 2 ++ (Lib.decDigits q ++ [46]) by rw [hq]; rfl)
      have hqz : (Lib.decDigits q).length ≤ 10 := decDigits_len q (by omega)
      clear hBr hq
      go_wp2_with fail
      refine HI.out.mono ?_; rintro e w2 ⟨rfl, hb2⟩
      go_wp2
      all_goals (try (exfalso; omega))
      go_roundw
      case rel => exact ⟨3, _, by go_num, by omega, rfl, Lib.hid (by rw [HS.out, un_append, un_append, hS.out, un_mk]; rfl), hnx.trans (hb2.mono hnx.size)⟩
      case measure => simp
    · obtain ⟨q, hq⟩ : ∃ q, q = v % 256 := ⟨_, rfl⟩
      have HI := Lib.hid (lib_itoa q wr hBr (by omega))
      have ha : bits .and .u32 ((v : Int)) 255 = (q : Int) := by rw [hq, ← and_u32 (v) (by omega)]
      have hq5 : q ≤ 255 := by omega
      have HS := Lib.hid (show fmtP v 4 = fmtP v 3 ++ (Lib.decDigits q ++ [46]) by rw [hq]; rfl)
      have hqz : (Lib.decDigits q).length ≤ 10 := decDigits_len q (by omega)
      clear hBr hq
      go_wp2_with fail
      refine HI.out.mono ?_; rintro e w2 ⟨rfl, hb2⟩
      go_wp2
      all_goals (try (exfalso; omega))
      go_roundw
      case rel => exact ⟨4, _, by go_num, by omega, rfl, Lib.hid (by rw [HS.out, un_append, un_append, hS.out, un_mk]; rfl), hnx.trans (hb2.mono hnx.size)⟩
      case measure => simp
    · have hS4 : S.size = (fmtV v).length + 1 := by rw [← length_un, hS.out, fmtP_end]; simp
      have hS1 : 1 ≤ S.size := by omega
      have HE := Lib.hid (show S.extract 0 (S.size - 1) = mk (fmtV v) from un_inj (by rw [un_extract, hS.out, fmtP_end, un_mk, hS4]; simp))
      clear hBr hS4
      go_wp2
      all_goals (try (exfalso; omega))
      go_ret
      rw [HE.out]
      exact ⟨rfl, hnx⟩
end Go.Proofs.YtblcgicgbindlaaDoor
