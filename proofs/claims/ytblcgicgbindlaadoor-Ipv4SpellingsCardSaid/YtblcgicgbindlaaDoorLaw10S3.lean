/- The walk of the law Ipv4Spellings (layer 10), 3 parts: it returns true; memory that existed is unchanged. Conditions: the library's tables stand. -/
import Derived.Test.YtblcgicgbindlaaDoorLaw10
import Derived.Test.YtblcgicgbindlaaDoorDigs
import Derived.Test.YtblcgicgbindlaaDoorKeepMod
namespace Go.Proofs.YtblcgicgbindlaaDoor
open Go.RowKit Hs
set_option linter.unusedSimpArgs false
set_option linter.unusedVariables false

set_option maxRecDepth 20000 in
set_option maxHeartbeats 4000000 in
theorem spell_walk3 (v : Nat) (parts z0 z1 z2 z3 : Int) (w : World) (hB : Base w) (hv : v < 4294967296) (hp : (Lit.int .i64 parts).wf = true) (h0 : (Lit.int .i64 z0).wf = true) (h1 : (Lit.int .i64 z1).wf = true) (h2 : (Lit.int .i64 z2).wf = true) (h3 : (Lit.int .i64 z3).wf = true) (hm : parts % 4 = 2) : Calls Tryd.prog 5 #[.int .u32 (v : Int), .int .i64 parts, .agg #[.int .i64 z0, .int .i64 z1, .int .i64 z2, .int .i64 z3]] w fun e w' => e = .returned (.bool true) ∧ Below w.heap.size w w' := by
  have AW := Lib.hid (fun W h => law10_awake W h)
  have HB := Lib.hid hB
  have m1 := fun W => keep_mod parts 4 W hp (by omega) (by omega)
  rw [hm] at m1
  have M1 := Lib.hid m1
  have K0 := Lib.hid (fun W => keep_mod z0 3 W h0 (by omega) (by omega))
  have K1 := Lib.hid (fun W => keep_mod z1 3 W h1 (by omega) (by omega))
  have K2 := Lib.hid (fun W => keep_mod z2 3 W h2 (by omega) (by omega))
  have K3 := Lib.hid (fun W => keep_mod z3 3 W h3 (by omega) (by omega))
  obtain ⟨f, hf0, hf1, hf2, hf3⟩ : ∃ f : Nat → Nat, Hid (f 0 = baseOf z0) ∧ Hid (f 1 = baseOf z1) ∧ Hid (f 2 = baseOf z2) ∧ Hid (f 3 = baseOf z3) := ⟨fun i => if i = 0 then baseOf z0 else if i = 1 then baseOf z1 else if i = 2 then baseOf z2 else baseOf z3, Lib.hid rfl, Lib.hid rfl, Lib.hid rfl, Lib.hid rfl⟩
  have HR := Lib.hid (spells_read f v 3 (by omega) (by omega) hv)
  have SL := Lib.hid (spells_joined_len f v 3 hv)
  have hbase : Below w.heap.size w (w.alloc (.cells #[.int .i64 z0, .int .i64 z1, .int .i64 z2, .int .i64 z3] 30)) := (Below.refl _ w).alloc (Nat.le_refl _) _
  have hwsz : w.heap.size < (w.alloc (.cells #[.int .i64 z0, .int .i64 z1, .int .i64 z2, .int .i64 z3] 30)).heap.size := by simp
  have g0 : (w.alloc (.cells #[.int .i64 z0, .int .i64 z1, .int .i64 z2, .int .i64 z3] 30)).cell? ⟨w.heap.size, 0, none⟩ = some (.int .i64 z0) := by simp
  have g1 : (w.alloc (.cells #[.int .i64 z0, .int .i64 z1, .int .i64 z2, .int .i64 z3] 30)).cell? ⟨w.heap.size, 1, none⟩ = some (.int .i64 z1) := by simp
  have g2 : (w.alloc (.cells #[.int .i64 z0, .int .i64 z1, .int .i64 z2, .int .i64 z3] 30)).cell? ⟨w.heap.size, 2, none⟩ = some (.int .i64 z2) := by simp
  have g3 : (w.alloc (.cells #[.int .i64 z0, .int .i64 z1, .int .i64 z2, .int .i64 z3] 30)).cell? ⟨w.heap.size, 3, none⟩ = some (.int .i64 z3) := by simp
  have HG := Lib.hid (And.intro hbase (And.intro hwsz (And.intro g0 (And.intro g1 (And.intro g2 g3)))))
  clear hbase hwsz g0 g1 g2 g3 hB m1 hm h0 h1 h2 h3 hp
  go_enter Tryd.func5, Tryd.ntmps5
  go_wp2_with fail
  refine (M1.out _).mono ?_; rintro e w1 ⟨rfl, rfl⟩
  go_wp2
  go_loopw [8, 9] (fun sv iv wr => ∃ (k : Nat) (S : ByteArray), iv = .int .i64 k ∧ k ≤ 3 ∧ sv = .string S ∧ S.size ≤ 41 * k ∧ Hid (un S = joinD 46 (spells f v 3 k)) ∧ Below (w.alloc (.cells #[.int .i64 z0, .int .i64 z1, .int .i64 z2, .int .i64 z3] 30)).heap.size (w.alloc (.cells #[.int .i64 z0, .int .i64 z1, .int .i64 z2, .int .i64 z3] 30)) wr) (fun _ iv _ => 3 - (intOf iv).toNat)
  case atStart => exact ⟨0, ⟨#[]⟩, rfl, by omega, rfl, by decide, Lib.hid rfl, Below.refl _ _⟩
  case round =>
    obtain ⟨k, S, rfl, hk, rfl, hS, hst, hnx⟩ := hrel
    have hwl : w.heap.size < wr.heap.size := Nat.lt_of_lt_of_le HG.out.2.1 hnx.size
    rcases (by omega : k = 0 ∨ k = 1 ∨ k = 2 ∨ k = 3) with rfl | rfl | rfl | rfl
    · obtain ⟨q, hq⟩ : ∃ q, q = v / 16777216 % 256 := ⟨_, rfl⟩
      have hq9 : q < 4294967296 := by omega
      have HQ : Hid (partN v 3 0 = q) := Lib.hid (by rw [hq]; rfl)
      have hq2 : (v : Int) / 16777216 % 256 = (q : Int) := by rw [hq]; omega
      have cc := ((bcell hnx).1 w.heap.size 0 HG.out.2.1).trans HG.out.2.2.1
      clear hq
      rcases (by omega : z0 % 3 = 0 ∨ z0 % 3 = 1 ∨ z0 % 3 = 2) with hb | hb | hb
      · have kk := K0.out
        rw [hb] at kk
        have KK := Lib.hid kk
        have D := Lib.hid (fun W => law_digits8 q W hq9)
        have hl := spell_len 8 q hq9
        have hfk : Hid (f 0 = 8) := Lib.hid (by rw [hf0.out]; unfold baseOf; rw [hb]; rfl)
        have hnext : Hid (joinD 46 (spells f v 3 1) = spell 8 q) := Lib.hid (by have := spells_first f v 3; rw [hfk.out, HQ.out] at this; exact this)
        have SL1 := SL.out 1
        rw [hnext.out] at SL1
        clear kk hb
        go_wp2_with fail
        refine (KK.out _).mono ?_; rintro e w2 ⟨rfl, rfl⟩
        go_wp2_with fail
        refine (D.out _).mono ?_; rintro e w2 ⟨rfl, hb2⟩
        have hnx2 := hnx.trans (((Below.refl _ wr).alloc (Nat.le_refl _) _ |>.trans (hb2.mono (by simp))).mono hnx.size)
        go_wp2
        all_goals (try (exfalso; omega))
        go_roundw
        case rel => exact ⟨1, _, by go_num, by omega, rfl, by simp only [ByteArray.size_append, size_mk]; first | omega | (have : (⟨#[46]⟩ : ByteArray).size = 1 := rfl; omega), Lib.hid (by rw [hnext.out]; simp only [un_append, un_mk, hst.out]; rfl), hnx2⟩
        case measure => simp [intOf]
      · have kk := K0.out
        rw [hb] at kk
        have KK := Lib.hid kk
        have D := Lib.hid (fun W => law_digits10 q W hq9)
        have hl := spell_len 10 q hq9
        have hfk : Hid (f 0 = 10) := Lib.hid (by rw [hf0.out]; unfold baseOf; rw [hb]; rfl)
        have hnext : Hid (joinD 46 (spells f v 3 1) = spell 10 q) := Lib.hid (by have := spells_first f v 3; rw [hfk.out, HQ.out] at this; exact this)
        have SL1 := SL.out 1
        rw [hnext.out] at SL1
        clear kk hb
        go_wp2_with fail
        refine (KK.out _).mono ?_; rintro e w2 ⟨rfl, rfl⟩
        go_wp2_with fail
        refine (D.out _).mono ?_; rintro e w2 ⟨rfl, hb2⟩
        have hnx2 := hnx.trans (((Below.refl _ wr).alloc (Nat.le_refl _) _ |>.trans (hb2.mono (by simp))).mono hnx.size)
        go_wp2
        all_goals (try (exfalso; omega))
        go_roundw
        case rel => exact ⟨1, _, by go_num, by omega, rfl, by simp only [ByteArray.size_append, size_mk]; first | omega | (have : (⟨#[46]⟩ : ByteArray).size = 1 := rfl; omega), Lib.hid (by rw [hnext.out]; simp only [un_append, un_mk, hst.out]; rfl), hnx2⟩
        case measure => simp [intOf]
      · have kk := K0.out
        rw [hb] at kk
        have KK := Lib.hid kk
        have D := Lib.hid (fun W => law_digits16 q W hq9)
        have hl := spell_len 16 q hq9
        have hfk : Hid (f 0 = 16) := Lib.hid (by rw [hf0.out]; unfold baseOf; rw [hb]; rfl)
        have hnext : Hid (joinD 46 (spells f v 3 1) = spell 16 q) := Lib.hid (by have := spells_first f v 3; rw [hfk.out, HQ.out] at this; exact this)
        have SL1 := SL.out 1
        rw [hnext.out] at SL1
        clear kk hb
        go_wp2_with fail
        refine (KK.out _).mono ?_; rintro e w2 ⟨rfl, rfl⟩
        go_wp2_with fail
        refine (D.out _).mono ?_; rintro e w2 ⟨rfl, hb2⟩
        have hnx2 := hnx.trans (((Below.refl _ wr).alloc (Nat.le_refl _) _ |>.trans (hb2.mono (by simp))).mono hnx.size)
        go_wp2
        all_goals (try (exfalso; omega))
        go_roundw
        case rel => exact ⟨1, _, by go_num, by omega, rfl, by simp only [ByteArray.size_append, size_mk]; first | omega | (have : (⟨#[46]⟩ : ByteArray).size = 1 := rfl; omega), Lib.hid (by rw [hnext.out]; simp only [un_append, un_mk, hst.out]; rfl), hnx2⟩
        case measure => simp [intOf]
    · obtain ⟨q, hq⟩ : ∃ q, q = v / 65536 % 256 := ⟨_, rfl⟩
      have hq9 : q < 4294967296 := by omega
      have HQ : Hid (partN v 3 1 = q) := Lib.hid (by rw [hq]; rfl)
      have hq2 : (v : Int) / 65536 % 256 = (q : Int) := by rw [hq]; omega
      have cc := ((bcell hnx).1 w.heap.size 1 HG.out.2.1).trans HG.out.2.2.2.1
      clear hq
      rcases (by omega : z1 % 3 = 0 ∨ z1 % 3 = 1 ∨ z1 % 3 = 2) with hb | hb | hb
      · have kk := K1.out
        rw [hb] at kk
        have KK := Lib.hid kk
        have D := Lib.hid (fun W => law_digits8 q W hq9)
        have hl := spell_len 8 q hq9
        have hfk : Hid (f 1 = 8) := Lib.hid (by rw [hf1.out]; unfold baseOf; rw [hb]; rfl)
        have hnext : Hid (joinD 46 (spells f v 3 2) = joinD 46 (spells f v 3 1) ++ 46 :: spell 8 q) := Lib.hid (by have := spells_next f v 3 1 (by decide); rw [hfk.out, HQ.out] at this; exact this)
        have SL1 := SL.out 2
        rw [hnext.out] at SL1
        clear kk hb
        go_wp2_with fail
        refine (KK.out _).mono ?_; rintro e w2 ⟨rfl, rfl⟩
        go_wp2_with fail
        refine (D.out _).mono ?_; rintro e w2 ⟨rfl, hb2⟩
        have hnx2 := hnx.trans (((Below.refl _ wr).alloc (Nat.le_refl _) _ |>.trans (hb2.mono (by simp))).mono hnx.size)
        go_wp2
        all_goals (try (exfalso; omega))
        go_roundw
        case rel => exact ⟨2, _, by go_num, by omega, rfl, by simp only [ByteArray.size_append, size_mk]; first | omega | (have : (⟨#[46]⟩ : ByteArray).size = 1 := rfl; omega), Lib.hid (by rw [hnext.out]; simp only [un_append, un_mk, hst.out]; simp [un]), hnx2⟩
        case measure => simp [intOf]
      · have kk := K1.out
        rw [hb] at kk
        have KK := Lib.hid kk
        have D := Lib.hid (fun W => law_digits10 q W hq9)
        have hl := spell_len 10 q hq9
        have hfk : Hid (f 1 = 10) := Lib.hid (by rw [hf1.out]; unfold baseOf; rw [hb]; rfl)
        have hnext : Hid (joinD 46 (spells f v 3 2) = joinD 46 (spells f v 3 1) ++ 46 :: spell 10 q) := Lib.hid (by have := spells_next f v 3 1 (by decide); rw [hfk.out, HQ.out] at this; exact this)
        have SL1 := SL.out 2
        rw [hnext.out] at SL1
        clear kk hb
        go_wp2_with fail
        refine (KK.out _).mono ?_; rintro e w2 ⟨rfl, rfl⟩
        go_wp2_with fail
        refine (D.out _).mono ?_; rintro e w2 ⟨rfl, hb2⟩
        have hnx2 := hnx.trans (((Below.refl _ wr).alloc (Nat.le_refl _) _ |>.trans (hb2.mono (by simp))).mono hnx.size)
        go_wp2
        all_goals (try (exfalso; omega))
        go_roundw
        case rel => exact ⟨2, _, by go_num, by omega, rfl, by simp only [ByteArray.size_append, size_mk]; first | omega | (have : (⟨#[46]⟩ : ByteArray).size = 1 := rfl; omega), Lib.hid (by rw [hnext.out]; simp only [un_append, un_mk, hst.out]; simp [un]), hnx2⟩
        case measure => simp [intOf]
      · have kk := K1.out
        rw [hb] at kk
        have KK := Lib.hid kk
        have D := Lib.hid (fun W => law_digits16 q W hq9)
        have hl := spell_len 16 q hq9
        have hfk : Hid (f 1 = 16) := Lib.hid (by rw [hf1.out]; unfold baseOf; rw [hb]; rfl)
        have hnext : Hid (joinD 46 (spells f v 3 2) = joinD 46 (spells f v 3 1) ++ 46 :: spell 16 q) := Lib.hid (by have := spells_next f v 3 1 (by decide); rw [hfk.out, HQ.out] at this; exact this)
        have SL1 := SL.out 2
        rw [hnext.out] at SL1
        clear kk hb
        go_wp2_with fail
        refine (KK.out _).mono ?_; rintro e w2 ⟨rfl, rfl⟩
        go_wp2_with fail
        refine (D.out _).mono ?_; rintro e w2 ⟨rfl, hb2⟩
        have hnx2 := hnx.trans (((Below.refl _ wr).alloc (Nat.le_refl _) _ |>.trans (hb2.mono (by simp))).mono hnx.size)
        go_wp2
        all_goals (try (exfalso; omega))
        go_roundw
        case rel => exact ⟨2, _, by go_num, by omega, rfl, by simp only [ByteArray.size_append, size_mk]; first | omega | (have : (⟨#[46]⟩ : ByteArray).size = 1 := rfl; omega), Lib.hid (by rw [hnext.out]; simp only [un_append, un_mk, hst.out]; simp [un]), hnx2⟩
        case measure => simp [intOf]
    · obtain ⟨q, hq⟩ : ∃ q, q = v % 65536 := ⟨_, rfl⟩
      have hq9 : q < 4294967296 := by omega
      have HQ : Hid (partN v 3 2 = q) := Lib.hid (by rw [hq]; rfl)
      have hq2 : (v : Int) % 65536 = (q : Int) := by rw [hq]; omega
      have cc := ((bcell hnx).1 w.heap.size 2 HG.out.2.1).trans HG.out.2.2.2.2.1
      clear hq
      rcases (by omega : z2 % 3 = 0 ∨ z2 % 3 = 1 ∨ z2 % 3 = 2) with hb | hb | hb
      · have kk := K2.out
        rw [hb] at kk
        have KK := Lib.hid kk
        have D := Lib.hid (fun W => law_digits8 q W hq9)
        have hl := spell_len 8 q hq9
        have hfk : Hid (f 2 = 8) := Lib.hid (by rw [hf2.out]; unfold baseOf; rw [hb]; rfl)
        have hnext : Hid (joinD 46 (spells f v 3 3) = joinD 46 (spells f v 3 2) ++ 46 :: spell 8 q) := Lib.hid (by have := spells_next f v 3 2 (by decide); rw [hfk.out, HQ.out] at this; exact this)
        have SL1 := SL.out 3
        rw [hnext.out] at SL1
        clear kk hb
        go_wp2_with fail
        refine (KK.out _).mono ?_; rintro e w2 ⟨rfl, rfl⟩
        go_wp2_with fail
        refine (D.out _).mono ?_; rintro e w2 ⟨rfl, hb2⟩
        have hnx2 := hnx.trans (((Below.refl _ wr).alloc (Nat.le_refl _) _ |>.trans (hb2.mono (by simp))).mono hnx.size)
        go_wp2
        all_goals (try (exfalso; omega))
        go_roundw
        case rel => exact ⟨3, _, by go_num, by omega, rfl, by simp only [ByteArray.size_append, size_mk]; first | omega | (have : (⟨#[46]⟩ : ByteArray).size = 1 := rfl; omega), Lib.hid (by rw [hnext.out]; simp only [un_append, un_mk, hst.out]; simp [un]), hnx2⟩
        case measure => simp [intOf]
      · have kk := K2.out
        rw [hb] at kk
        have KK := Lib.hid kk
        have D := Lib.hid (fun W => law_digits10 q W hq9)
        have hl := spell_len 10 q hq9
        have hfk : Hid (f 2 = 10) := Lib.hid (by rw [hf2.out]; unfold baseOf; rw [hb]; rfl)
        have hnext : Hid (joinD 46 (spells f v 3 3) = joinD 46 (spells f v 3 2) ++ 46 :: spell 10 q) := Lib.hid (by have := spells_next f v 3 2 (by decide); rw [hfk.out, HQ.out] at this; exact this)
        have SL1 := SL.out 3
        rw [hnext.out] at SL1
        clear kk hb
        go_wp2_with fail
        refine (KK.out _).mono ?_; rintro e w2 ⟨rfl, rfl⟩
        go_wp2_with fail
        refine (D.out _).mono ?_; rintro e w2 ⟨rfl, hb2⟩
        have hnx2 := hnx.trans (((Below.refl _ wr).alloc (Nat.le_refl _) _ |>.trans (hb2.mono (by simp))).mono hnx.size)
        go_wp2
        all_goals (try (exfalso; omega))
        go_roundw
        case rel => exact ⟨3, _, by go_num, by omega, rfl, by simp only [ByteArray.size_append, size_mk]; first | omega | (have : (⟨#[46]⟩ : ByteArray).size = 1 := rfl; omega), Lib.hid (by rw [hnext.out]; simp only [un_append, un_mk, hst.out]; simp [un]), hnx2⟩
        case measure => simp [intOf]
      · have kk := K2.out
        rw [hb] at kk
        have KK := Lib.hid kk
        have D := Lib.hid (fun W => law_digits16 q W hq9)
        have hl := spell_len 16 q hq9
        have hfk : Hid (f 2 = 16) := Lib.hid (by rw [hf2.out]; unfold baseOf; rw [hb]; rfl)
        have hnext : Hid (joinD 46 (spells f v 3 3) = joinD 46 (spells f v 3 2) ++ 46 :: spell 16 q) := Lib.hid (by have := spells_next f v 3 2 (by decide); rw [hfk.out, HQ.out] at this; exact this)
        have SL1 := SL.out 3
        rw [hnext.out] at SL1
        clear kk hb
        go_wp2_with fail
        refine (KK.out _).mono ?_; rintro e w2 ⟨rfl, rfl⟩
        go_wp2_with fail
        refine (D.out _).mono ?_; rintro e w2 ⟨rfl, hb2⟩
        have hnx2 := hnx.trans (((Below.refl _ wr).alloc (Nat.le_refl _) _ |>.trans (hb2.mono (by simp))).mono hnx.size)
        go_wp2
        all_goals (try (exfalso; omega))
        go_roundw
        case rel => exact ⟨3, _, by go_num, by omega, rfl, by simp only [ByteArray.size_append, size_mk]; first | omega | (have : (⟨#[46]⟩ : ByteArray).size = 1 := rfl; omega), Lib.hid (by rw [hnext.out]; simp only [un_append, un_mk, hst.out]; simp [un]), hnx2⟩
        case measure => simp [intOf]
    · have hr := HR.out
      rw [← hst.out] at hr
      have c1 := fun W h => i4_numbers S W h (by omega)
      have c2 := fun W h => i4_numbers (S ++ ⟨#[46]⟩) W h (by have : (⟨#[46]⟩ : ByteArray).size = 1 := rfl; rw [ByteArray.size_append]; omega)
      have c3 := fun W h => i4_numeric S W h (by omega)
      have e2 : un (S ++ ⟨#[46]⟩) = un S ++ [46] := by rw [un_append]; rfl
      simp only [hr.1] at c1
      simp only [e2, hr.2.1] at c2
      simp only [hr.2.2] at c3
      have C1 := Lib.hid c1; have C2 := Lib.hid c2; have C3 := Lib.hid c3
      have hb0 := HG.out.1.trans (hnx.mono HG.out.1.size)
      have B0 := HB.out.below hb0
      clear c1 c2 c3 hr e2
      go_wp2_with fail
      refine (C1.out _ B0).mono ?_; rintro e w2 ⟨rfl, hx⟩
      have B2 := B0.below hx
      have hb2 := hb0.trans (hx.mono hb0.size)
      clear hx hb0 B0
      go_wp2_with fail
      refine (C2.out _ B2).mono ?_; rintro e w3 ⟨rfl, hx⟩
      have B3 := B2.below hx
      have hb3 := hb2.trans (hx.mono hb2.size)
      clear hx hb2 B2
      go_wp2_with fail
      refine (C3.out _ B3).mono ?_; rintro e w4 ⟨rfl, hx⟩
      have B4 := B3.below hx
      have hb4 := hb3.trans (hx.mono hb3.size)
      clear hx hb3 B3
      go_wp2_with fail
      refine (AW.out _ B4).mono ?_; rintro e w5 ⟨rfl, hx⟩
      go_wp2_with fail
      go_ret
      exact ⟨rfl, hb4.trans (hx.mono hb4.size)⟩
end Go.Proofs.YtblcgicgbindlaaDoor
