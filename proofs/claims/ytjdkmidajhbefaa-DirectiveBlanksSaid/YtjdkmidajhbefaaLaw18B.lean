/- The walk of DirectiveBlanks (law of layer 18): it returns true; memory that existed is unchanged. Conditions: none. -/
import Derived.Test.YtjdkmidajhbefaaLaw18
import Derived.Test.YtjdkmidajhbefaaPlainDirB
import Derived.Test.YtjdkmidajhbefaaOpenOnes
import Derived.Test.YtjdkmidajhbefaaKeepMod
import Derived.BigRegion
namespace Go.Proofs.Ytjdkmidajhbefaa
open Go.RowKit Hs
set_option linter.unusedSimpArgs false
set_option linter.unusedVariables false

theorem blk_first {A B S : ByteArray} (P : ByteArray) {k : Nat} (hP : un P = padB k) (h : BlkTo (un A ++ ((if 0 = 0 then [] else [59]) ++ un S)) (un B ++ ((if 0 = 0 then [] else [59]) ++ (padB k ++ un S ++ padB k))) (0 + 1)) : BlkTo (un (A ++ S)) (un (B ++ P ++ S ++ P)) (0 + 1) := by
  simp only [un_append, hP]
  simpa using h
theorem blk_next {A B S : ByteArray} (P : ByteArray) {k j : Nat} (hj : j ≠ 0) (hP : un P = padB k) (h : BlkTo (un A ++ ((if j = 0 then [] else [59]) ++ un S)) (un B ++ ((if j = 0 then [] else [59]) ++ (padB k ++ un S ++ padB k))) (j + 1)) : BlkTo (un (A ++ ⟨#[59]⟩ ++ S)) (un (B ++ ⟨#[59]⟩ ++ P ++ S ++ P)) (j + 1) := by
  have e : un ⟨#[59]⟩ = [59] := rfl
  rw [if_neg hj] at h
  simp only [un_append, hP, e]
  simpa using h
theorem plain_le {A S : ByteArray} {n : Nat} (hA : A.size ≤ 101 * n) (hS : S.size ≤ 100) : (A ++ S).size ≤ 101 * (n + 1) := by rw [ByteArray.size_append]; omega
theorem plain_le' {A S : ByteArray} {n : Nat} (hA : A.size ≤ 101 * n) (hS : S.size ≤ 100) : (A ++ ⟨#[59]⟩ ++ S).size ≤ 101 * (n + 1) := by
  have e : (ByteArray.mk #[59]).size = 1 := rfl
  simp only [ByteArray.size_append, e]; omega
theorem wide_le {B S : ByteArray} (P : ByteArray) {n : Nat} (hB : B.size ≤ 107 * n) (hS : S.size ≤ 100) (hP : P.size ≤ 3) : (B ++ P ++ S ++ P).size ≤ 107 * (n + 1) := by simp only [ByteArray.size_append]; omega
theorem wide_le' {B S : ByteArray} (P : ByteArray) {n : Nat} (hB : B.size ≤ 107 * n) (hS : S.size ≤ 100) (hP : P.size ≤ 3) : (B ++ ⟨#[59]⟩ ++ P ++ S ++ P).size ≤ 107 * (n + 1) := by
  have e : (ByteArray.mk #[59]).size = 1 := rfl
  simp only [ByteArray.size_append, e]; omega

set_option maxRecDepth 20000 in
set_option maxHeartbeats 6000000 in
theorem blanks_walk (v0 : Value) (l : List Bs) (v1 : Value) (m : List Int) (w : World) (hv : Strs w v0 l) (hs : ∀ x ∈ l, x.length ≤ maxLen) (hv1 : Ints w v1 m) (hm : ∀ n ∈ m, (Lit.int .i64 n).wf = true) : Calls Try.prog 14 #[v0, v1] w fun e w' => e = .returned (.bool true) ∧ Below w.heap.size w w' := by
  have AW := Lib.hid (fun W => law18_awake W)
  obtain ⟨a0, cap, rfl, hn, hmx, hc⟩ := hv.open
  obtain ⟨a1, cap1, rfl, hn1, hmx1, hc1⟩ := hv1.open
  unfold maxLen at hmx hmx1
  have HC := Lib.hid hc
  have HC1 := Lib.hid hc1
  have HS := Lib.hid hs
  have HM := Lib.hid hm
  clear hc hv hs hc1 hv1 hm
  by_cases hlen : l.length ≤ 32
  · go_enter Try.func14, Try.ntmps14
    go_wp2_with fail
    go_loopw [5, 6, 7] (fun pv bv iv wr => ∃ (j : Nat) (A B : ByteArray), pv = .string A ∧ bv = .string B ∧ iv = .int .i64 j ∧ j ≤ l.length ∧ A.size ≤ 101 * j ∧ B.size ≤ 107 * j ∧ Below w.heap.size w wr ∧ Hid (BlkTo (un A) (un B) j)) (fun _ _ iv _ => l.length - (intOf iv).toNat)
    case atStart => exact ⟨0, ⟨#[]⟩, ⟨#[]⟩, rfl, rfl, rfl, by omega, by decide, by decide, Below.refl _ _, Lib.hid BlkTo.start⟩
    case round =>
      obtain ⟨j, A, B, rfl, rfl, rfl, hj, hA, hB, hnx, hto⟩ := hrel
      by_cases hlt : j < l.length
      · obtain ⟨b, off, rfl, hb1, hcell⟩ := HC.out (by omega)
        have c0 := (hnx.cell (p := ⟨b, off + j, none⟩) hb1).trans (hcell j hlt)
        have hsz := HS.out l[j] (List.getElem_mem hlt)
        clear hcell
        obtain ⟨S, hS⟩ : ∃ S, S = mk l[j] := ⟨_, rfl⟩
        have hSz : S.size ≤ maxLen := by rw [hS, size_mk]; exact hsz
        unfold maxLen at hSz
        rw [← hS] at c0
        clear hS hsz
        have cA : ∀ o : Obj, (wr.alloc o).cell? ⟨b, off + j, none⟩ = some (.string S) := fun o => (World.cell?_alloc_past _ _ _ (by have := hnx.size; omega)).trans c0
        by_cases h100 : S.size ≤ 100
        · go_wp2_with fail
          go_loop [8] (fun kv => ∃ k : Nat, kv = .int .i64 k ∧ k ≤ S.size ∧ Hid (noSQ (un S) = noSQ ((un S).drop k))) (fun kv => S.size - (intOf kv).toNat)
          case atStart => exact ⟨0, rfl, by omega, Lib.hid rfl⟩
          case round =>
            obtain ⟨k, rfl, hk, hno⟩ := hrel
            by_cases hks : k < S.size
            · have hst : Hid (noSQ (un S) = (decide ((S[k]'hks).toNat ≠ 59) && decide ((S[k]'hks).toNat ≠ 34) && noSQ ((un S).drop (k + 1)))) := Lib.hid (hno.out.trans (noSQ_drop (un S) k (by rw [length_un]; exact hks)))
              clear hno
              obtain ⟨c, hcc⟩ : ∃ c, c = (S[k]'hks) := ⟨_, rfl⟩
              have hcase : c.toNat = 59 ∨ (c.toNat ≠ 59 ∧ c.toNat = 34) ∨ (c.toNat ≠ 59 ∧ c.toNat ≠ 34) := by omega
              rw [hcc] at hcase
              clear hcc
              rcases hcase with h | ⟨h, h'⟩ | ⟨h, h'⟩
              · have h1 : (((S[k]'hks).toNat : Int) == 59) = true := by simp; omega
                go_wp2_with fail
                all_goals (try (exfalso; omega))
                refine (AW.out _).mono ?_; rintro e wz ⟨rfl, hbz⟩
                go_wp2_with fail
                go_ret
                exact ⟨rfl, hnx.trans (hbz.mono hnx.size)⟩
              · have h1 : (((S[k]'hks).toNat : Int) == 59) = false := by simp; omega
                have h2 : (((S[k]'hks).toNat : Int) == 34) = true := by simp; omega
                go_wp2_with fail
                all_goals (try (exfalso; omega))
                refine (AW.out _).mono ?_; rintro e wz ⟨rfl, hbz⟩
                go_wp2_with fail
                go_ret
                exact ⟨rfl, hnx.trans (hbz.mono hnx.size)⟩
              · have h1 : (((S[k]'hks).toNat : Int) == 59) = false := by simp; omega
                have h2 : (((S[k]'hks).toNat : Int) == 34) = false := by simp; omega
                have hst2 : Hid (noSQ (un S) = noSQ ((un S).drop (k + 1))) := Lib.hid (by
                  have e := hst.out
                  rwa [decide_eq_true h, decide_eq_true h', Bool.true_and, Bool.true_and] at e)
                clear hst
                go_wp2_with fail
                all_goals (try (exfalso; omega))
                go_round
                case rel => exact ⟨k + 1, by go_num, by omega, hst2⟩
                case measure => simp [intOf]; omega
            · obtain rfl : k = S.size := by omega
              have hyes : Hid (noSQ (un S) = true) := Lib.hid (by
                have e := hno.out
                rwa [List.drop_eq_nil_of_le (by rw [length_un]; exact Nat.le_refl _)] at e)
              have hstp := fun kk => Lib.hid (hto.out.snoc (un S) kk hyes.out)
              clear hno hto
              by_cases hm0 : 0 < m.length
              · obtain ⟨q, hq⟩ : ∃ q, q = j % m.length := ⟨_, rfl⟩
                have hql : q < m.length := by rw [hq]; exact Nat.mod_lt _ hm0
                have htm : ((j : Nat) : Int).tmod (m.length : Int) = (q : Int) := by rw [Int.tmod_eq_emod_of_nonneg (by omega), hq]; rfl
                obtain ⟨b2, off2, rfl, hb2, hcell2⟩ := HC1.out hm0
                have d0 := (hnx.cell (p := ⟨b2, off2 + q, none⟩) hb2).trans (hcell2 q hql)
                have hmw := HM.out m[q] (List.getElem_mem hql)
                clear hcell2 hq
                obtain ⟨z, hz⟩ : ∃ z, z = m[q] := ⟨_, rfl⟩
                rw [← hz] at d0 hmw
                clear hz
                obtain ⟨kk, hkk, hkl⟩ : ∃ kk : Nat, z % 4 = (kk : Int) ∧ kk < 4 := ⟨(z % 4).toNat, by omega, by omega⟩
                have HZ : Hid (∀ W : World, Calls Try.prog 17 #[.int .i64 z, .int .i64 4] W fun e w' => e = .returned (.int .i64 (kk : Int)) ∧ W = w') := Lib.hid fun W => by
                  have := keep_mod z 4 W hmw (by omega) (by omega)
                  rw [hkk] at this
                  exact this
                have hml0 : ¬ (m.length : Int) = 0 := by omega
                have hml1 : ((m.length : Int) == 0) = false := by rw [beq_eq_false_iff_ne]; omega
                clear hmw hkk
                go_wp2_with fail
                refine (HZ.out _).mono ?_; rintro e w' ⟨rfl, rfl⟩
                have hst := hstp kk
                clear HZ hstp d0
                by_cases hj0 : j = 0
                · subst hj0
                  simp only [Nat.add_zero] at c0 cA
                  have hcase : kk = 0 ∨ kk = 1 ∨ kk = 2 ∨ kk = 3 := by omega
                  rcases hcase with rfl | rfl | rfl | rfl
                  all_goals
                    go_wp2_with fail
                    go_region
                    clear cA c0
                    go_wp2_with fail
                    go_roundw
                    case rel => exact ⟨0 + 1, _, _, rfl, rfl, by go_num, by omega, plain_le hA h100, wide_le _ hB h100 (by decide), (hnx.alloc hnx.size _).drew, Lib.hid (blk_first _ (by rfl) hst.out)⟩
                    case measure => simp [intOf]; omega
                · have hj1 : (0 : Int) < (j : Int) := by omega
                  have hcase : kk = 0 ∨ kk = 1 ∨ kk = 2 ∨ kk = 3 := by omega
                  rcases hcase with rfl | rfl | rfl | rfl
                  all_goals
                    go_wp2_with fail
                    go_region
                    clear cA c0
                    go_wp2_with fail
                    go_roundw
                    case rel => exact ⟨j + 1, _, _, rfl, rfl, by go_num, by omega, plain_le' hA h100, wide_le' _ hB h100 (by decide), (hnx.alloc hnx.size _).drew, Lib.hid (blk_next _ hj0 (by rfl) hst.out)⟩
                    case measure => simp [intOf]; omega
              · have hml0 : ¬ (0 : Int) < (m.length : Int) := by omega
                have hst := hstp 0
                clear hstp
                by_cases hj0 : j = 0
                · subst hj0
                  simp only [Nat.add_zero] at c0 cA
                  go_wp2_with fail
                  go_region
                  clear cA c0
                  go_wp2_with fail
                  go_roundw
                  case rel => exact ⟨0 + 1, _, _, rfl, rfl, by go_num, by omega, plain_le hA h100, wide_le _ hB h100 (by decide), (hnx.alloc hnx.size _).drew, Lib.hid (blk_first _ (by rfl) hst.out)⟩
                  case measure => simp [intOf]; omega
                · have hj1 : (0 : Int) < (j : Int) := by omega
                  go_wp2_with fail
                  go_region
                  clear cA c0
                  go_wp2_with fail
                  go_roundw
                  case rel => exact ⟨j + 1, _, _, rfl, rfl, by go_num, by omega, plain_le' hA h100, wide_le' _ hB h100 (by decide), (hnx.alloc hnx.size _).drew, Lib.hid (blk_next _ hj0 (by rfl) hst.out)⟩
                  case measure => simp [intOf]; omega
        · go_wp2_with fail
          refine (AW.out _).mono ?_; rintro e wz ⟨rfl, hbz⟩
          go_wp2_with fail
          go_ret
          exact ⟨rfl, hnx.trans (hbz.mono hnx.size)⟩
      · have hfin := Lib.hid (hto.out.fin (by rw [length_un]; omega) (by rw [length_un]; omega))
        have hj2 : ¬ (j : Int) < (l.length : Int) := by omega
        clear hto
        go_wp2_with fail
        refine (d_parse A _ (by omega)).mono ?_; rintro e w1 ⟨v1, rfl, hown1, hb1⟩
        obtain ⟨R, hR⟩ : ∃ R, R = parseD (un A) := ⟨_, rfl⟩
        have HR := Lib.hid hR
        rw [← hR] at hown1 ⊢
        clear hR
        have hd1 := Dirs.owned hown1
        have b1 := hnx.trans (hb1.mono hnx.size)
        clear hown1
        go_wp2_with fail
        refine (d_parse B _ (by omega)).mono ?_; rintro e w2 ⟨v2, rfl, hown2, hb2⟩
        rw [hfin.out, ← HR.out] at hown2 ⊢
        have hd2 := Dirs.owned hown2
        have hd3 := hd1.below hb2
        have b2 := b1.trans (hb2.mono b1.size)
        clear hown2 hd1
        go_wp2_with fail
        refine (keep_directives v1 v2 R.1 R.1 _ hd3 hd2).mono ?_; rintro e w3 ⟨rfl, hb3⟩
        rw [decide_eq_true rfl]
        have b3 := b2.trans (hb3.mono b2.size)
        go_wp2_with fail
        refine (AW.out _).mono ?_; rintro e w4 ⟨rfl, hb4⟩
        go_wp2_with fail
        go_ret
        exact ⟨rfl, b3.trans (hb4.mono b3.size)⟩
  · go_enter Try.func14, Try.ntmps14
    go_wp2_with fail
    refine (AW.out _).mono ?_; rintro e wz ⟨rfl, hbz⟩
    go_wp2_with fail
    go_ret
    exact ⟨rfl, hbz⟩
end Go.Proofs.Ytjdkmidajhbefaa
