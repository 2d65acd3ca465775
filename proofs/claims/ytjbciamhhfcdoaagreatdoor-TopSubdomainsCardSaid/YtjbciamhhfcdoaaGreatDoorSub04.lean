/- The walk of Encode of the reference of Punycode. Conditions: the code points are at most 256 numbers that are not negative. -/
import Derived.Test.YtjbciamhhfcdoaaGreatDoorSub03
namespace Hs
open Go Go.RowKit
set_option linter.unusedVariables false
set_option linter.unusedSimpArgs false
/-- Numbers in memory. -/
def ncells (l : List Nat) : List Value := l.map fun (n : Nat) => .int .i64 (n : Int)
@[simp] theorem length_ncells (l : List Nat) : (ncells l).length = l.length := by simp [ncells]
theorem ncells_append (a b : List Nat) : ncells (a ++ b) = ncells a ++ ncells b := by simp [ncells]
def Nums (w : World) (v : Value) (l : List Nat) : Prop := Row w v 1 l.length (ncells l)
theorem Nums.open {w : World} {v : Value} {l : List Nat} (h : Nums w v l) : ∃ a cap, v = .slice a l.length cap ∧ l.length ≤ cap ∧ cap ≤ maxLen ∧
    ∀ (hn : 0 < l.length), ∃ b off, a = some ⟨b, off, none⟩ ∧ b < w.heap.size ∧ ∀ j (hj : j < l.length), w.cell? ⟨b, off + j, none⟩ = some (.int .i64 (l[j] : Int)) := by
  obtain ⟨hl, a, cap, rfl, hn, hm, h⟩ := h
  refine ⟨a, cap, rfl, hn, hm, fun h0 => ?_⟩
  rcases h with h | ⟨b, off, ha, hlt, hc⟩
  · omega
  · exact ⟨b, off, ha, hlt, fun j hj => hc j _ (by simp [ncells, List.getElem?_eq_getElem hj])⟩
theorem own_sliceN {w : World} {base : Nat} {e : TypeId} {size n : Nat} {v : Value} {xs : List Value} (h : w.ownsRow base e size v n xs) : ∃ a cap, v = .slice a n cap := by
  rcases h.2 with ⟨rfl, rfl⟩ | ⟨g, cap, cur, rfl, _⟩
  · exact ⟨none, 0, rfl⟩
  · exact ⟨_, cap, rfl⟩
theorem basicB_snoc_lt {l : List Nat} {p : Nat} (h : p < 128) : basicB (l ++ [p]) = basicB l ++ [UInt8.ofNat p] := by
  unfold basicB
  rw [List.filter_append, List.map_append]
  congr 1
  rw [List.filter_cons, if_pos (by simpa using h)]
  rfl
theorem basicB_snoc_ge {l : List Nat} {p : Nat} (h : ¬ p < 128) : basicB (l ++ [p]) = basicB l := by
  unfold basicB
  rw [List.filter_append, List.map_append, List.filter_cons, if_neg (by simpa using h)]
  simp
theorem basicB_len (l : List Nat) : (basicB l).length ≤ l.length := by unfold basicB; rw [List.length_map]; exact List.length_filter_le _ _
theorem byte_nat (p : Nat) (h : p < 256) : (((UInt8.ofNat p).toNat : Nat) : Int) = (p : Int) := by
  rw [UInt8.toNat_ofNat', Nat.mod_eq_of_lt h]
theorem minGE_leD (n D : Nat) : ∀ l : List Nat, minGE n D l ≤ D
  | [] => Nat.le_refl _
  | p :: r => by
    have := minGE_leD n D r
    unfold minGE
    split <;> omega
theorem minGE_cons_ge {n D p : Nat} {r : List Nat} (h : n ≤ p) : minGE n D (p :: r) = min p (minGE n D r) := by rw [minGE, if_pos h]
theorem minGE_cons_lt {n D p : Nat} {r : List Nat} (h : ¬ n ≤ p) : minGE n D (p :: r) = minGE n D r := by rw [minGE, if_neg h]
theorem all_take_ok (l : List Nat) (h : l.all ptOk = true) : ∀ p ∈ l, p ≤ 1114111 := by
  intro p hp
  have := List.all_eq_true.1 h p hp
  exact (of_decide_eq_true this).1
theorem drop_all (l : List Nat) (f : Nat → Bool) (k : Nat) (h : k < l.length) : (l.drop k).all f = (f l[k] && (l.drop (k + 1)).all f) := by
  rw [List.drop_eq_getElem_cons h, List.all_cons]
end Hs
namespace Go.Proofs.YtjbciamhhfcdoaaGreatDoor
open Go.RowKit Hs
set_option linter.unusedSimpArgs false
set_option linter.unusedVariables false

theorem r12_threshold (k bias : Nat) (w : World) (hk : k ≤ 2000000000) (hb : bias ≤ 1048576) : Calls Tryz.prog 161 #[.int .i64 (k : Int), .int .i64 (bias : Int)] w fun e w' => e = .returned (.int .i64 (thr k bias)) ∧ w = w' := by
  have h1 := Lib.hid (show (thr k bias : Int) = max 1 (min 26 (36 * ((k : Int) + 1) - (bias : Int))) by unfold thr; omega)
  go_enter Tryz.func161, Tryz.ntmps161
  go_wp2
  all_goals (try (exfalso; omega))
  all_goals
    go_ret
    rw [h1.out]
    refine ⟨congrArg Ending.returned ?_, rfl⟩
    show Value.int .i64 _ = Value.int .i64 _
    congr 1
    omega

set_option maxRecDepth 20000 in
set_option maxHeartbeats 16000000 in
theorem r12_encode (v : Value) (pts : List Nat) (w : World) (hst : Nums w v pts) (hl : pts.length ≤ 100000) (hbig : ∀ p ∈ pts, p ≤ 1152921504606846976) : Calls Tryz.prog 101 #[v] w fun e w' => (∃ s c, e = .returned (.tuple #[.string s, .int .i64 c]) ∧ ((c = 0 ∧ encV pts = some (un s)) ∨ (c ≠ 0 ∧ s = ⟨#[]⟩ ∧ encV pts = none))) ∧ Below w.heap.size w w' := by
  obtain ⟨iB0, iB⟩ := info_parts infoByte
  have hdef : Hid (encV pts = if 256 < pts.length then none else if pts.all ptOk = false then none else some (encR pts (basicB pts).length pts.length 128 (basicB pts ++ if (basicB pts).length = 0 then [] else [45]) 0 72 (basicB pts).length)) := Lib.hid rfl
  obtain ⟨a, c, rfl, hn, hm, hc⟩ := hst.open
  unfold maxLen at hm
  have HC := Lib.hid hc
  have HBIG := Lib.hid hbig
  clear hc hst hbig
  obtain ⟨n, hn0⟩ : ∃ n, pts.length = n := ⟨_, rfl⟩
  rw [hn0] at hn hl hdef ⊢
  have HN := Lib.hid hn0
  clear hn0
  by_cases hlong : 256 < n
  · have g1 : decide ((256 : Int) < (n : Int)) = true := decide_eq_true (by omega)
    have hend : Hid (encV pts = none) := Lib.hid (by rw [hdef.out, if_pos hlong])
    clear hdef
    go_enter Tryz.func101, Tryz.ntmps101
    go_wp2
    all_goals (try (exfalso; omega))
    go_ret2
    exact ⟨⟨_, _, rfl, .inr ⟨by decide, rfl, hend.out⟩⟩, Below.refl _ _⟩
  · have g1 : decide ((256 : Int) < (n : Int)) = false := decide_eq_false (by omega)
    have hdef2 := Lib.hid (hdef.out.trans (if_neg hlong))
    clear hdef
    go_enter Tryz.func101, Tryz.ntmps101
    go_wp2
    all_goals (try (exfalso; omega))
    go_loopw [4, 5] (fun ov iv wr => ∃ (k m : Nat), iv = .int .i64 k ∧ k ≤ n ∧ m ≤ k ∧ wr.ownsRow w.heap.size 5 1 ov m (bcells (basicB (pts.take k))) ∧ Hid (pts.all ptOk = (pts.drop k).all ptOk) ∧ Below w.heap.size w wr) (fun _ iv _ => n - (intOf iv).toNat)
    case atStart => exact ⟨0, 0, rfl, by omega, by omega, World.ownsRow_nil _ _ _ _, Lib.hid (by rw [List.drop_zero]), Below.refl _ _⟩
    case round =>
      obtain ⟨k, m, rfl, hk, hmk, hown, hall, hnx⟩ := hrel
      have hsz := hnx.size
      by_cases hlt : k < n
      · obtain ⟨b, off, rfl, hb1, hcell⟩ := HC.out (by rw [HN.out]; omega)
        have hkl : k < pts.length := by rw [HN.out]; exact hlt
        have c0w := hcell k hkl
        have c0 := ((bcell hnx).1 b (off + k) hb1).trans c0w
        have hp := HBIG.out pts[k] (List.getElem_mem hkl)
        have htk : Hid (pts.take (k + 1) = pts.take k ++ [pts[k]]) := Lib.hid (List.take_succ_eq_append_getElem hkl)
        have hda := drop_all pts ptOk k hkl
        obtain ⟨p, hpp⟩ : ∃ p, p = pts[k] := ⟨_, rfl⟩
        rw [← hpp] at c0 c0w hp htk hda
        have hpt := fun W => r12_point p W hp
        obtain ⟨ok, hok⟩ : ∃ ok, ok = ptOk p := ⟨_, rfl⟩
        rw [← hok] at hda
        simp only [← hok] at hpt
        have HP := Lib.hid hpt
        have c1 : ∀ o, (wr.alloc o).cell? ⟨b, off + k, none⟩ = some (.int .i64 (p : Int)) := fun o => ((bcell ((Below.refl wr.heap.size wr).alloc (Nat.le_refl _) o)).1 b (off + k) (by omega)).trans c0
        clear hcell hpp hok hpt hkl c0w
        cases ok
        · have hend : Hid (encV pts = none) := Lib.hid (by rw [hdef2.out, hall.out, hda]; rfl)
          clear hall hda
          go_wp2_with fail
          refine (HP.out _).mono ?_; rintro e w2 ⟨rfl, rfl⟩
          go_wp2
          all_goals (try (exfalso; omega))
          go_ret2
          exact ⟨⟨_, _, rfl, .inr ⟨by decide, rfl, hend.out⟩⟩, hnx⟩
        · have hall2 : Hid (pts.all ptOk = (pts.drop (k + 1)).all ptOk) := Lib.hid (by rw [hall.out, hda, Bool.true_and])
          clear hall hda
          by_cases hp128 : p < 128
          · have g2 : decide ((p : Int) < 128) = true := decide_eq_true (by omega)
            have hbb := byte_nat p (by omega)
            go_wp2_with fail
            refine (HP.out _).mono ?_; rintro e w2 ⟨rfl, rfl⟩
            go_wp2_with (first | (at_builtin; refine wpList_append_own _ rfl (.tmp 37) (.tmp 43) 32 rfl (w.heap.size) 5 iB0 (.int .u8 0) 1 1 Tryz.underlying32 iB.1 iB.2.1 iB.2.2.1 iB.2.2.2 rfl (by decide) _ _ _ rfl (hown.alloc _) ⟨wr.heap.size, 0, none⟩ 1 1 [_] rfl rfl (cell_one_new _ _ _) (by intro u hu; simp at hu; subst hu; rfl) (by unfold maxLen; omega) (by omega) (by simp; omega) ?_; intro v1 w3 hown1 hgrow1 hnil1))
            all_goals (try (exfalso; omega))
            go_roundw
            case rel =>
              refine ⟨k + 1, m + 1, by go_num, by omega, by omega, ?_, hall2, (hnx.alloc (by omega) _).grown hgrow1 (by simp; omega) (fun j hj => (hown.lt j hj).1)⟩
              rw [htk.out, basicB_snoc_lt hp128, bcells_append]
              have e : bcells [UInt8.ofNat p] = [.int .u8 (p : Int)] := by show [Value.int .u8 _] = _; rw [hbb]
              rw [e]
              exact hown1
            case measure => simp [intOf]; omega
          · have g2 : decide ((p : Int) < 128) = false := decide_eq_false (by omega)
            go_wp2_with fail
            refine (HP.out _).mono ?_; rintro e w2 ⟨rfl, rfl⟩
            go_wp2
            all_goals (try (exfalso; omega))
            go_roundw
            case rel => exact ⟨k + 1, m, by go_num, by omega, by omega, by rw [htk.out, basicB_snoc_ge hp128]; exact hown, hall2, hnx⟩
            case measure => simp [intOf]; omega
      · skip
        have hk9 : pts.take k = pts := List.take_of_length_le (by rw [HN.out]; omega)
        have hall9 : pts.all ptOk = true := by rw [hall.out, List.drop_of_length_le (by rw [HN.out]; omega)]; rfl
        have HOK := Lib.hid (all_take_ok pts hall9)
        rw [hk9] at hown
        have hm9 : m = (basicB pts).length := by have := hown.1; simp at this; omega
        have hes0 := enc_start pts (by rw [HN.out]; omega)
        have hdef3 : encV pts = some (encR pts (basicB pts).length pts.length 128 (basicB pts ++ if (basicB pts).length = 0 then [] else [45]) 0 72 (basicB pts).length) := by rw [hdef2.out, hall9, HN.out]; rfl
        obtain ⟨R, hR⟩ : ∃ R, R = encR pts (basicB pts).length pts.length 128 (basicB pts ++ if (basicB pts).length = 0 then [] else [45]) 0 72 (basicB pts).length := ⟨_, rfl⟩
        rw [← hR] at hes0 hdef3
        rw [← hm9] at hes0
        have HR := Lib.hid hdef3
        obtain ⟨a2, c2, rfl⟩ := own_sliceN hown
        clear hall hall9 hk9 hdef2 hdef3 hR
        rcases Nat.eq_zero_or_pos m with h0 | h0
        · obtain ⟨OUT0, hO⟩ : ∃ OUT0, OUT0 = basicB pts ++ if m = 0 then ([] : Bs) else [45] := ⟨_, rfl⟩
          rw [← hO] at hes0
          have hOe : OUT0 = basicB pts := by rw [hO, if_pos h0, List.append_nil]
          have HES := Lib.hid hes0
          have HOWN0 := Lib.hid (show wr.ownsRow w.heap.size 5 1 (.slice a2 m c2) OUT0.length (bcells OUT0) by rw [hOe, ← hm9]; exact hown)
          have HNX0 := Lib.hid hnx
          have g2 : decide ((0 : Int) < (m : Int)) = false := decide_eq_false (by omega)
          have g2n : decide (0 < m) = false := decide_eq_false (by omega)
          have h00 : m ≤ 0 := by omega
          clear hO hOe hes0 hown hm9 h0 hnx
          go_wp2
          all_goals (try (exfalso; omega))
          go_loopw [4, 6, 8, 9, 10] (fun ov dnv nv dv bv wr => ∃ (out : Bs) (dn nn dl bi : Nat), dnv = .int .i64 dn ∧ nv = .int .i64 nn ∧ dv = .int .i64 dl ∧ bv = .int .i64 bi ∧ dn ≤ n ∧ nn ≤ 1114112 ∧ dl ≤ 257 ∧ bi ≤ 324 ∧ out.length ≤ 257 + 11 * dn ∧ wr.ownsRow w.heap.size 5 1 ov out.length (bcells out) ∧ Hid (EncSt pts m R nn out dl bi dn) ∧ Below w.heap.size w wr) (fun _ dnv _ _ _ _ => n - (intOf dnv).toNat)
          case atStart => exact ⟨OUT0, m, 128, 0, 72, rfl, rfl, rfl, rfl, by omega, by omega, by omega, by omega, HES.out.fits, HOWN0.out, HES, HNX0.out⟩
          case round =>
            obtain ⟨out, dn, nn, dl, bi, rfl, rfl, rfl, rfl, hdn, hnn, hdl, hbi, hol, hown, hes, hnx⟩ := hrel
            by_cases hlt : dn < n
            · have hmore := hes.out.more (by rw [HN.out]; exact hlt) HOK.out
              obtain ⟨M, hM⟩ : ∃ M, M = minGE nn 1114112 pts := ⟨_, rfl⟩
              rw [← hM] at hmore
              obtain ⟨hm1, hm2, hm3, hm4, hm5⟩ := hmore
              have hM30 : minGE nn 1073741824 pts = M := by
                rw [hM]
                exact minGE_default nn 1073741824 1114112 pts hm5 (fun p hp => by have := HOK.out p hp; omega)
              have HM3 := Lib.hid hm3
              have HST0 : Hid (min 1073741824 (minGE nn 1073741824 (pts.drop 0)) = M) := Lib.hid (by rw [List.drop_zero, hM30]; omega)
              have HMM := Lib.hid hM
              clear hm5 hm3 hm4 hM30 hM
              go_wp2
              all_goals (try (exfalso; omega))
              go_loop [11, 12] (fun lv iv => ∃ k L : Nat, iv = .int .i64 k ∧ k ≤ n ∧ lv = .int .i64 L ∧ L ≤ 1073741824 ∧ Hid (min L (minGE nn 1073741824 (pts.drop k)) = M)) (fun _ iv => n - (intOf iv).toNat)
              case atStart => exact ⟨0, 1073741824, rfl, by omega, rfl, by omega, HST0⟩
              case round =>
                obtain ⟨k, L, rfl, hk, rfl, hL, hst⟩ := hrel
                by_cases hkn : k < n
                · obtain ⟨b, off, rfl, hb1, hcell⟩ := HC.out (by rw [HN.out]; omega)
                  have hkl : k < pts.length := by rw [HN.out]; exact hkn
                  have c0 := ((bcell hnx).1 b (off + k) hb1).trans (hcell k hkl)
                  have hp := HOK.out pts[k] (List.getElem_mem hkl)
                  have hd : Hid (pts.drop k = pts[k] :: pts.drop (k + 1)) := Lib.hid (List.drop_eq_getElem_cons hkl)
                  obtain ⟨p, hpp⟩ : ∃ p, p = pts[k] := ⟨_, rfl⟩
                  rw [← hpp] at c0 hp hd
                  clear hcell hpp hkl
                  by_cases hge : nn ≤ p
                  · have g2 : decide ((nn : Int) ≤ (p : Int)) = true := decide_eq_true (by omega)
                    obtain ⟨L2, hL2⟩ : ∃ L2, L2 = min L p := ⟨_, rfl⟩
                    have hmin : min (L : Int) (p : Int) = (L2 : Int) := by omega
                    have hst2 : Hid (min L2 (minGE nn 1073741824 (pts.drop (k + 1))) = M) := Lib.hid (by rw [← hst.out, hd.out, minGE_cons_ge hge, hL2, Nat.min_assoc])
                    have hL2b : L2 ≤ 1073741824 := by omega
                    have HL2 := Lib.hid hL2
                    clear hst hL2
                    go_wp2
                    all_goals (try (exfalso; omega))
                    go_round
                    case rel => exact ⟨k + 1, L2, by go_num, by omega, (by have := HL2.out; congr 1; split <;> omega), hL2b, hst2⟩
                    case measure => simp [intOf]; omega
                  · have g2 : decide ((nn : Int) ≤ (p : Int)) = false := decide_eq_false (by omega)
                    have hst2 : Hid (min L (minGE nn 1073741824 (pts.drop (k + 1))) = M) := Lib.hid (by rw [← hst.out, hd.out, minGE_cons_lt hge])
                    clear hst
                    go_wp2
                    all_goals (try (exfalso; omega))
                    go_round
                    case rel => exact ⟨k + 1, L, by go_num, by omega, rfl, hL, hst2⟩
                    case measure => simp [intOf]; omega
                · have hLM : L = M := by
                    have h1 := hst.out
                    rw [List.drop_of_length_le (by rw [HN.out]; omega), minGE] at h1
                    omega
                  have HLM := Lib.hid hLM
                  have hL1 : nn ≤ L := by omega
                  have hL2 : L ≤ 1114111 := by omega
                  obtain ⟨Q, hQ⟩ : ∃ Q, Q = (L - nn) * (dn + 1) := ⟨_, rfl⟩
                  have hQb : Q ≤ 300000000 := by
                    rw [hQ]
                    exact Nat.le_trans (Nat.mul_le_mul (show L - nn ≤ 1114111 by omega) (show dn + 1 ≤ 257 by omega)) (by decide)
                  have hmul : ((L : Int) - (nn : Int)) * ((dn : Int) + 1) = (Q : Int) := by
                    rw [hQ, show (L : Int) - (nn : Int) = ((L - nn : Nat) : Int) by omega, show (dn : Int) + 1 = ((dn + 1 : Nat) : Int) by omega]; rfl
                  obtain ⟨S, hS⟩ : ∃ S, S = encPass L m pts out (dl + Q) bi dn := ⟨_, rfl⟩
                  have hSd : S.2.2.2 ≤ n := by
                    rw [hS, encPass_done, hLM]
                    have h1 := hes.out.more (by rw [HN.out]; exact hlt) HOK.out
                    rw [← HMM.out] at h1
                    have h2 := below_succ M pts
                    have h3 := below_le (M + 1) pts
                    rw [HN.out] at h3
                    omega
                  have hSN : Hid (S = encPass (minGE nn 1114112 pts) m pts out (dl + (minGE nn 1114112 pts - nn) * (dn + 1)) bi dn) := Lib.hid (by rw [hS, ← HMM.out, hQ, hLM])
                  have HP0 : Hid (encPass L m (pts.drop 0) out (dl + Q) bi dn = S) := Lib.hid (by rw [List.drop_zero, hS])
                  have hSm : dn < S.2.2.2 := by
                    rw [hS, encPass_done]
                    have := equals_pos HM3.out
                    rw [hLM]
                    omega
                  have hdl2 : dl + Q ≤ 300000300 := by omega
                  have hSB := Lib.hid hSm
                  clear hst hQ hLM hS hSm
                  go_wp2
                  all_goals (try (exfalso; omega))
                  go_loopw [4, 6, 9, 10, 13] (fun ov dnv dv bv iv wr => ∃ (out : Bs) (dn dl bi k : Nat), dnv = .int .i64 dn ∧ dv = .int .i64 dl ∧ bv = .int .i64 bi ∧ iv = .int .i64 k ∧ k ≤ n ∧ dl ≤ 300000300 + k ∧ bi ≤ 324 ∧ out.length ≤ 257 + 11 * dn ∧ wr.ownsRow w.heap.size 5 1 ov out.length (bcells out) ∧ Hid (encPass L m (pts.drop k) out dl bi dn = S) ∧ Below w.heap.size w wr) (fun _ _ _ _ iv _ => n - (intOf iv).toNat)
                  case atStart => exact ⟨out, dn, dl + Q, bi, 0, rfl, by go_num, rfl, rfl, by omega, by omega, by omega, by omega, hown, HP0, hnx⟩
                  case round =>
                    obtain ⟨out, dn, dl, bi, k, rfl, rfl, rfl, rfl, hk, hdl, hbi, hol, hown, hst4, hnx⟩ := hrel
                    have hsz := hnx.size
                    have hdn : dn ≤ n := by
                      have h1 := encPass_done L m (pts.drop k) out dl bi dn
                      rw [hst4.out] at h1
                      omega
                    by_cases hkn : k < n
                    · obtain ⟨b, off, rfl, hb1, hcell⟩ := HC.out (by rw [HN.out]; omega)
                      have hkl : k < pts.length := by rw [HN.out]; exact hkn
                      have c0 := ((bcell hnx).1 b (off + k) hb1).trans (hcell k hkl)
                      have hp := HOK.out pts[k] (List.getElem_mem hkl)
                      have hdrop : Hid (pts.drop k = pts[k] :: pts.drop (k + 1)) := Lib.hid (List.drop_eq_getElem_cons hkl)
                      obtain ⟨p, hpp⟩ : ∃ p, p = pts[k] := ⟨_, rfl⟩
                      rw [← hpp] at c0 hp hdrop
                      clear hcell hpp hkl
                      rcases Nat.lt_trichotomy p L with hpl | hpl | hpl
                      · have g2 : decide ((p : Int) < (L : Int)) = true := decide_eq_true (by omega)
                        have g3 : ((p : Int) != (L : Int)) = true := by simp; omega
                        have hst5 : Hid (encPass L m (pts.drop (k + 1)) out (dl + 1) bi dn = S) := Lib.hid (by rw [← hst4.out, hdrop.out, encPass_lt hpl])
                        clear hst4
                        go_wp2
                        all_goals (try (exfalso; omega))
                        go_roundw
                        case rel => exact ⟨out, dn, dl + 1, bi, k + 1, rfl, by go_num, rfl, by go_num, by omega, by omega, by omega, by omega, hown, hst5, hnx⟩
                        case measure => simp [intOf]; omega
                      · have hpL := Lib.hid hpl
                        have hpl1 : p ≤ L := by omega
                        have hpl2 : L ≤ p := by omega
                        have g2 : decide ((p : Int) < (L : Int)) = false := decide_eq_false (by omega)
                        have g3 : ((p : Int) != (L : Int)) = false := by simp; omega
                        clear hpl
                        have hS5 : Hid (out ++ encN dl 0 bi = out ++ encN dl 0 bi) := Lib.hid rfl
                        have hlen5 := encN_len 9 dl 0 bi (by omega)
                        obtain ⟨T5, hT5⟩ : ∃ T5, T5 = out ++ encN dl 0 bi := ⟨_, rfl⟩
                        have hT5l : T5.length ≤ 257 + 11 * dn + 10 := by rw [hT5, List.length_append]; omega
                        have HT5 := Lib.hid hT5
                        go_wp2
                        all_goals (try (exfalso; omega))
                        go_loopw [4, 14, 15] (fun ov qv kv wr => ∃ (o5 : Bs) (q5 k5 : Nat), qv = .int .i64 q5 ∧ kv = .int .i64 k5 ∧ q5 + k5 ≤ 300001000 ∧ wr.ownsRow w.heap.size 5 1 ov o5.length (bcells o5) ∧ Hid (T5 = o5 ++ encN q5 k5 bi) ∧ Below w.heap.size w wr) (fun _ qv _ _ => (intOf qv).toNat)
                        case atStart => exact ⟨out, dl, 0, rfl, rfl, by omega, hown, HT5, hnx⟩
                        case round =>
                          obtain ⟨o5, q5, k5, rfl, rfl, hqk, hown, hst5, hnx⟩ := hrel
                          have hsz := hnx.size
                          have hol : o5.length ≤ 257 + 11 * dn + 10 := by have := congrArg List.length hst5.out; rw [List.length_append] at this; omega
                          have htb := thr_bounds k5 bi
                          have ht := fun W => r12_threshold k5 bi W (by omega) (by omega)
                          have hES := @encN_small q5 k5 bi
                          have hEB := @encN_big q5 k5 bi
                          obtain ⟨t, htt⟩ : ∃ t, t = thr k5 bi := ⟨_, rfl⟩
                          rw [← htt] at htb hES hEB
                          simp only [← htt] at ht
                          have HT := Lib.hid ht
                          clear htt ht
                          by_cases hqt : q5 < t
                          · have g8 : decide ((t : Int) ≤ (q5 : Int)) = false := decide_eq_false (by omega)
                            have hfin := hES hqt
                            have hdg := fun W => r12_digit q5 W (by omega)
                            obtain ⟨f, hff⟩ : ∃ f, f = decide (dn = m) := ⟨_, rfl⟩
                            have hfi : ((dn : Int) == (m : Int)) = f := by rw [hff, Bool.eq_iff_iff]; simp; omega
                            have had := fun W => r12_adapt dl (dn + 1) f W (by omega) (by omega) (by omega)
                            rw [Int.natCast_add] at had
                            have hal := adaptN_le dl (dn + 1) f (by omega)
                            obtain ⟨b2, hb2⟩ : ∃ b2, b2 = adaptN dl (dn + 1) f := ⟨_, rfl⟩
                            simp only [← hb2] at had
                            rw [← hb2] at hal
                            have hnext : Hid (encPass L m (pts.drop (k + 1)) T5 0 b2 (dn + 1) = S) := Lib.hid (by rw [← hst4.out, hdrop.out, encPass_eq hpL.out, ← HT5.out, hb2, hff])
                            have hT5e : Hid (T5 = o5 ++ [pd q5]) := Lib.hid (by rw [hst5.out, hfin])
                            have HD := Lib.hid hdg
                            have HAD := Lib.hid had
                            clear hdg had hff hb2 hfin hES hEB
                            go_wp2_with fail
                            refine (HT.out _).mono ?_; rintro e w2 ⟨rfl, rfl⟩
                            go_wp2_with fail
                            all_goals (try (exfalso; omega))
                            refine (HD.out _).mono ?_; rintro e w2 ⟨rfl, rfl⟩
                            go_wp2_with (first | (at_builtin; refine wpList_append_own _ rfl (.tmp 134) (.tmp 137) 32 rfl (w.heap.size) 5 iB0 (.int .u8 0) 1 1 Tryz.underlying32 iB.1 iB.2.1 iB.2.2.1 iB.2.2.2 rfl (by decide) _ _ _ rfl (hown.alloc _) ⟨wr.heap.size, 0, none⟩ 1 1 [_] rfl rfl (cell_one_new _ _ _) (by intro u hu; simp at hu; subst hu; rfl) (by unfold maxLen; omega) (by omega) (by simp; omega) ?_; intro v1 w3 hown1 hgrow1 hnil1) | (go_at_call 162; refine (HAD.out _).mono ?_; rintro e w2 ⟨rfl, rfl⟩))
                            all_goals (try (exfalso; omega))
                            go_roundw
                            case rel =>
                              refine ⟨T5, dn + 1, 0, b2, k + 1, by go_num, rfl, rfl, by go_num, by omega, by omega, by omega, by omega, ?_, hnext, (hnx.alloc (by omega) _).grown hgrow1 (by simp; omega) (fun j hj => (hown.lt j hj).1)⟩
                              rw [hT5e.out, bcells_append, List.length_append]
                              exact hown1
                            case measure => simp [intOf]; omega
                          · have g8 : decide ((t : Int) ≤ (q5 : Int)) = true := decide_eq_true (by omega)
                            have hbig := hEB hqt
                            obtain ⟨r, hr⟩ : ∃ r, r = (q5 - t) % (36 - t) := ⟨_, rfl⟩
                            obtain ⟨q6, hq6⟩ : ∃ q6, q6 = (q5 - t) / (36 - t) := ⟨_, rfl⟩
                            rw [← hr, ← hq6] at hbig
                            have hr36 : r < 36 - t := by rw [hr]; exact Nat.mod_lt _ (by omega)
                            have hq6l : q6 ≤ q5 - t := by rw [hq6]; exact Nat.div_le_self _ _
                            have e1 : ((q5 : Int) - (t : Int)) = ((q5 - t : Nat) : Int) := by omega
                            have e2 : (36 : Int) - (t : Int) = ((36 - t : Nat) : Int) := by omega
                            have hri : ((q5 : Int) - (t : Int)) % (36 - (t : Int)) = (r : Int) := by rw [e1, e2, hr]; rfl
                            have hrt : ((q5 : Int) - (t : Int)).tmod (36 - (t : Int)) = (r : Int) := by rw [Int.tmod_eq_emod_of_nonneg (by omega)]; exact hri
                            have hdi : ((q5 : Int) - (t : Int)) / (36 - (t : Int)) = (q6 : Int) := by rw [e1, e2, hq6]; rfl
                            have hdt : ((q5 : Int) - (t : Int)).tdiv (36 - (t : Int)) = (q6 : Int) := by rw [Int.tdiv_eq_ediv_of_nonneg (by omega)]; exact hdi
                            have hz36 : (36 : Int) - (t : Int) ≠ 0 := by omega
                            have hdg := fun W => r12_digit (t + r) W (by omega)
                            simp only [Int.natCast_add] at hdg
                            have HD := Lib.hid hdg
                            have hst6 : Hid (T5 = (o5 ++ [pd (t + r)]) ++ encN q6 (k5 + 1) bi) := Lib.hid (by rw [hst5.out, hbig, List.append_assoc]; rfl)
                            clear hdg hr hq6 e1 e2 hst5 hbig hES hEB
                            go_wp2_with fail
                            refine (HT.out _).mono ?_; rintro e w2 ⟨rfl, rfl⟩
                            go_wp2_with fail
                            all_goals (try (exfalso; omega))
                            refine (HT.out _).mono ?_; rintro e w2 ⟨rfl, rfl⟩
                            go_wp2_with fail
                            all_goals (try (exfalso; omega))
                            refine (HD.out _).mono ?_; rintro e w2 ⟨rfl, rfl⟩
                            go_wp2_with (first | (at_builtin; refine wpList_append_own _ rfl (.tmp 114) (.tmp 124) 32 rfl (w.heap.size) 5 iB0 (.int .u8 0) 1 1 Tryz.underlying32 iB.1 iB.2.1 iB.2.2.1 iB.2.2.2 rfl (by decide) _ _ _ rfl (hown.alloc _) ⟨wr.heap.size, 0, none⟩ 1 1 [_] rfl rfl (cell_one_new _ _ _) (by intro u hu; simp at hu; subst hu; rfl) (by unfold maxLen; omega) (by omega) (by simp; omega) ?_; intro v1 w3 hown1 hgrow1 hnil1))
                            all_goals (try (exfalso; omega))
                            go_roundw
                            case rel =>
                              refine ⟨o5 ++ [pd (t + r)], q6, k5 + 1, rfl, by go_num, by omega, ?_, hst6, (hnx.alloc (by omega) _).grown hgrow1 (by simp; omega) (fun j hj => (hown.lt j hj).1)⟩
                              rw [bcells_append, List.length_append]
                              exact hown1
                            case measure => simp [intOf]; omega
                      · have g2 : decide ((p : Int) < (L : Int)) = false := decide_eq_false (by omega)
                        have g3 : ((p : Int) != (L : Int)) = true := by simp; omega
                        have hst5 : Hid (encPass L m (pts.drop (k + 1)) out dl bi dn = S) := Lib.hid (by rw [← hst4.out, hdrop.out, encPass_gt hpl])
                        clear hst4
                        go_wp2
                        all_goals (try (exfalso; omega))
                        go_roundw
                        case rel => exact ⟨out, dn, dl, bi, k + 1, rfl, rfl, rfl, by go_num, by omega, by omega, by omega, by omega, hown, hst5, hnx⟩
                        case measure => simp [intOf]; omega
                    · have hSe : (out, dl, bi, dn) = S := by rw [← hst4.out, List.drop_of_length_le (by rw [HN.out]; omega)]; rfl
                      have hnext := hes.out.next (by rw [HN.out]; exact hlt) (by rw [HN.out]; omega) HOK.out S hSN.out (by rw [← hSe]; exact hol) (by rw [← hSe]; exact hbi)
                      rw [← HMM.out, ← HLM.out, ← hSe] at hnext
                      have HNX := Lib.hid hnext
                      have hdl9 : dl + 1 ≤ 257 := hnext.small
                      have hSB2 := hSB.out
                      rw [← hSe] at hSB2
                      simp only at hSB2
                      clear hst4 hSe hnext
                      go_wp2
                      all_goals (try (exfalso; omega))
                      go_roundw
                      case rel => exact ⟨out, dn, L + 1, dl + 1, bi, rfl, by go_num, by go_num, rfl, by omega, by omega, hdl9, by omega, by omega, hown, HNX, hnx⟩
                      case measure => simp [intOf]; omega
            · have hend : Hid (R = out) := Lib.hid (hes.out.fin (by rw [HN.out]; omega))
              have hcv := string_of_row (P := Tryz.prog) (Row.owned hown) (src := 32) (dst := 9) Tryz.underlying32 Tryz.underlying5 Tryz.underlying9
              clear hes
              go_wp2
              all_goals (try (exfalso; omega))
              go_ret2
              exact ⟨⟨_, _, rfl, .inl ⟨rfl, by rw [HR.out, hend.out, un_mk]⟩⟩, hnx⟩
        · obtain ⟨OUT0, hO⟩ : ∃ OUT0, OUT0 = basicB pts ++ if m = 0 then ([] : Bs) else [45] := ⟨_, rfl⟩
          rw [← hO] at hes0
          have hOe : OUT0 = basicB pts ++ [45] := by rw [hO, if_neg (by omega)]
          have HES := Lib.hid hes0
          have HOE := Lib.hid hOe
          have HM9 := Lib.hid hm9
          have g2 : decide ((0 : Int) < (m : Int)) = true := decide_eq_true (by omega)
          have g2n : decide (0 < m) = true := decide_eq_true (by omega)
          clear hO hOe hes0 hm9
          go_wp2_with (first | (at_builtin; refine wpList_append_own _ rfl (.tmp 51) (.tmp 52) 32 rfl (w.heap.size) 5 iB0 (.int .u8 0) 1 1 Tryz.underlying32 iB.1 iB.2.1 iB.2.2.1 iB.2.2.2 rfl (by decide) _ _ _ rfl (hown.alloc _) ⟨wr.heap.size, 0, none⟩ 1 1 [_] rfl rfl (cell_one_new _ _ _) (by intro u hu; simp at hu; subst hu; rfl) (by unfold maxLen; omega) (by omega) (by simp; omega) ?_; intro v1 w3 hown1 hgrow1 hnil1))
          all_goals (try (exfalso; omega))
          have HNX0 := Lib.hid ((hnx.alloc (by omega) _).grown hgrow1 (by simp; omega) (fun j hj => (hown.lt j hj).1))
          have HOWN0 := Lib.hid (show w3.ownsRow w.heap.size 5 1 v1 OUT0.length (bcells OUT0) by rw [HOE.out, bcells_append, List.length_append, ← HM9.out]; exact hown1)
          clear hown hown1 hgrow1 hnil1 hnx
          go_loopw [4, 6, 8, 9, 10] (fun ov dnv nv dv bv wr => ∃ (out : Bs) (dn nn dl bi : Nat), dnv = .int .i64 dn ∧ nv = .int .i64 nn ∧ dv = .int .i64 dl ∧ bv = .int .i64 bi ∧ dn ≤ n ∧ nn ≤ 1114112 ∧ dl ≤ 257 ∧ bi ≤ 324 ∧ out.length ≤ 257 + 11 * dn ∧ wr.ownsRow w.heap.size 5 1 ov out.length (bcells out) ∧ Hid (EncSt pts m R nn out dl bi dn) ∧ Below w.heap.size w wr) (fun _ dnv _ _ _ _ => n - (intOf dnv).toNat)
          case atStart => exact ⟨OUT0, m, 128, 0, 72, rfl, rfl, rfl, rfl, by omega, by omega, by omega, by omega, HES.out.fits, HOWN0.out, HES, HNX0.out⟩
          case round =>
            obtain ⟨out, dn, nn, dl, bi, rfl, rfl, rfl, rfl, hdn, hnn, hdl, hbi, hol, hown, hes, hnx⟩ := hrel
            by_cases hlt : dn < n
            · have hmore := hes.out.more (by rw [HN.out]; exact hlt) HOK.out
              obtain ⟨M, hM⟩ : ∃ M, M = minGE nn 1114112 pts := ⟨_, rfl⟩
              rw [← hM] at hmore
              obtain ⟨hm1, hm2, hm3, hm4, hm5⟩ := hmore
              have hM30 : minGE nn 1073741824 pts = M := by
                rw [hM]
                exact minGE_default nn 1073741824 1114112 pts hm5 (fun p hp => by have := HOK.out p hp; omega)
              have HM3 := Lib.hid hm3
              have HST0 : Hid (min 1073741824 (minGE nn 1073741824 (pts.drop 0)) = M) := Lib.hid (by rw [List.drop_zero, hM30]; omega)
              have HMM := Lib.hid hM
              clear hm5 hm3 hm4 hM30 hM
              go_wp2
              all_goals (try (exfalso; omega))
              go_loop [11, 12] (fun lv iv => ∃ k L : Nat, iv = .int .i64 k ∧ k ≤ n ∧ lv = .int .i64 L ∧ L ≤ 1073741824 ∧ Hid (min L (minGE nn 1073741824 (pts.drop k)) = M)) (fun _ iv => n - (intOf iv).toNat)
              case atStart => exact ⟨0, 1073741824, rfl, by omega, rfl, by omega, HST0⟩
              case round =>
                obtain ⟨k, L, rfl, hk, rfl, hL, hst⟩ := hrel
                by_cases hkn : k < n
                · obtain ⟨b, off, rfl, hb1, hcell⟩ := HC.out (by rw [HN.out]; omega)
                  have hkl : k < pts.length := by rw [HN.out]; exact hkn
                  have c0 := ((bcell hnx).1 b (off + k) hb1).trans (hcell k hkl)
                  have hp := HOK.out pts[k] (List.getElem_mem hkl)
                  have hd : Hid (pts.drop k = pts[k] :: pts.drop (k + 1)) := Lib.hid (List.drop_eq_getElem_cons hkl)
                  obtain ⟨p, hpp⟩ : ∃ p, p = pts[k] := ⟨_, rfl⟩
                  rw [← hpp] at c0 hp hd
                  clear hcell hpp hkl
                  by_cases hge : nn ≤ p
                  · have g2 : decide ((nn : Int) ≤ (p : Int)) = true := decide_eq_true (by omega)
                    obtain ⟨L2, hL2⟩ : ∃ L2, L2 = min L p := ⟨_, rfl⟩
                    have hmin : min (L : Int) (p : Int) = (L2 : Int) := by omega
                    have hst2 : Hid (min L2 (minGE nn 1073741824 (pts.drop (k + 1))) = M) := Lib.hid (by rw [← hst.out, hd.out, minGE_cons_ge hge, hL2, Nat.min_assoc])
                    have hL2b : L2 ≤ 1073741824 := by omega
                    have HL2 := Lib.hid hL2
                    clear hst hL2
                    go_wp2
                    all_goals (try (exfalso; omega))
                    go_round
                    case rel => exact ⟨k + 1, L2, by go_num, by omega, (by have := HL2.out; congr 1; split <;> omega), hL2b, hst2⟩
                    case measure => simp [intOf]; omega
                  · have g2 : decide ((nn : Int) ≤ (p : Int)) = false := decide_eq_false (by omega)
                    have hst2 : Hid (min L (minGE nn 1073741824 (pts.drop (k + 1))) = M) := Lib.hid (by rw [← hst.out, hd.out, minGE_cons_lt hge])
                    clear hst
                    go_wp2
                    all_goals (try (exfalso; omega))
                    go_round
                    case rel => exact ⟨k + 1, L, by go_num, by omega, rfl, hL, hst2⟩
                    case measure => simp [intOf]; omega
                · have hLM : L = M := by
                    have h1 := hst.out
                    rw [List.drop_of_length_le (by rw [HN.out]; omega), minGE] at h1
                    omega
                  have HLM := Lib.hid hLM
                  have hL1 : nn ≤ L := by omega
                  have hL2 : L ≤ 1114111 := by omega
                  obtain ⟨Q, hQ⟩ : ∃ Q, Q = (L - nn) * (dn + 1) := ⟨_, rfl⟩
                  have hQb : Q ≤ 300000000 := by
                    rw [hQ]
                    exact Nat.le_trans (Nat.mul_le_mul (show L - nn ≤ 1114111 by omega) (show dn + 1 ≤ 257 by omega)) (by decide)
                  have hmul : ((L : Int) - (nn : Int)) * ((dn : Int) + 1) = (Q : Int) := by
                    rw [hQ, show (L : Int) - (nn : Int) = ((L - nn : Nat) : Int) by omega, show (dn : Int) + 1 = ((dn + 1 : Nat) : Int) by omega]; rfl
                  obtain ⟨S, hS⟩ : ∃ S, S = encPass L m pts out (dl + Q) bi dn := ⟨_, rfl⟩
                  have hSd : S.2.2.2 ≤ n := by
                    rw [hS, encPass_done, hLM]
                    have h1 := hes.out.more (by rw [HN.out]; exact hlt) HOK.out
                    rw [← HMM.out] at h1
                    have h2 := below_succ M pts
                    have h3 := below_le (M + 1) pts
                    rw [HN.out] at h3
                    omega
                  have hSN : Hid (S = encPass (minGE nn 1114112 pts) m pts out (dl + (minGE nn 1114112 pts - nn) * (dn + 1)) bi dn) := Lib.hid (by rw [hS, ← HMM.out, hQ, hLM])
                  have HP0 : Hid (encPass L m (pts.drop 0) out (dl + Q) bi dn = S) := Lib.hid (by rw [List.drop_zero, hS])
                  have hSm : dn < S.2.2.2 := by
                    rw [hS, encPass_done]
                    have := equals_pos HM3.out
                    rw [hLM]
                    omega
                  have hdl2 : dl + Q ≤ 300000300 := by omega
                  have hSB := Lib.hid hSm
                  clear hst hQ hLM hS hSm
                  go_wp2
                  all_goals (try (exfalso; omega))
                  go_loopw [4, 6, 9, 10, 13] (fun ov dnv dv bv iv wr => ∃ (out : Bs) (dn dl bi k : Nat), dnv = .int .i64 dn ∧ dv = .int .i64 dl ∧ bv = .int .i64 bi ∧ iv = .int .i64 k ∧ k ≤ n ∧ dl ≤ 300000300 + k ∧ bi ≤ 324 ∧ out.length ≤ 257 + 11 * dn ∧ wr.ownsRow w.heap.size 5 1 ov out.length (bcells out) ∧ Hid (encPass L m (pts.drop k) out dl bi dn = S) ∧ Below w.heap.size w wr) (fun _ _ _ _ iv _ => n - (intOf iv).toNat)
                  case atStart => exact ⟨out, dn, dl + Q, bi, 0, rfl, by go_num, rfl, rfl, by omega, by omega, by omega, by omega, hown, HP0, hnx⟩
                  case round =>
                    obtain ⟨out, dn, dl, bi, k, rfl, rfl, rfl, rfl, hk, hdl, hbi, hol, hown, hst4, hnx⟩ := hrel
                    have hsz := hnx.size
                    have hdn : dn ≤ n := by
                      have h1 := encPass_done L m (pts.drop k) out dl bi dn
                      rw [hst4.out] at h1
                      omega
                    by_cases hkn : k < n
                    · obtain ⟨b, off, rfl, hb1, hcell⟩ := HC.out (by rw [HN.out]; omega)
                      have hkl : k < pts.length := by rw [HN.out]; exact hkn
                      have c0 := ((bcell hnx).1 b (off + k) hb1).trans (hcell k hkl)
                      have hp := HOK.out pts[k] (List.getElem_mem hkl)
                      have hdrop : Hid (pts.drop k = pts[k] :: pts.drop (k + 1)) := Lib.hid (List.drop_eq_getElem_cons hkl)
                      obtain ⟨p, hpp⟩ : ∃ p, p = pts[k] := ⟨_, rfl⟩
                      rw [← hpp] at c0 hp hdrop
                      clear hcell hpp hkl
                      rcases Nat.lt_trichotomy p L with hpl | hpl | hpl
                      · have g2 : decide ((p : Int) < (L : Int)) = true := decide_eq_true (by omega)
                        have g3 : ((p : Int) != (L : Int)) = true := by simp; omega
                        have hst5 : Hid (encPass L m (pts.drop (k + 1)) out (dl + 1) bi dn = S) := Lib.hid (by rw [← hst4.out, hdrop.out, encPass_lt hpl])
                        clear hst4
                        go_wp2
                        all_goals (try (exfalso; omega))
                        go_roundw
                        case rel => exact ⟨out, dn, dl + 1, bi, k + 1, rfl, by go_num, rfl, by go_num, by omega, by omega, by omega, by omega, hown, hst5, hnx⟩
                        case measure => simp [intOf]; omega
                      · have hpL := Lib.hid hpl
                        have hpl1 : p ≤ L := by omega
                        have hpl2 : L ≤ p := by omega
                        have g2 : decide ((p : Int) < (L : Int)) = false := decide_eq_false (by omega)
                        have g3 : ((p : Int) != (L : Int)) = false := by simp; omega
                        clear hpl
                        have hS5 : Hid (out ++ encN dl 0 bi = out ++ encN dl 0 bi) := Lib.hid rfl
                        have hlen5 := encN_len 9 dl 0 bi (by omega)
                        obtain ⟨T5, hT5⟩ : ∃ T5, T5 = out ++ encN dl 0 bi := ⟨_, rfl⟩
                        have hT5l : T5.length ≤ 257 + 11 * dn + 10 := by rw [hT5, List.length_append]; omega
                        have HT5 := Lib.hid hT5
                        go_wp2
                        all_goals (try (exfalso; omega))
                        go_loopw [4, 14, 15] (fun ov qv kv wr => ∃ (o5 : Bs) (q5 k5 : Nat), qv = .int .i64 q5 ∧ kv = .int .i64 k5 ∧ q5 + k5 ≤ 300001000 ∧ wr.ownsRow w.heap.size 5 1 ov o5.length (bcells o5) ∧ Hid (T5 = o5 ++ encN q5 k5 bi) ∧ Below w.heap.size w wr) (fun _ qv _ _ => (intOf qv).toNat)
                        case atStart => exact ⟨out, dl, 0, rfl, rfl, by omega, hown, HT5, hnx⟩
                        case round =>
                          obtain ⟨o5, q5, k5, rfl, rfl, hqk, hown, hst5, hnx⟩ := hrel
                          have hsz := hnx.size
                          have hol : o5.length ≤ 257 + 11 * dn + 10 := by have := congrArg List.length hst5.out; rw [List.length_append] at this; omega
                          have htb := thr_bounds k5 bi
                          have ht := fun W => r12_threshold k5 bi W (by omega) (by omega)
                          have hES := @encN_small q5 k5 bi
                          have hEB := @encN_big q5 k5 bi
                          obtain ⟨t, htt⟩ : ∃ t, t = thr k5 bi := ⟨_, rfl⟩
                          rw [← htt] at htb hES hEB
                          simp only [← htt] at ht
                          have HT := Lib.hid ht
                          clear htt ht
                          by_cases hqt : q5 < t
                          · have g8 : decide ((t : Int) ≤ (q5 : Int)) = false := decide_eq_false (by omega)
                            have hfin := hES hqt
                            have hdg := fun W => r12_digit q5 W (by omega)
                            obtain ⟨f, hff⟩ : ∃ f, f = decide (dn = m) := ⟨_, rfl⟩
                            have hfi : ((dn : Int) == (m : Int)) = f := by rw [hff, Bool.eq_iff_iff]; simp; omega
                            have had := fun W => r12_adapt dl (dn + 1) f W (by omega) (by omega) (by omega)
                            rw [Int.natCast_add] at had
                            have hal := adaptN_le dl (dn + 1) f (by omega)
                            obtain ⟨b2, hb2⟩ : ∃ b2, b2 = adaptN dl (dn + 1) f := ⟨_, rfl⟩
                            simp only [← hb2] at had
                            rw [← hb2] at hal
                            have hnext : Hid (encPass L m (pts.drop (k + 1)) T5 0 b2 (dn + 1) = S) := Lib.hid (by rw [← hst4.out, hdrop.out, encPass_eq hpL.out, ← HT5.out, hb2, hff])
                            have hT5e : Hid (T5 = o5 ++ [pd q5]) := Lib.hid (by rw [hst5.out, hfin])
                            have HD := Lib.hid hdg
                            have HAD := Lib.hid had
                            clear hdg had hff hb2 hfin hES hEB
                            go_wp2_with fail
                            refine (HT.out _).mono ?_; rintro e w2 ⟨rfl, rfl⟩
                            go_wp2_with fail
                            all_goals (try (exfalso; omega))
                            refine (HD.out _).mono ?_; rintro e w2 ⟨rfl, rfl⟩
                            go_wp2_with (first | (at_builtin; refine wpList_append_own _ rfl (.tmp 134) (.tmp 137) 32 rfl (w.heap.size) 5 iB0 (.int .u8 0) 1 1 Tryz.underlying32 iB.1 iB.2.1 iB.2.2.1 iB.2.2.2 rfl (by decide) _ _ _ rfl (hown.alloc _) ⟨wr.heap.size, 0, none⟩ 1 1 [_] rfl rfl (cell_one_new _ _ _) (by intro u hu; simp at hu; subst hu; rfl) (by unfold maxLen; omega) (by omega) (by simp; omega) ?_; intro v1 w3 hown1 hgrow1 hnil1) | (go_at_call 162; refine (HAD.out _).mono ?_; rintro e w2 ⟨rfl, rfl⟩))
                            all_goals (try (exfalso; omega))
                            go_roundw
                            case rel =>
                              refine ⟨T5, dn + 1, 0, b2, k + 1, by go_num, rfl, rfl, by go_num, by omega, by omega, by omega, by omega, ?_, hnext, (hnx.alloc (by omega) _).grown hgrow1 (by simp; omega) (fun j hj => (hown.lt j hj).1)⟩
                              rw [hT5e.out, bcells_append, List.length_append]
                              exact hown1
                            case measure => simp [intOf]; omega
                          · have g8 : decide ((t : Int) ≤ (q5 : Int)) = true := decide_eq_true (by omega)
                            have hbig := hEB hqt
                            obtain ⟨r, hr⟩ : ∃ r, r = (q5 - t) % (36 - t) := ⟨_, rfl⟩
                            obtain ⟨q6, hq6⟩ : ∃ q6, q6 = (q5 - t) / (36 - t) := ⟨_, rfl⟩
                            rw [← hr, ← hq6] at hbig
                            have hr36 : r < 36 - t := by rw [hr]; exact Nat.mod_lt _ (by omega)
                            have hq6l : q6 ≤ q5 - t := by rw [hq6]; exact Nat.div_le_self _ _
                            have e1 : ((q5 : Int) - (t : Int)) = ((q5 - t : Nat) : Int) := by omega
                            have e2 : (36 : Int) - (t : Int) = ((36 - t : Nat) : Int) := by omega
                            have hri : ((q5 : Int) - (t : Int)) % (36 - (t : Int)) = (r : Int) := by rw [e1, e2, hr]; rfl
                            have hrt : ((q5 : Int) - (t : Int)).tmod (36 - (t : Int)) = (r : Int) := by rw [Int.tmod_eq_emod_of_nonneg (by omega)]; exact hri
                            have hdi : ((q5 : Int) - (t : Int)) / (36 - (t : Int)) = (q6 : Int) := by rw [e1, e2, hq6]; rfl
                            have hdt : ((q5 : Int) - (t : Int)).tdiv (36 - (t : Int)) = (q6 : Int) := by rw [Int.tdiv_eq_ediv_of_nonneg (by omega)]; exact hdi
                            have hz36 : (36 : Int) - (t : Int) ≠ 0 := by omega
                            have hdg := fun W => r12_digit (t + r) W (by omega)
                            simp only [Int.natCast_add] at hdg
                            have HD := Lib.hid hdg
                            have hst6 : Hid (T5 = (o5 ++ [pd (t + r)]) ++ encN q6 (k5 + 1) bi) := Lib.hid (by rw [hst5.out, hbig, List.append_assoc]; rfl)
                            clear hdg hr hq6 e1 e2 hst5 hbig hES hEB
                            go_wp2_with fail
                            refine (HT.out _).mono ?_; rintro e w2 ⟨rfl, rfl⟩
                            go_wp2_with fail
                            all_goals (try (exfalso; omega))
                            refine (HT.out _).mono ?_; rintro e w2 ⟨rfl, rfl⟩
                            go_wp2_with fail
                            all_goals (try (exfalso; omega))
                            refine (HD.out _).mono ?_; rintro e w2 ⟨rfl, rfl⟩
                            go_wp2_with (first | (at_builtin; refine wpList_append_own _ rfl (.tmp 114) (.tmp 124) 32 rfl (w.heap.size) 5 iB0 (.int .u8 0) 1 1 Tryz.underlying32 iB.1 iB.2.1 iB.2.2.1 iB.2.2.2 rfl (by decide) _ _ _ rfl (hown.alloc _) ⟨wr.heap.size, 0, none⟩ 1 1 [_] rfl rfl (cell_one_new _ _ _) (by intro u hu; simp at hu; subst hu; rfl) (by unfold maxLen; omega) (by omega) (by simp; omega) ?_; intro v1 w3 hown1 hgrow1 hnil1))
                            all_goals (try (exfalso; omega))
                            go_roundw
                            case rel =>
                              refine ⟨o5 ++ [pd (t + r)], q6, k5 + 1, rfl, by go_num, by omega, ?_, hst6, (hnx.alloc (by omega) _).grown hgrow1 (by simp; omega) (fun j hj => (hown.lt j hj).1)⟩
                              rw [bcells_append, List.length_append]
                              exact hown1
                            case measure => simp [intOf]; omega
                      · have g2 : decide ((p : Int) < (L : Int)) = false := decide_eq_false (by omega)
                        have g3 : ((p : Int) != (L : Int)) = true := by simp; omega
                        have hst5 : Hid (encPass L m (pts.drop (k + 1)) out dl bi dn = S) := Lib.hid (by rw [← hst4.out, hdrop.out, encPass_gt hpl])
                        clear hst4
                        go_wp2
                        all_goals (try (exfalso; omega))
                        go_roundw
                        case rel => exact ⟨out, dn, dl, bi, k + 1, rfl, rfl, rfl, by go_num, by omega, by omega, by omega, by omega, hown, hst5, hnx⟩
                        case measure => simp [intOf]; omega
                    · have hSe : (out, dl, bi, dn) = S := by rw [← hst4.out, List.drop_of_length_le (by rw [HN.out]; omega)]; rfl
                      have hnext := hes.out.next (by rw [HN.out]; exact hlt) (by rw [HN.out]; omega) HOK.out S hSN.out (by rw [← hSe]; exact hol) (by rw [← hSe]; exact hbi)
                      rw [← HMM.out, ← HLM.out, ← hSe] at hnext
                      have HNX := Lib.hid hnext
                      have hdl9 : dl + 1 ≤ 257 := hnext.small
                      have hSB2 := hSB.out
                      rw [← hSe] at hSB2
                      simp only at hSB2
                      clear hst4 hSe hnext
                      go_wp2
                      all_goals (try (exfalso; omega))
                      go_roundw
                      case rel => exact ⟨out, dn, L + 1, dl + 1, bi, rfl, by go_num, by go_num, rfl, by omega, by omega, hdl9, by omega, by omega, hown, HNX, hnx⟩
                      case measure => simp [intOf]; omega
            · have hend : Hid (R = out) := Lib.hid (hes.out.fin (by rw [HN.out]; omega))
              have hcv := string_of_row (P := Tryz.prog) (Row.owned hown) (src := 32) (dst := 9) Tryz.underlying32 Tryz.underlying5 Tryz.underlying9
              clear hes
              go_wp2
              all_goals (try (exfalso; omega))
              go_ret2
              exact ⟨⟨_, _, rfl, .inl ⟨rfl, by rw [HR.out, hend.out, un_mk]⟩⟩, hnx⟩
end Go.Proofs.YtjbciamhhfcdoaaGreatDoor
