/- The walks of find, Value and Parse of the reference of layer 21. Conditions: lengths are bounded. -/
import Derived.Test.YtimfngfimnapoaaFieldsK
import Derived.Test.YtimfngfimnapoaaQuotedQ
import Derived.Test.YtimfngfimnapoaaAppendAt
import Derived.Deep.AppendLies
import Derived.Deep.RegionLaw
namespace Go.Proofs.Ytimfngfimnapoaa
open Go.RowKit Hs
set_option linter.unusedSimpArgs false
set_option linter.unusedVariables false

def notLf (b : UInt8) : Bool := decide (b.toNat ≠ 10)
/-- The index of the first line feed, or -1. -/
def lfIdx (l : Bs) : Int := if runLen notLf l < l.length then (runLen notLf l : Int) else -1
theorem notLf_all (a : Bs) (h : (10 : UInt8) ∉ a) : a.all notLf = true := by
  rw [List.all_eq_true]
  intro b hb
  refine decide_eq_true fun e => h ?_
  have : b = 10 := UInt8.toNat_inj.1 (by rw [e]; rfl)
  rw [← this]; exact hb
theorem lfIdx_some (a r : Bs) (h : (10 : UInt8) ∉ a) : lfIdx (a ++ 10 :: r) = (a.length : Int) := by
  unfold lfIdx
  rw [runLen_stop notLf a 10 r (notLf_all a h) (by decide), if_pos (by simp)]
theorem lfIdx_none (l : Bs) (h : (10 : UInt8) ∉ l) : lfIdx l = -1 := by
  unfold lfIdx
  rw [if_neg]
  have := (runLen_all notLf l).2 (notLf_all l h)
  omega
theorem runLen_drop (p : UInt8 → Bool) : ∀ (l : Bs) (k : Nat) (h : k < l.length), (∀ j (hj : j < k), p l[j] = true) → (p l[k] = false → runLen p l = k)
  | [], k, h, _, _ => by simp at h
  | b :: l, 0, h, _, hk => by simp at hk; simp [runLen, hk]
  | b :: l, k + 1, h, hj, hk => by
    have h0 : p b = true := by simpa using hj 0 (by omega)
    rw [runLen, if_pos h0, runLen_drop p l k (by simpa using h) (fun j h' => by simpa using hj (j + 1) (by omega)) (by simpa using hk)]

theorem r21_find (v : Value) (l : Bs) (w : World) (hv : Row w v 1 l.length (bcells l)) (hl : l.length ≤ 1000000) : Calls Try.prog 28 #[v] w fun e w' => e = .returned (.int .i64 (lfIdx l)) ∧ w = w' := by
  obtain ⟨hbl, a, cap, rfl, hn, hm, hc⟩ := hv
  unfold maxLen at hm
  have HC := Lib.hid hc
  clear hc hbl
  go_enter Try.func28, Try.ntmps28
  go_wp2
  go_loop [3] (fun i => ∃ k : Nat, i = .int .i64 k ∧ k ≤ l.length ∧ Hid (∀ j (h : j < l.length), j < k → notLf l[j] = true)) (fun i => l.length - (intOf i).toNat)
  case atStart => exact ⟨0, rfl, by omega, fun j h h0 => by omega⟩
  case round =>
    obtain ⟨k, rfl, hk, ha⟩ := hrel
    by_cases hlt : k < l.length
    · obtain ⟨b, off, rfl, hb, hcell⟩ := HC.out.resolve_left (by omega)
      have c := hcell k (.int .u8 (l[k].toNat : Int)) (by simp [bcells, List.getElem?_eq_getElem hlt])
      clear hcell
      by_cases h10 : l[k].toNat = 10
      · have h10' : ((l[k].toNat : Int) == 10) = true := by simp; omega
        have hfin : Hid (lfIdx l = (k : Int)) := by
          show _ = _
          unfold lfIdx
          have := runLen_drop notLf l k hlt (fun j hj => ha.out j (by omega) hj) (decide_eq_false (by omega))
          rw [this, if_pos hlt]
        clear h10 ha
        go_wp2
        go_ret
        exact ⟨by rw [hfin.out]; rfl, rfl⟩
      · have h10' : ((l[k].toNat : Int) == 10) = false := by simp; omega
        have hst : Hid (∀ j (h : j < l.length), j < k + 1 → notLf l[j] = true) := fun j h hj => by
          by_cases e : j = k
          · subst e; exact decide_eq_true h10
          · exact ha.out j h (by omega)
        clear h10 ha
        go_wp2
        go_round
        case rel => exact ⟨k + 1, by go_num, by omega, hst⟩
        case measure => simp [intOf]; omega
    · obtain rfl : k = l.length := by omega
      have hfin : Hid (lfIdx l = -1) := by
        refine lfIdx_none l fun hm => ?_
        obtain ⟨j, hj, e⟩ := List.getElem_of_mem hm
        have := of_decide_eq_true (ha.out j hj hj)
        rw [e] at this; exact this rfl
      clear ha
      go_wp2
      go_ret
      exact ⟨by rw [hfin.out]; rfl, rfl⟩

theorem r21_value (s : ByteArray) (w : World) (hs : s.size ≤ 100000000) : Calls Try.prog 37 #[.string s] w fun e w' => e = .returned (.bool ((un s).all isTxt && decide (trim (un s) = un s))) ∧ w = w' := by
  have hv := r_value s w hs
  cases h : (un s).all isTxt
  · rw [h] at hv
    have HV := Lib.hid hv
    clear hv h
    go_enter Try.func37, Try.ntmps37
    go_wp2_with fail
    refine HV.out.mono ?_; rintro e w' ⟨rfl, rfl⟩
    go_wp2_with fail
    go_ret
    exact ⟨rfl, rfl⟩
  · rw [h] at hv
    have HV := Lib.hid hv
    clear hv h
    go_enter Try.func37, Try.ntmps37
    go_wp2_with fail
    refine HV.out.mono ?_; rintro e w' ⟨rfl, rfl⟩
    go_wp2_with fail
    refine (ref01_trim s _ hs).mono ?_; rintro e w' ⟨rfl, rfl⟩
    go_wp2_with fail
    go_ret
    exact ⟨ret_bool (by rw [Bool.true_and, Bool.eq_iff_iff]; simp [toList_un, toList_mk']), rfl⟩

def lenOf : Value → Nat | .slice _ n _ => n | _ => 0
theorem own_slice2 {w : World} {base : Nat} {e : TypeId} {size n : Nat} {v : Value} {xs : List Value} (h : w.ownsRow base e size v n xs) : ∃ a cap, v = .slice a n cap := by
  rcases h.2 with ⟨rfl, rfl⟩ | ⟨g, cap, cur, rfl, _⟩
  · exact ⟨none, 0, rfl⟩
  · exact ⟨_, cap, rfl⟩
theorem stripCR_last (s : ByteArray) (h : 0 < s.size) (h13 : (s[s.size - 1]'(by omega)).toNat = 13) : stripCR (un s) = (un s).take (s.size - 1) := by
  have hl : (un s).getLast? = some 13 := by
    rw [List.getLast?_eq_getElem?, List.getElem?_eq_getElem (by rw [length_un]; omega)]
    have : (un s)[(un s).length - 1]'(by rw [length_un]; omega) = s[s.size - 1]'(by omega) := by simp only [length_un]; rfl
    rw [this, show s[s.size - 1]'(by omega) = 13 from UInt8.toNat_inj.1 (by rw [h13]; rfl)]
  unfold stripCR
  rw [if_pos hl, List.dropLast_eq_take, length_un]
theorem stripCR_keep (s : ByteArray) (h : 0 < s.size) (h13 : ¬ (s[s.size - 1]'(by omega)).toNat = 13) : stripCR (un s) = un s := by
  unfold stripCR
  rw [if_neg]
  intro hl
  rw [List.getLast?_eq_getElem?, List.getElem?_eq_getElem (by rw [length_un]; omega)] at hl
  have : (un s)[(un s).length - 1]'(by rw [length_un]; omega) = s[s.size - 1]'(by omega) := by simp only [length_un]; rfl
  rw [this, Option.some.injEq] at hl
  exact h13 (by rw [hl]; rfl)
theorem cells2_at (w : World) (a b : Value) (T : TypeId) (n : Nat) (hn : n = w.heap.size) : ∀ j u, [a, b][j]? = some u → (w.alloc (.cells #[a, b] T)).cell? ((⟨n, 0, none⟩ : Addr).add j) = some u := by
  subst hn
  intro j u hj
  have hadd : (⟨w.heap.size, 0, none⟩ : Addr).add j = ⟨w.heap.size, j, none⟩ := by unfold Addr.add; split <;> simp_all
  rw [hadd, World.cell?_alloc_mark]
  simpa using hj
theorem row_bytes {w : World} {bb off n c : Nat} {r : Bs} (hc : ∀ j (h : j < r.length), w.cell? ⟨bb, off + j, none⟩ = some (.int .u8 (r[j].toNat : Int))) (hn : n ≤ r.length) (hnc : n ≤ c) (hm : c ≤ maxLen) (hb : bb < w.heap.size) : Row w (.slice (some ⟨bb, off, none⟩) n c) 1 n (bcells (r.take n)) := by
  refine ⟨by simp; omega, _, _, rfl, hnc, hm, .inr ⟨bb, off, rfl, hb, fun j u hj => ?_⟩⟩
  obtain ⟨h, e⟩ := List.getElem?_eq_some_iff.1 hj
  have hjl : j < n := by simp at h; omega
  have e2 : u = .int .u8 (r[j].toNat : Int) := by rw [← e]; simp [bcells]
  rw [e2]
  exact hc j (by omega)

set_option maxRecDepth 100000 in
set_option maxHeartbeats 4000000 in
theorem r21_parse_short (v : Value) (l : Bs) (w : World) (hv : Row w v 1 l.length (bcells l)) (hl : l.length ≤ 16384) : Calls Try.prog 11 #[v] w fun e w' => ∃ u, e = .returned (.tuple #[u, .int .i64 (parseF l).2]) ∧ w'.ownsRow w.heap.size 44 2 u (parseF l).1.length (fcells (parseF l).1) ∧ Below w.heap.size w w' := by
  obtain ⟨iF0, iF⟩ := info_parts infoFld
  have hpar := parseF_short l (by omega)
  obtain ⟨R, hR⟩ : ∃ R, R = parseF l := ⟨_, rfl⟩
  rw [← hR] at hpar ⊢
  have HR := Lib.hid hpar
  clear hR hpar
  obtain ⟨hbl, a, cap, rfl, hn, hm, hc⟩ := hv
  unfold maxLen at hm
  rcases Nat.eq_zero_or_pos l.length with h0 | hpos
  · obtain rfl : l = [] := List.eq_nil_of_length_eq_zero h0
    have hfin : Hid (R = ([], 0)) := HR.out
    clear hc HR
    go_enter Try.func11, Try.ntmps11
    go_wp2
    go_loopw [0, 4] (fun b o wr => b = .slice a 0 cap ∧ o = .slice none 0 0 ∧ wr = w) (fun _ _ _ => 0)
    case atStart => exact ⟨rfl, rfl, rfl⟩
    case round =>
      obtain ⟨rfl, rfl, rfl⟩ := hrel
      go_wp2
      go_ret2
      exact ⟨_, by rw [hfin.out]; rfl, by rw [hfin.out]; exact World.ownsRow_nil _ _ _ _, Below.refl _ _⟩
  · obtain ⟨bb, off0, rfl, hbb, hcell0⟩ := hc.resolve_left (by omega)
    have hcells : ∀ j (h : j < l.length), w.cell? ⟨bb, off0 + j, none⟩ = some (.int .u8 (l[j].toNat : Int)) := fun j h => hcell0 j _ (by simp [bcells, List.getElem?_eq_getElem h])
    have HC := Lib.hid hcells
    clear hc hcell0 hcells
    have hlim : ((l.length : Int) ≤ 16384) := by omega
    go_enter Try.func11, Try.ntmps11
    go_wp2
    go_loopw [0, 4] (fun b o wr => ∃ (rest : Bs) (off c : Nat) (D : List Fld), b = .slice (some ⟨bb, off, none⟩) rest.length c ∧ rest.length ≤ c ∧ c ≤ cap ∧ rest.length ≤ l.length ∧ Hid (∀ j (h : j < rest.length), w.cell? ⟨bb, off + j, none⟩ = some (.int .u8 (rest[j].toNat : Int))) ∧
      wr.ownsRow w.heap.size 44 2 o D.length (fcells D) ∧ D.length ≤ 100 ∧ Below w.heap.size w wr ∧ Hid (runF (linesL rest) D = R)) (fun b _ _ => lenOf b)
    case atStart => exact ⟨l, off0, cap, [], rfl, hn, Nat.le_refl _, Nat.le_refl _, HC.out, World.ownsRow_nil _ _ _ _, by simp, Below.refl _ _, HR.out.symm⟩
    case round =>
      obtain ⟨rest, off, c, D, rfl, hrc, hcc, hrl, hcl, hown, hD, hnx, hrun⟩ := hrel
      obtain ⟨ao, co, rfl⟩ := own_slice2 hown
      have hsize := hnx.size
      clear HC HR
      rcases Nat.eq_zero_or_pos rest.length with hr0 | hrpos
      · obtain rfl : rest = [] := List.eq_nil_of_length_eq_zero hr0
        have hfin : Hid (R = (D, 0)) := hrun.out.symm
        clear hrun hcl
        go_wp2
        go_ret2
        exact ⟨_, by rw [hfin.out]; rfl, by rw [hfin.out]; exact hown, hnx⟩
      · rcases split_at rest 10 with ⟨aa, r, e, hna⟩ | hno
        · have hcW : ∀ j (h : j < rest.length), wr.cell? ⟨bb, off + j, none⟩ = some (.int .u8 (rest[j].toNat : Int)) := fun j h => ((bcell hnx).1 bb (off + j) hbb).trans (hcl.out j h)
          have hal : aa.length + 1 ≤ rest.length := by have := congrArg List.length e; simp at this; omega
          have hfind := r21_find (.slice (some ⟨bb, off, none⟩) rest.length c) rest wr (by have := row_bytes hcW (Nat.le_refl _) hrc (by unfold maxLen; omega) (by omega); rwa [List.take_length] at this) (by omega)
          rw [e, lfIdx_some aa r hna, ← e] at hfind
          have HF := Lib.hid hfind
          have hrw : Row wr (.slice (some ⟨bb, off, none⟩) aa.length c) 1 aa.length (bcells (rest.take aa.length)) := row_bytes hcW (by omega) (by omega) (by unfold maxLen; omega) (by omega)
          have hcv := string_of_row (P := Try.prog) hrw (src := 22) (dst := 9) Try.underlying22 Try.underlying5 Try.underlying9
          rw [show rest.take aa.length = aa from by rw [e]; simp] at hcv
          have hrlen : r.length = rest.length - (aa.length + 1) := by have := congrArg List.length e; simp at this; omega
          have HRL : Hid (rest.length - (aa.length + 1) = r.length) := hrlen.symm
          have HCR : Hid (∀ j (h : j < r.length), w.cell? ⟨bb, off + (aa.length + 1) + j, none⟩ = some (.int .u8 (r[j].toNat : Int))) := fun j h => by
            have h2 := hcl.out (aa.length + 1 + j) (by omega)
            rw [← Nat.add_assoc] at h2
            rw [h2]
            congr 4
            have h3 : rest[aa.length + 1 + j]? = some r[j] := by rw [e, List.getElem?_append_right (by omega), show aa.length + 1 + j - aa.length = j + 1 from by omega, List.getElem?_cons_succ, List.getElem?_eq_getElem h]
            rw [List.getElem?_eq_getElem (by omega)] at h3
            exact Option.some.inj h3
          have HCRE : Hid (r.length = 0 → ∀ j (h : j < r.length), w.cell? ⟨bb, off + j, none⟩ = some (.int .u8 (r[j].toNat : Int))) := fun h0 j h => by omega
          have HE := Lib.hid e
          clear hfind hcW e
          obtain ⟨s, hs⟩ : ∃ s : ByteArray, s = mk aa := ⟨_, rfl⟩
          have hus : un s = aa := by rw [hs, un_mk]
          rw [← hs] at hcv
          have hss : s.size = aa.length := by rw [hs, size_mk]
          have HUS := Lib.hid hus
          have HSS := Lib.hid hss
          clear hs hus hss hrw
          rcases Nat.eq_zero_or_pos s.size with hs0 | hspos
          · have hsE : s.toList.isEmpty = true := by rw [toList_un]; simpa using List.eq_nil_of_length_eq_zero (show (un s).length = 0 by rw [length_un]; exact hs0)
            have hfin : Hid (R = (D, 0)) := by
              have h0 : aa = [] := List.eq_nil_of_length_eq_zero (by rw [← HSS.out]; exact hs0)
              rw [← hrun.out, HE.out, linesL_end aa r hna (by rw [h0]; rfl)]; rfl
            clear hrun hs0
            go_wp2_with fail
            refine HF.out.mono ?_; rintro e w' ⟨rfl, rfl⟩
            go_wp2_with fail
            all_goals
              go_ret2
              exact ⟨_, by rw [hfin.out]; rfl, by rw [hfin.out]; exact hown, hnx⟩
          · have hsE : s.toList.isEmpty = false := by
              rw [toList_un]
              cases hq : un s with
              | nil => have := congrArg List.length hq; rw [length_un, List.length_nil] at this; omega
              | cons => rfl
            have hsb : s.size ≤ 20000 := by rw [HSS.out]; omega
            by_cases h13 : (s[s.size - 1]'(by omega)).toNat = 13
            · have h13' : (((s[s.size - 1]'(by omega)).toNat : Int) == 13) = true := by simp; omega
              obtain ⟨t, hte⟩ : ∃ t, s.extract 0 (s.size - 1) = t := ⟨_, rfl⟩
              have HUT : Hid (un t = stripCR aa) := by
                rw [← HUS.out, ← hte, extract_seg, un_mk, seg_zero]
                exact (stripCR_last s hspos h13).symm
              have htsz : t.size ≤ s.size := by rw [← hte, ByteArray.size_extract]; omega
              clear h13
              have hTb : t.size ≤ 20000 := by omega
              rcases Nat.eq_zero_or_pos t.size with ht0 | htpos
              · have htE : t.toList.isEmpty = true := by rw [toList_un]; simpa using List.eq_nil_of_length_eq_zero (show (un t).length = 0 by rw [length_un]; exact ht0)
                have hfin : Hid (R = (D, 0)) := by
                  have h0 : stripCR aa = [] := by rw [← HUT.out]; exact List.eq_nil_of_length_eq_zero (by rw [length_un]; exact ht0)
                  rw [← hrun.out, HE.out, linesL_end aa r hna h0]; rfl
                clear hrun ht0
                go_wp2_with fail
                refine HF.out.mono ?_; rintro e w' ⟨rfl, rfl⟩
                go_wp2_with fail
                all_goals
                  go_ret2
                  exact ⟨_, by rw [hfin.out]; rfl, by rw [hfin.out]; exact hown, hnx⟩
              · have htE : t.toList.isEmpty = false := by
                  rw [toList_un]
                  cases hq : un t with
                  | nil => have := congrArg List.length hq; rw [length_un, List.length_nil] at this; omega
                  | cons => rfl
                have hline : Hid (runF ((un t, true) :: linesL r) D = R) := by
                  rw [← hrun.out, HE.out, linesL_line aa r hna (by rw [← HUT.out]; intro e; have := congrArg List.length e; rw [length_un, List.length_nil] at this; omega), ← HUT.out]; rfl
                clear hrun
                by_cases h100 : D.length = 100
                · have h100' : ((D.length : Int) == 100) = true := by simp; omega
                  have hfin : Hid (R = ([], 3)) := by rw [← hline.out, runF_limit _ _ _ h100]; rfl
                  clear h100
                  go_wp2_with fail
                  refine HF.out.mono ?_; rintro e w' ⟨rfl, rfl⟩
                  go_wp2_with fail
                  all_goals
                    go_ret2
                    exact ⟨_, by rw [hfin.out]; rfl, by rw [hfin.out]; exact World.ownsRow_nil _ _ _ _, hnx⟩
                · have h100' : ((D.length : Int) == 100) = false := by simp; omega
                  have H100 := Lib.hid h100
                  clear h100
                  obtain ⟨k, hk⟩ : ∃ k, k = tokEnd (un t) 0 := ⟨_, rfl⟩
                  have hkle : k ≤ t.size := by rw [hk]; have := tokEnd_le (un t) 0 (Nat.zero_le _); rwa [length_un] at this
                  have hfo : fieldO (un t) = if 0 < k ∧ (un t)[k]? = some 58 ∧ ((un t).drop (k + 1)).all isTxt = true then some (lower ((un t).take k), trim ((un t).drop (k + 1))) else none := by rw [hk]; rfl
                  have htk := fun W => r_token t 0 W (by omega)
                  rw [← hk] at htk
                  have HTK : Hid (∀ W : World, Calls Try.prog 29 #[.string t, .int .i64 0] W fun e w' => e = .returned (.int .i64 (k : Int)) ∧ W = w') := Lib.hid htk
                  have hk1 : (0 : Int) ≤ (k : Int) + 1 := by omega
                  have HFO := Lib.hid hfo
                  clear hk hfo htk
                  rcases Nat.eq_zero_or_pos k with hk0 | hkpos
                  · have hk0' : ((k : Int) == 0) = true := by simp; omega
                    have hfin : Hid (R = ([], 4)) := by rw [← hline.out, runF_syntax _ _ _ H100.out (by rw [HFO.out, if_neg (by omega)])]; rfl
                    clear hk0
                    go_wp2_with fail
                    refine HF.out.mono ?_; rintro e w' ⟨rfl, rfl⟩
                    go_wp2_with fail
                    all_goals refine (HTK.out _).mono ?_; rintro e w' ⟨rfl, rfl⟩
                    all_goals go_wp2_with fail
                    all_goals
                      go_ret2
                      exact ⟨_, by rw [hfin.out]; rfl, by rw [hfin.out]; exact World.ownsRow_nil _ _ _ _, hnx⟩
                  · have hk0' : ((k : Int) == 0) = false := by simp; omega
                    by_cases hkl : k = t.size
                    · have hkl' : ((k : Int) == (t.size : Int)) = true := by simp; omega
                      have hfin : Hid (R = ([], 4)) := by rw [← hline.out, runF_syntax _ _ _ H100.out (by rw [HFO.out, if_neg (by rw [List.getElem?_eq_none (by rw [length_un]; omega)]; simp)])]; rfl
                      clear hkl
                      go_wp2_with fail
                      refine HF.out.mono ?_; rintro e w' ⟨rfl, rfl⟩
                      go_wp2_with fail
                      all_goals refine (HTK.out _).mono ?_; rintro e w' ⟨rfl, rfl⟩
                      all_goals go_wp2_with fail
                      all_goals
                        go_ret2
                        exact ⟨_, by rw [hfin.out]; rfl, by rw [hfin.out]; exact World.ownsRow_nil _ _ _ _, hnx⟩
                    · have hkl' : ((k : Int) == (t.size : Int)) = false := by simp; omega
                      have hklt : k < t.size := by omega
                      have hk3 : ¬ ((t.size : Int) < (k : Int) + 1) := by omega
                      have hget : (un t)[k]? = some (t[k]'hklt) := List.getElem?_eq_getElem (by rw [length_un]; exact hklt)
                      have HGET := Lib.hid hget
                      clear hget hkl
                      by_cases h58 : (t[k]'hklt).toNat = 58
                      · have h58' : (((t[k]'hklt).toNat : Int) != 58) = false := by simp; omega
                        have h58e : Hid ((un t)[k]? = some 58) := by rw [HGET.out, show t[k]'hklt = 58 from UInt8.toNat_inj.1 (by rw [h58]; rfl)]; rfl
                        clear h58
                        have hex2 : un (t.extract (k + 1) t.size) = (un t).drop (k + 1) := by rw [extract_seg, un_mk, ← length_un, seg_full]
                        have hex1 : un (t.extract 0 k) = (un t).take k := by rw [extract_seg, un_mk, seg_zero]
                        have hva := fun W => r_value (t.extract (k + 1) t.size) W (by rw [ByteArray.size_extract]; omega)
                        rw [hex2] at hva
                        cases hval : ((un t).drop (k + 1)).all isTxt
                        · rw [hval] at hva
                          have HVA := Lib.hid hva
                          have hfin : Hid (R = ([], 4)) := by rw [← hline.out, runF_syntax _ _ _ H100.out (by rw [HFO.out, if_neg (by rw [hval]; simp)])]; rfl
                          clear hva hval hex1 hex2
                          go_wp2_with fail
                          refine HF.out.mono ?_; rintro e w' ⟨rfl, rfl⟩
                          go_wp2_with fail
                          all_goals refine (HTK.out _).mono ?_; rintro e w' ⟨rfl, rfl⟩
                          all_goals go_wp2_with fail
                          all_goals refine (HVA.out _).mono ?_; rintro e w' ⟨rfl, rfl⟩
                          all_goals go_wp2_with fail
                          all_goals
                            go_ret2
                            exact ⟨_, by rw [hfin.out]; rfl, by rw [hfin.out]; exact World.ownsRow_nil _ _ _ _, hnx⟩
                        · rw [hval] at hva
                          have HVA := Lib.hid hva
                          have hnext : Hid (runF (linesL r) (D ++ [(lower ((un t).take k), trim ((un t).drop (k + 1)))]) = R) := by rw [← hline.out, runF_field _ _ _ _ H100.out (by rw [HFO.out, if_pos ⟨hkpos, h58e.out, hval⟩])]; rfl
                          have hLow := fun W => ref01_lower (t.extract 0 k) W (by rw [ByteArray.size_extract]; omega)
                          have hTrm := fun W => ref01_trim (t.extract (k + 1) t.size) W (by rw [ByteArray.size_extract]; omega)
                          simp only [hex1] at hLow
                          simp only [hex2] at hTrm
                          have HLow := Lib.hid hLow
                          have HTrm := Lib.hid hTrm
                          clear hva hval hex1 hex2 hLow hTrm hline
                          obtain ⟨nm, hnm⟩ : ∃ nm, nm = lower ((un t).take k) := ⟨_, rfl⟩
                          obtain ⟨vl, hvl⟩ : ∃ vl, vl = trim ((un t).drop (k + 1)) := ⟨_, rfl⟩
                          rw [← hnm, ← hvl] at hnext
                          rw [← hnm] at HLow
                          rw [← hvl] at HTrm
                          clear hnm hvl
                          go_wp2_with fail
                          refine HF.out.mono ?_; rintro e w' ⟨rfl, rfl⟩
                          go_wp2_with fail
                          all_goals refine (HTK.out _).mono ?_; rintro e w' ⟨rfl, rfl⟩
                          all_goals go_wp2_with fail
                          all_goals refine (HVA.out _).mono ?_; rintro e w' ⟨rfl, rfl⟩
                          all_goals go_wp2_with fail
                          all_goals
                            refine wp_region_any (by kernel_rfl) ?_
                            refine wpAny_take (i := 0) (v := .slice ao D.length co) rfl (by kernel_rfl) (by kernel_rfl) (by kernel_rfl) (fun _ _ _ h => h) (Or.inl ⟨by rfl, by intro w; go_simp; all_goals (try (rw [IntKind.wrap_i64]; omega))⟩) ?_
                            refine wpAny_take (i := 1) (v := .string t) rfl (by kernel_rfl) (by kernel_rfl) (by kernel_rfl) (fun _ _ _ h => h) (Or.inl ⟨by rfl, by intro w; go_simp; all_goals (try (rw [IntKind.wrap_i64]; omega))⟩) ?_
                            refine wpAny_take (i := 2) (v := .int .i64 (k : Int)) rfl (by kernel_rfl) (by kernel_rfl) (by kernel_rfl) (fun _ _ _ h => h) (Or.inl ⟨by rfl, by intro w; go_simp; all_goals (try (rw [IntKind.wrap_i64]; omega))⟩) ?_
                            refine wpAny_take (i := 3) (v := .string (t.extract 0 k)) rfl (by kernel_rfl) (by kernel_rfl) (by kernel_rfl) (fun _ _ _ h => h) (Or.inl ⟨by rfl, by intro w; go_simp; all_goals (try (rw [IntKind.wrap_i64]; omega))⟩) ?_
                            refine wpAny_take (i := 5) (v := .string t) rfl (by kernel_rfl) (by kernel_rfl) (by kernel_rfl) (fun _ _ _ h => h) (Or.inl ⟨by rfl, by intro w; go_simp; all_goals (try (rw [IntKind.wrap_i64]; omega))⟩) ?_
                            refine wpAny_take (i := 6) (v := .int .i64 (k : Int)) rfl (by kernel_rfl) (by kernel_rfl) (by kernel_rfl) (fun _ _ _ h => h) (Or.inl ⟨by rfl, by intro w; go_simp; all_goals (try (rw [IntKind.wrap_i64]; omega))⟩) ?_
                            refine wpAny_take (i := 7) (v := .int .i64 ((k : Int) + 1)) rfl (by kernel_rfl) (by kernel_rfl) (by kernel_rfl) (fun _ _ _ h => h) (Or.inl ⟨by rfl, by intro w; go_simp; all_goals (try (rw [IntKind.wrap_i64]; omega))⟩) ?_
                            refine wpAny_take (i := 8) (v := .string (t.extract (k + 1) t.size)) rfl (by kernel_rfl) (by kernel_rfl) (by kernel_rfl) (fun _ _ _ h => h) (Or.inl ⟨by rfl, by intro w; go_simp; all_goals (try (rw [IntKind.wrap_i64]; omega))⟩) ?_
                            refine wpAny_ready (rs := [4]) (by kernel_rfl) (by simp) ?_
                            refine AllReady.cons rfl (fun K hK => ?_) AllReady.nil
                            go_simp
                            refine (HLow.out _).mono ?_; rintro e w2 ⟨rfl, hb2⟩
                            refine hK _ _ ?_; clear hK K
                            refine wpAny_ready (rs := [9]) (by kernel_rfl) (by simp) ?_
                            refine AllReady.cons rfl (fun K hK => ?_) AllReady.nil
                            go_simp
                            refine (HTrm.out _).mono ?_; rintro e w' ⟨rfl, rfl⟩
                            refine hK _ _ ?_; clear hK K
                            refine wpAny_take (i := 10) (v := .agg #[.string (mk nm), .string (mk vl)]) rfl (by kernel_rfl) (by kernel_rfl) (by kernel_rfl) (fun _ _ _ h => h) (Or.inl ⟨by rfl, by intro w; go_simp⟩) ?_
                            refine wpAny_ready (rs := [11]) (by kernel_rfl) (by simp) ?_
                            refine AllReady.cons rfl (fun K hK => ?_) AllReady.nil
                            go_simp
                            refine hK _ _ ?_; clear hK K
                            have hg2 : wr.grownBy w2 none := ⟨hb2.os, hb2.tape, hb2.output, hb2.size, fun k hk _ => hb2.block k hk⟩
                            have hown2 := hown.kept hg2 (by cases hv : (Value.slice ao D.length co).ownBlock <;> simp)
                            have hsz2 := hg2.size
                            refine wpAny_ready (rs := [12]) (by kernel_rfl) (by simp) ?_
                            refine AllReady.cons rfl (fun K hK => ?_) AllReady.nil
                            refine step_append_lies _ rfl (.tmp 70) (.tmp 81) 25 rfl w.heap.size 44 iF0 (.agg #[.string ⟨#[]⟩, .string ⟨#[]⟩]) 2 32 Try.underlying25 iF.1 iF.2.1 iF.2.2.1 iF.2.2.2 rfl (by decide) _ _ _ rfl (hown2.alloc _) ⟨w2.heap.size, 0, none⟩ 1 1 [.string (mk nm), .string (mk vl)] rfl rfl (cells2_at _ _ _ _ _ rfl) (by intro u hu; simp at hu; rcases hu with rfl | rfl <;> rfl) (by omega) (by unfold maxLen; omega) (by omega) (by simp; omega) _ rfl ?_
                            intro g cap5 w5 hown5 hgrow5 hat5 hlt5
                            refine hK _ _ ?_; clear hK K
                            refine wpAny_ready (rs := [13]) (by kernel_rfl) (by simp) ?_
                            refine AllReady.cons rfl (fun K hK => ?_) AllReady.nil
                            go_simp
                            refine hK _ _ ?_; clear hK K
                            refine wpAny_done (by kernel_rfl) ?_ _
                            go_wp2_with fail
                            go_roundw
                            case rel =>
                              refine ⟨r, _, _, D ++ [(nm, vl)], by rw [HRL.out], by omega, by omega, by omega, ?_, ?_, by have := H100.out; simp; omega, (((hnx.grown hg2 (by omega) (fun j hj => by cases hj)).alloc (by omega) _).grown hgrow5 (by simp; omega) (fun j hj => (hown2.lt j hj).1)), hnext⟩
                              · first | exact HCR.out | exact HCRE.out (by omega)
                              · rw [List.length_append, ← fcells_snoc]; exact hown5
                            case measure => simp only [lenOf]; omega
                      · have h58' : (((t[k]'hklt).toNat : Int) != 58) = true := by simp; omega
                        have hfin : Hid (R = ([], 4)) := by rw [← hline.out, runF_syntax _ _ _ H100.out (by rw [HFO.out, if_neg (by rw [HGET.out]; intro h; have := h.2.1; simp only [Option.some.injEq] at this; exact h58 (by rw [this]; rfl))])]; rfl
                        clear h58
                        go_wp2_with fail
                        refine HF.out.mono ?_; rintro e w' ⟨rfl, rfl⟩
                        go_wp2_with fail
                        all_goals refine (HTK.out _).mono ?_; rintro e w' ⟨rfl, rfl⟩
                        all_goals go_wp2_with fail
                        all_goals
                          go_ret2
                          exact ⟨_, by rw [hfin.out]; rfl, by rw [hfin.out]; exact World.ownsRow_nil _ _ _ _, hnx⟩
            · have h13' : (((s[s.size - 1]'(by omega)).toNat : Int) == 13) = false := by simp; omega
              have HUT : Hid (un s = stripCR aa) := by
                rw [← HUS.out]
                exact (stripCR_keep s hspos h13).symm
              clear h13
              have hTb : s.size ≤ 20000 := by omega
              · have htE := hsE
                have htpos := hspos
                have hline : Hid (runF ((un s, true) :: linesL r) D = R) := by
                  rw [← hrun.out, HE.out, linesL_line aa r hna (by rw [← HUT.out]; intro e; have := congrArg List.length e; rw [length_un, List.length_nil] at this; omega), ← HUT.out]; rfl
                clear hrun
                by_cases h100 : D.length = 100
                · have h100' : ((D.length : Int) == 100) = true := by simp; omega
                  have hfin : Hid (R = ([], 3)) := by rw [← hline.out, runF_limit _ _ _ h100]; rfl
                  clear h100
                  go_wp2_with fail
                  refine HF.out.mono ?_; rintro e w' ⟨rfl, rfl⟩
                  go_wp2_with fail
                  all_goals
                    go_ret2
                    exact ⟨_, by rw [hfin.out]; rfl, by rw [hfin.out]; exact World.ownsRow_nil _ _ _ _, hnx⟩
                · have h100' : ((D.length : Int) == 100) = false := by simp; omega
                  have H100 := Lib.hid h100
                  clear h100
                  obtain ⟨k, hk⟩ : ∃ k, k = tokEnd (un s) 0 := ⟨_, rfl⟩
                  have hkle : k ≤ s.size := by rw [hk]; have := tokEnd_le (un s) 0 (Nat.zero_le _); rwa [length_un] at this
                  have hfo : fieldO (un s) = if 0 < k ∧ (un s)[k]? = some 58 ∧ ((un s).drop (k + 1)).all isTxt = true then some (lower ((un s).take k), trim ((un s).drop (k + 1))) else none := by rw [hk]; rfl
                  have htk := fun W => r_token s 0 W (by omega)
                  rw [← hk] at htk
                  have HTK : Hid (∀ W : World, Calls Try.prog 29 #[.string s, .int .i64 0] W fun e w' => e = .returned (.int .i64 (k : Int)) ∧ W = w') := Lib.hid htk
                  have hk1 : (0 : Int) ≤ (k : Int) + 1 := by omega
                  have HFO := Lib.hid hfo
                  clear hk hfo htk
                  rcases Nat.eq_zero_or_pos k with hk0 | hkpos
                  · have hk0' : ((k : Int) == 0) = true := by simp; omega
                    have hfin : Hid (R = ([], 4)) := by rw [← hline.out, runF_syntax _ _ _ H100.out (by rw [HFO.out, if_neg (by omega)])]; rfl
                    clear hk0
                    go_wp2_with fail
                    refine HF.out.mono ?_; rintro e w' ⟨rfl, rfl⟩
                    go_wp2_with fail
                    all_goals refine (HTK.out _).mono ?_; rintro e w' ⟨rfl, rfl⟩
                    all_goals go_wp2_with fail
                    all_goals
                      go_ret2
                      exact ⟨_, by rw [hfin.out]; rfl, by rw [hfin.out]; exact World.ownsRow_nil _ _ _ _, hnx⟩
                  · have hk0' : ((k : Int) == 0) = false := by simp; omega
                    by_cases hkl : k = s.size
                    · have hkl' : ((k : Int) == (s.size : Int)) = true := by simp; omega
                      have hfin : Hid (R = ([], 4)) := by rw [← hline.out, runF_syntax _ _ _ H100.out (by rw [HFO.out, if_neg (by rw [List.getElem?_eq_none (by rw [length_un]; omega)]; simp)])]; rfl
                      clear hkl
                      go_wp2_with fail
                      refine HF.out.mono ?_; rintro e w' ⟨rfl, rfl⟩
                      go_wp2_with fail
                      all_goals refine (HTK.out _).mono ?_; rintro e w' ⟨rfl, rfl⟩
                      all_goals go_wp2_with fail
                      all_goals
                        go_ret2
                        exact ⟨_, by rw [hfin.out]; rfl, by rw [hfin.out]; exact World.ownsRow_nil _ _ _ _, hnx⟩
                    · have hkl' : ((k : Int) == (s.size : Int)) = false := by simp; omega
                      have hklt : k < s.size := by omega
                      have hk3 : ¬ ((s.size : Int) < (k : Int) + 1) := by omega
                      have hget : (un s)[k]? = some (s[k]'hklt) := List.getElem?_eq_getElem (by rw [length_un]; exact hklt)
                      have HGET := Lib.hid hget
                      clear hget hkl
                      by_cases h58 : (s[k]'hklt).toNat = 58
                      · have h58' : (((s[k]'hklt).toNat : Int) != 58) = false := by simp; omega
                        have h58e : Hid ((un s)[k]? = some 58) := by rw [HGET.out, show s[k]'hklt = 58 from UInt8.toNat_inj.1 (by rw [h58]; rfl)]; rfl
                        clear h58
                        have hex2 : un (s.extract (k + 1) s.size) = (un s).drop (k + 1) := by rw [extract_seg, un_mk, ← length_un, seg_full]
                        have hex1 : un (s.extract 0 k) = (un s).take k := by rw [extract_seg, un_mk, seg_zero]
                        have hva := fun W => r_value (s.extract (k + 1) s.size) W (by rw [ByteArray.size_extract]; omega)
                        rw [hex2] at hva
                        cases hval : ((un s).drop (k + 1)).all isTxt
                        · rw [hval] at hva
                          have HVA := Lib.hid hva
                          have hfin : Hid (R = ([], 4)) := by rw [← hline.out, runF_syntax _ _ _ H100.out (by rw [HFO.out, if_neg (by rw [hval]; simp)])]; rfl
                          clear hva hval hex1 hex2
                          go_wp2_with fail
                          refine HF.out.mono ?_; rintro e w' ⟨rfl, rfl⟩
                          go_wp2_with fail
                          all_goals refine (HTK.out _).mono ?_; rintro e w' ⟨rfl, rfl⟩
                          all_goals go_wp2_with fail
                          all_goals refine (HVA.out _).mono ?_; rintro e w' ⟨rfl, rfl⟩
                          all_goals go_wp2_with fail
                          all_goals
                            go_ret2
                            exact ⟨_, by rw [hfin.out]; rfl, by rw [hfin.out]; exact World.ownsRow_nil _ _ _ _, hnx⟩
                        · rw [hval] at hva
                          have HVA := Lib.hid hva
                          have hnext : Hid (runF (linesL r) (D ++ [(lower ((un s).take k), trim ((un s).drop (k + 1)))]) = R) := by rw [← hline.out, runF_field _ _ _ _ H100.out (by rw [HFO.out, if_pos ⟨hkpos, h58e.out, hval⟩])]; rfl
                          have hLow := fun W => ref01_lower (s.extract 0 k) W (by rw [ByteArray.size_extract]; omega)
                          have hTrm := fun W => ref01_trim (s.extract (k + 1) s.size) W (by rw [ByteArray.size_extract]; omega)
                          simp only [hex1] at hLow
                          simp only [hex2] at hTrm
                          have HLow := Lib.hid hLow
                          have HTrm := Lib.hid hTrm
                          clear hva hval hex1 hex2 hLow hTrm hline
                          obtain ⟨nm, hnm⟩ : ∃ nm, nm = lower ((un s).take k) := ⟨_, rfl⟩
                          obtain ⟨vl, hvl⟩ : ∃ vl, vl = trim ((un s).drop (k + 1)) := ⟨_, rfl⟩
                          rw [← hnm, ← hvl] at hnext
                          rw [← hnm] at HLow
                          rw [← hvl] at HTrm
                          clear hnm hvl
                          go_wp2_with fail
                          refine HF.out.mono ?_; rintro e w' ⟨rfl, rfl⟩
                          go_wp2_with fail
                          all_goals refine (HTK.out _).mono ?_; rintro e w' ⟨rfl, rfl⟩
                          all_goals go_wp2_with fail
                          all_goals refine (HVA.out _).mono ?_; rintro e w' ⟨rfl, rfl⟩
                          all_goals go_wp2_with fail
                          all_goals
                            refine wp_region_any (by kernel_rfl) ?_
                            refine wpAny_take (i := 0) (v := .slice ao D.length co) rfl (by kernel_rfl) (by kernel_rfl) (by kernel_rfl) (fun _ _ _ h => h) (Or.inl ⟨by rfl, by intro w; go_simp; all_goals (try (rw [IntKind.wrap_i64]; omega))⟩) ?_
                            refine wpAny_take (i := 1) (v := .string s) rfl (by kernel_rfl) (by kernel_rfl) (by kernel_rfl) (fun _ _ _ h => h) (Or.inl ⟨by rfl, by intro w; go_simp; all_goals (try (rw [IntKind.wrap_i64]; omega))⟩) ?_
                            refine wpAny_take (i := 2) (v := .int .i64 (k : Int)) rfl (by kernel_rfl) (by kernel_rfl) (by kernel_rfl) (fun _ _ _ h => h) (Or.inl ⟨by rfl, by intro w; go_simp; all_goals (try (rw [IntKind.wrap_i64]; omega))⟩) ?_
                            refine wpAny_take (i := 3) (v := .string (s.extract 0 k)) rfl (by kernel_rfl) (by kernel_rfl) (by kernel_rfl) (fun _ _ _ h => h) (Or.inl ⟨by rfl, by intro w; go_simp; all_goals (try (rw [IntKind.wrap_i64]; omega))⟩) ?_
                            refine wpAny_take (i := 5) (v := .string s) rfl (by kernel_rfl) (by kernel_rfl) (by kernel_rfl) (fun _ _ _ h => h) (Or.inl ⟨by rfl, by intro w; go_simp; all_goals (try (rw [IntKind.wrap_i64]; omega))⟩) ?_
                            refine wpAny_take (i := 6) (v := .int .i64 (k : Int)) rfl (by kernel_rfl) (by kernel_rfl) (by kernel_rfl) (fun _ _ _ h => h) (Or.inl ⟨by rfl, by intro w; go_simp; all_goals (try (rw [IntKind.wrap_i64]; omega))⟩) ?_
                            refine wpAny_take (i := 7) (v := .int .i64 ((k : Int) + 1)) rfl (by kernel_rfl) (by kernel_rfl) (by kernel_rfl) (fun _ _ _ h => h) (Or.inl ⟨by rfl, by intro w; go_simp; all_goals (try (rw [IntKind.wrap_i64]; omega))⟩) ?_
                            refine wpAny_take (i := 8) (v := .string (s.extract (k + 1) s.size)) rfl (by kernel_rfl) (by kernel_rfl) (by kernel_rfl) (fun _ _ _ h => h) (Or.inl ⟨by rfl, by intro w; go_simp; all_goals (try (rw [IntKind.wrap_i64]; omega))⟩) ?_
                            refine wpAny_ready (rs := [4]) (by kernel_rfl) (by simp) ?_
                            refine AllReady.cons rfl (fun K hK => ?_) AllReady.nil
                            go_simp
                            refine (HLow.out _).mono ?_; rintro e w2 ⟨rfl, hb2⟩
                            refine hK _ _ ?_; clear hK K
                            refine wpAny_ready (rs := [9]) (by kernel_rfl) (by simp) ?_
                            refine AllReady.cons rfl (fun K hK => ?_) AllReady.nil
                            go_simp
                            refine (HTrm.out _).mono ?_; rintro e w' ⟨rfl, rfl⟩
                            refine hK _ _ ?_; clear hK K
                            refine wpAny_take (i := 10) (v := .agg #[.string (mk nm), .string (mk vl)]) rfl (by kernel_rfl) (by kernel_rfl) (by kernel_rfl) (fun _ _ _ h => h) (Or.inl ⟨by rfl, by intro w; go_simp⟩) ?_
                            refine wpAny_ready (rs := [11]) (by kernel_rfl) (by simp) ?_
                            refine AllReady.cons rfl (fun K hK => ?_) AllReady.nil
                            go_simp
                            refine hK _ _ ?_; clear hK K
                            have hg2 : wr.grownBy w2 none := ⟨hb2.os, hb2.tape, hb2.output, hb2.size, fun k hk _ => hb2.block k hk⟩
                            have hown2 := hown.kept hg2 (by cases hv : (Value.slice ao D.length co).ownBlock <;> simp)
                            have hsz2 := hg2.size
                            refine wpAny_ready (rs := [12]) (by kernel_rfl) (by simp) ?_
                            refine AllReady.cons rfl (fun K hK => ?_) AllReady.nil
                            refine step_append_lies _ rfl (.tmp 70) (.tmp 81) 25 rfl w.heap.size 44 iF0 (.agg #[.string ⟨#[]⟩, .string ⟨#[]⟩]) 2 32 Try.underlying25 iF.1 iF.2.1 iF.2.2.1 iF.2.2.2 rfl (by decide) _ _ _ rfl (hown2.alloc _) ⟨w2.heap.size, 0, none⟩ 1 1 [.string (mk nm), .string (mk vl)] rfl rfl (cells2_at _ _ _ _ _ rfl) (by intro u hu; simp at hu; rcases hu with rfl | rfl <;> rfl) (by omega) (by unfold maxLen; omega) (by omega) (by simp; omega) _ rfl ?_
                            intro g cap5 w5 hown5 hgrow5 hat5 hlt5
                            refine hK _ _ ?_; clear hK K
                            refine wpAny_ready (rs := [13]) (by kernel_rfl) (by simp) ?_
                            refine AllReady.cons rfl (fun K hK => ?_) AllReady.nil
                            go_simp
                            refine hK _ _ ?_; clear hK K
                            refine wpAny_done (by kernel_rfl) ?_ _
                            go_wp2_with fail
                            go_roundw
                            case rel =>
                              refine ⟨r, _, _, D ++ [(nm, vl)], by rw [HRL.out], by omega, by omega, by omega, ?_, ?_, by have := H100.out; simp; omega, (((hnx.grown hg2 (by omega) (fun j hj => by cases hj)).alloc (by omega) _).grown hgrow5 (by simp; omega) (fun j hj => (hown2.lt j hj).1)), hnext⟩
                              · first | exact HCR.out | exact HCRE.out (by omega)
                              · rw [List.length_append, ← fcells_snoc]; exact hown5
                            case measure => simp only [lenOf]; omega
                      · have h58' : (((s[k]'hklt).toNat : Int) != 58) = true := by simp; omega
                        have hfin : Hid (R = ([], 4)) := by rw [← hline.out, runF_syntax _ _ _ H100.out (by rw [HFO.out, if_neg (by rw [HGET.out]; intro h; have := h.2.1; simp only [Option.some.injEq] at this; exact h58 (by rw [this]; rfl))])]; rfl
                        clear h58
                        go_wp2_with fail
                        refine HF.out.mono ?_; rintro e w' ⟨rfl, rfl⟩
                        go_wp2_with fail
                        all_goals refine (HTK.out _).mono ?_; rintro e w' ⟨rfl, rfl⟩
                        all_goals go_wp2_with fail
                        all_goals
                          go_ret2
                          exact ⟨_, by rw [hfin.out]; rfl, by rw [hfin.out]; exact World.ownsRow_nil _ _ _ _, hnx⟩
        · have hf := lfIdx_none rest hno
          have hfin : Hid (R = ([], 5)) := by rw [← hrun.out, linesL_last rest hno (by intro e; rw [e] at hrpos; simp at hrpos), runF_trunc]; rfl
          have hfind := r21_find (.slice (some ⟨bb, off, none⟩) rest.length c) rest wr ⟨by simp, _, _, rfl, hrc, by unfold maxLen; omega, .inr ⟨bb, off, rfl, by omega, fun j u hj => by
            obtain ⟨h, e⟩ := List.getElem?_eq_some_iff.1 hj
            have hjl : j < rest.length := by simpa using h
            have e2 : u = .int .u8 (rest[j].toNat : Int) := by rw [← e]; simp [bcells]
            rw [e2]
            exact ((bcell hnx).1 bb (off + j) hbb).trans (hcl.out j hjl)⟩⟩ (by omega)
          rw [hf] at hfind
          have HF := Lib.hid hfind
          clear hfind hf hno hrun hcl
          go_wp2_with fail
          refine HF.out.mono ?_; rintro e w' ⟨rfl, rfl⟩
          go_wp2_with fail
          go_ret2
          exact ⟨_, by rw [hfin.out]; rfl, by rw [hfin.out]; exact World.ownsRow_nil _ _ _ _, hnx⟩
end Go.Proofs.Ytimfngfimnapoaa
