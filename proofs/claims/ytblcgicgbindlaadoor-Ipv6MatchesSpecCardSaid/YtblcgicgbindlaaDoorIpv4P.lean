/- The walk of parts of the reference of layer 10. Conditions: strings are of bounded length. -/
import Derived.Test.YtblcgicgbindlaaDoorIpv4S
import Derived.Test.YtblcgicgbindlaaDoorSplit
import Derived.Test.YtblcgicgbindlaaDoorFromInt
import Derived.Test.YtblcgicgbindlaaDoorPlainSeconds
namespace Go.Proofs.YtblcgicgbindlaaDoor
open Go.RowKit Hs
set_option linter.unusedSimpArgs false
set_option linter.unusedVariables false

theorem r01_dots (s : ByteArray) (w : World) (hs : s.size ≤ 100000000) : Calls Tryd.prog 32 #[.string s, .int .u8 46] w fun e w' => ∃ v, e = .returned v ∧ Strs w' v (splitD 46 (un s)) ∧ Below w.heap.size w w' := by
  refine (ref01_split s 46 w hs).mono ?_
  rintro e w' ⟨v, rfl, ho, hb⟩
  exact ⟨v, rfl, Row.owned ho, hb⟩
set_option maxHeartbeats 800000 in
theorem r10_parts (s : ByteArray) (w : World) (hs : s.size ≤ 100000000) : Calls Tryd.prog 36 #[.string s] w fun e w' => ∃ v, e = .returned v ∧ Strs w' v (partsD (un s)) ∧ Below w.heap.size w w' := by
  have HS := Lib.hid (r01_dots s w hs)
  go_enter Tryd.func36, Tryd.ntmps36
  go_wp2_with fail
  refine HS.out.mono ?_
  rintro e w1 ⟨v, rfl, hst, hb⟩
  clear HS
  have hpos := splitD_pos (un s)
  have hpd : Hid (partsD (un s) = if 1 < (splitD 46 (un s)).length ∧ (splitD 46 (un s)).getLast? = some [] then (splitD 46 (un s)).dropLast else splitD 46 (un s)) := Lib.hid rfl
  obtain ⟨P, hP⟩ : ∃ P, P = partsD (un s) := ⟨_, rfl⟩
  rw [← hP] at hpd
  have HP := Lib.hid hP
  clear hP
  generalize splitD 46 (un s) = L at hst hpos hpd
  rcases List.eq_nil_or_concat L with rfl | ⟨A, x, hL⟩
  · simp at hpos
  rw [List.concat_eq_append] at hL
  subst hL
  have hpd2 : Hid (P = if 1 < (A ++ [x]).length ∧ x = [] then A else A ++ [x]) := Lib.hid (by rw [hpd.out]; simp)
  clear hpd hpos
  obtain ⟨a, c, rfl, hn, hm, hc⟩ := hst.open
  unfold maxLen at hm
  obtain ⟨b, off, rfl, hb1, hcell⟩ := hc (by simp)
  obtain ⟨n, hA⟩ : ∃ n, A.length = n := ⟨_, rfl⟩
  have hlen : (A ++ [x]).length = n + 1 := by simp [hA]
  have c0 := hcell n (by rw [hlen]; omega)
  rw [List.getElem_append_right (by omega)] at c0
  simp only [hA, Nat.sub_self, List.getElem_singleton] at c0
  have hca : n + 1 ≤ c := by rw [← hlen]; exact hn
  rw [hlen] at hst ⊢
  rw [hlen] at hpd2
  have HST := Lib.hid hst
  clear hc hcell hn hst hlen
  by_cases h0 : 0 < n
  · have h0' : (0 : Int) < (n : Int) := by omega
    cases hx : x.isEmpty
    · have hfin : Hid (P = A ++ [x]) := Lib.hid (by rw [hpd2.out, if_neg (by rintro ⟨_, rfl⟩; cases hx)])
      have hx2 : (mk x).toList.isEmpty = false := by rw [toList_un, un_mk]; exact hx
      clear hpd2 hx
      go_wp2_with fail
      all_goals (try (exfalso; omega))
      go_ret
      exact ⟨_, rfl, by rw [← HP.out, hfin.out]; exact HST.out, hb⟩
    · have hfin : Hid (P = A) := Lib.hid (by rw [hpd2.out, if_pos ⟨by omega, by simpa using hx⟩])
      have hx2 : (mk x).toList.isEmpty = true := by rw [toList_un, un_mk]; exact hx
      have HC := Lib.hid (cut_strs HST.out hA)
      clear hpd2 hx
      go_wp2_with fail
      all_goals (try (exfalso; omega))
      go_ret
      exact ⟨_, rfl, by rw [← HP.out, hfin.out]; exact HC.out, hb⟩
  · obtain rfl : n = 0 := by omega
    have hfin : Hid (P = A ++ [x]) := Lib.hid (by rw [hpd2.out, if_neg (by omega)])
    clear hpd2
    go_wp2_with fail
    all_goals (try (exfalso; omega))
    go_ret
    exact ⟨_, rfl, by rw [← HP.out, hfin.out]; exact HST.out, hb⟩
end Go.Proofs.YtblcgicgbindlaaDoor
