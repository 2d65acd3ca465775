/- The walks of the library's Split at a dot and of parts of ipv4. Conditions: strings are of bounded length; the library's tables stand. -/
import Derived.Test.YtblcgicgbindlaaDoorIpv4N
import Derived.Test.YtblcgicgbindlaaDoorPlainIpv4P
import Derived.Test.YtblcgicgbindlaaDoorTab
import Derived.Lib.SplitLaws
namespace Go.Proofs.YtblcgicgbindlaaDoor
open Go.RowKit Hs
set_option linter.unusedSimpArgs false
set_option linter.unusedVariables false

/-- What the walks ask of memory: the library's table and its variable. -/
def Base (w : World) : Prop := Tab w ∧ ∃ m, w.cell? ⟨0, 0, none⟩ = some (.int .i64 m)
theorem Base.below {w w' : World} (h : Base w) (hb : Below w.heap.size w w') : Base w' := by
  obtain ⟨h1, m, h2⟩ := h
  exact ⟨h1.below hb, m, ((bcell hb).1 0 0 (World.block_lt_of_cell? w _ h2)).trans h2⟩
theorem lib_split (s : ByteArray) (w : World) (hB : Base w) (hs : s.size ≤ 100000000) : Calls Tryd.prog 29 #[.string s, .string ⟨#[46]⟩] w fun e w' => ∃ v, e = .returned v ∧ Strs w' v (splitD 46 (un s)) ∧ Below w.heap.size w w' := by
  obtain ⟨_, m, hm⟩ := hB
  refine (Tryd.strings_Split s ⟨#[46]⟩ m w (by omega) hm (by decide)).mono ?_
  rintro e w' ⟨rfl, rfl⟩
  have hlen := Lib.splitB_all (⟨#[46]⟩ : ByteArray) (by decide) 0 (Lib.countB s ⟨#[46]⟩) s rfl
  have hle := Lib.count_le s.data.toList [46]
  have hmap : (Lib.splitB (⟨#[46]⟩ : ByteArray) 0 (Lib.countB s ⟨#[46]⟩) s).map un = splitD 46 (un s) := (Lib.splitB_data _ 0 _ s).trans (split_one 46 (un s))
  have hl1 := length_un s
  have hst := strs_lit w (Lib.splitB (⟨#[46]⟩ : ByteArray) 0 (Lib.countB s ⟨#[46]⟩) s) 9 (by rw [hlen]; show Lib.count s.data.toList [46] + 1 ≤ maxLen; unfold maxLen; change (s.data.toList).length = s.size at hl1; omega)
  rw [hmap, hlen] at hst
  exact ⟨_, rfl, hst, (Below.refl _ w).alloc (Nat.le_refl _) _⟩

theorem cut_strs {w : World} {A : List Bs} {x : Bs} {a : Option Addr} {n c : Nat} (h : Strs w (.slice a (n + 1) c) (A ++ [x])) (hn : A.length = n) : Strs w (.slice a n c) A := by
  subst hn
  obtain ⟨hl, a', c', hv, hn, hm, hc⟩ := h
  injection hv with e1 e2 e3
  subst e1; subst e3
  rw [List.length_append] at hn
  refine ⟨by simp, _, _, rfl, by omega, hm, ?_⟩
  rcases Nat.eq_zero_or_pos A.length with h0 | hpos
  · exact .inl h0
  · obtain ⟨b, off, rfl, hb, hcell⟩ := hc.resolve_left (by simp)
    exact .inr ⟨b, off, rfl, hb, fun j u hj => hcell j u (by rw [scells_append, List.getElem?_append_left (by have := (List.getElem?_eq_some_iff.1 hj).1; exact this)]; exact hj)⟩

set_option maxHeartbeats 800000 in
theorem i4_parts (s : ByteArray) (w : World) (hB : Base w) (hs : s.size ≤ 100000000) : Calls Tryd.prog 34 #[.string s] w fun e w' => ∃ v, e = .returned v ∧ Strs w' v (partsD (un s)) ∧ Below w.heap.size w w' := by
  have HS := Lib.hid (lib_split s w hB hs)
  go_enter Tryd.func34, Tryd.ntmps34
  go_wp2_with fail
  refine HS.out.mono ?_
  rintro e w1 ⟨v, rfl, hst, hb⟩
  clear HS
  have hpos := splitD_pos (un s)
  have hpd : Hid (partsD (un s) = if 1 < (splitD 46 (un s)).length ∧ (splitD 46 (un s)).getLast? = some [] then (splitD 46 (un s)).dropLast else splitD 46 (un s)) := Lib.hid rfl
  obtain ⟨P, hP⟩ : ∃ P, P = partsD (un s) := ⟨_, rfl⟩
  rw [← hP] at hpd
  have HP := Lib.hid hP
  clear hP
  generalize splitD 46 (un s) = L at hst hpos hpd
  rcases List.eq_nil_or_concat L with rfl | ⟨A, x, hL⟩
  · simp at hpos
  rw [List.concat_eq_append] at hL
  subst hL
  have hpd2 : Hid (P = if 1 < (A ++ [x]).length ∧ x = [] then A else A ++ [x]) := Lib.hid (by rw [hpd.out]; simp)
  clear hpd hpos
  obtain ⟨a, c, rfl, hn, hm, hc⟩ := hst.open
  unfold maxLen at hm
  obtain ⟨b, off, rfl, hb1, hcell⟩ := hc (by simp)
  obtain ⟨n, hA⟩ : ∃ n, A.length = n := ⟨_, rfl⟩
  have hlen : (A ++ [x]).length = n + 1 := by simp [hA]
  have c0 := hcell n (by rw [hlen]; omega)
  rw [List.getElem_append_right (by omega)] at c0
  simp only [hA, Nat.sub_self, List.getElem_singleton] at c0
  have hca : n + 1 ≤ c := by rw [← hlen]; exact hn
  rw [hlen] at hst ⊢
  rw [hlen] at hpd2
  have HST := Lib.hid hst
  clear hc hcell hn hst hlen
  by_cases h0 : 0 < n
  · have h0' : (0 : Int) < (n : Int) := by omega
    cases hx : x.isEmpty
    · have hfin : Hid (P = A ++ [x]) := Lib.hid (by rw [hpd2.out, if_neg (by rintro ⟨_, rfl⟩; cases hx)])
      have hx2 : (mk x).toList.isEmpty = false := by rw [toList_un, un_mk]; exact hx
      clear hpd2 hx
      go_wp2_with fail
      all_goals (try (exfalso; omega))
      go_ret
      exact ⟨_, rfl, by rw [← HP.out, hfin.out]; exact HST.out, hb⟩
    · have hfin : Hid (P = A) := Lib.hid (by rw [hpd2.out, if_pos ⟨by omega, by simpa using hx⟩])
      have hx2 : (mk x).toList.isEmpty = true := by rw [toList_un, un_mk]; exact hx
      have HC := Lib.hid (cut_strs HST.out hA)
      clear hpd2 hx
      go_wp2_with fail
      all_goals (try (exfalso; omega))
      go_ret
      exact ⟨_, rfl, by rw [← HP.out, hfin.out]; exact HC.out, hb⟩
  · obtain rfl : n = 0 := by omega
    have hfin : Hid (P = A ++ [x]) := Lib.hid (by rw [hpd2.out, if_neg (by omega)])
    clear hpd2
    go_wp2_with fail
    all_goals (try (exfalso; omega))
    go_ret
    exact ⟨_, rfl, by rw [← HP.out, hfin.out]; exact HST.out, hb⟩
end Go.Proofs.YtblcgicgbindlaaDoor
