/- The walks of the laws of layer 18 on lists (directive): each returns true; memory that existed is unchanged. Conditions: none. -/
import Derived.Test.YtjdkmidajhbefaaLaw18
import Derived.Test.YtjdkmidajhbefaaPlainDirM
import Derived.Test.YtjdkmidajhbefaaLater
namespace Go.Proofs.Ytjdkmidajhbefaa
open Go.RowKit Hs
set_option linter.unusedSimpArgs false
set_option linter.unusedVariables false

/-- Whether a list of directives is small. -/
def smallD (l : List Dir) : Bool := decide (l.length ≤ 40) && l.all (fun d => decide (d.1.length ≤ 1000) && decide (d.2.1.length ≤ 1000))
theorem smallD_yes (l : List Dir) (h : smallD l = true) : l.length ≤ 40 ∧ ∀ d ∈ l, d.1.length ≤ 10000 ∧ d.2.1.length ≤ 10000 := by
  unfold smallD at h
  rw [Bool.and_eq_true, decide_eq_true_eq, List.all_eq_true] at h
  refine ⟨h.1, fun d hd => ?_⟩
  have := h.2 d hd
  rw [Bool.and_eq_true, decide_eq_true_eq, decide_eq_true_eq] at this
  omega

set_option maxHeartbeats 2000000 in
theorem l18_small (v : Value) (l : List Dir) (w : World) (hv : Dirs w v l) (hs : ∀ d ∈ l, d.1.length ≤ maxLen ∧ d.2.1.length ≤ maxLen) : Calls Try.prog 35 #[v] w fun e w' => e = .returned (.bool (smallD l)) ∧ Below w.heap.size w w' := by
  obtain ⟨a, cap, rfl, hn, hm, hc⟩ := hv.open
  unfold maxLen at hm
  have HC := Lib.hid hc
  have HS := Lib.hid hs
  clear hc hv hs
  by_cases h40 : l.length ≤ 40
  · have hsm : Hid (smallD l = l.all (fun d => decide (d.1.length ≤ 1000) && decide (d.2.1.length ≤ 1000))) := Lib.hid (by unfold smallD; rw [decide_eq_true h40, Bool.true_and])
    go_enter Try.func35, Try.ntmps35
    go_wp2
    go_loopw [3] (fun i wr => ∃ k : Nat, i = .int .i64 k ∧ k ≤ l.length ∧ Below w.heap.size w wr ∧ Hid (smallD l = (l.drop k).all (fun d => decide (d.1.length ≤ 1000) && decide (d.2.1.length ≤ 1000)))) (fun i _ => l.length - (intOf i).toNat)
    case atStart => exact ⟨0, rfl, by omega, Below.refl _ _, hsm⟩
    case round =>
      obtain ⟨k, rfl, hk, hnx, ha⟩ := hrel
      by_cases hlt : k < l.length
      · obtain ⟨b, off, rfl, hb1, hcell⟩ := HC.out (by omega)
        obtain ⟨x0, x1, x2⟩ := hcell k hlt
        have c0 := (hnx.cell (p := ⟨b, off + k * 3, none⟩) hb1).trans x0
        have c1 := (hnx.cell (p := ⟨b, off + k * 3 + 1, none⟩) hb1).trans x1
        have hsz := HS.out l[k] (List.getElem_mem hlt)
        have hst : Hid (smallD l = ((decide (l[k].1.length ≤ 1000) && decide (l[k].2.1.length ≤ 1000)) && (l.drop (k + 1)).all (fun d => decide (d.1.length ≤ 1000) && decide (d.2.1.length ≤ 1000)))) := by
          have e := ha.out
          rw [List.drop_eq_getElem_cons hlt, List.all_cons] at e
          exact e
        clear hcell x0 x1 x2 ha
        obtain ⟨x, hx⟩ : ∃ x, x = l[k] := ⟨_, rfl⟩
        rw [← hx] at c0 c1 hsz hst
        clear hx
        obtain ⟨n, z, t⟩ := x
        simp only at c0 c1 hsz hst
        obtain ⟨bb, hbb⟩ : ∃ bb, bb = (decide (n.length ≤ 1000) && decide (z.length ≤ 1000)) := ⟨_, rfl⟩
        rw [← hbb] at hst
        have hsh : Hid (∀ (W' : World) (g : Nat), Strs W' (.slice (some ⟨g, 0, none⟩) 2 2) [n, z] → Calls Try.prog 26 #[.int .i64 1000, .slice (some ⟨g, 0, none⟩) 2 2] W' fun e w' => e = .returned (.bool bb) ∧ W' = w') := Lib.hid (fun W' g hstr => by
          have := keep_short 1000 _ [n, z] _ hstr (by
            intro t ht
            simp only [List.mem_cons, List.not_mem_nil, or_false] at ht
            rcases ht with rfl | rfl
            · exact hsz.1
            · exact hsz.2)
          have e : ([n, z].all fun t => decide ((t.length : Int) ≤ 1000)) = bb := by
            rw [hbb, Bool.eq_iff_iff]; simp; omega
          rw [e] at this
          exact this)
        clear hbb hsz
        cases bb
        · have hfin := Lib.hid (hst.out.trans (Bool.false_and _))
          clear hst
          go_wp2_with fail
          go_region_with (go_at_call 26; refine (hsh.out _ _ (by exact strs_lit wr [mk n, mk z] _ (by simp [maxLen]))).mono ?_; rintro e w' ⟨rfl, rfl⟩)
          all_goals
            go_wp2
            go_ret
            exact ⟨ret_bool hfin.out.symm, (hnx.alloc hnx.size _).drew⟩
        · have hst2 := Lib.hid (hst.out.trans (Bool.true_and _))
          clear hst
          go_wp2_with fail
          go_region_with (go_at_call 26; refine (hsh.out _ _ (by exact strs_lit wr [mk n, mk z] _ (by simp [maxLen]))).mono ?_; rintro e w' ⟨rfl, rfl⟩)
          all_goals
            go_wp2
            go_roundw
            case rel => exact ⟨k + 1, by go_num, by omega, (hnx.alloc hnx.size _).drew, hst2⟩
            case measure => simp [intOf]; omega
      · obtain rfl : k = l.length := by omega
        have hfin : Hid (smallD l = true) := by
          have e := ha.out
          rw [List.drop_length] at e
          exact e
        clear ha
        go_wp2
        go_ret
        exact ⟨ret_bool hfin.out.symm, hnx⟩
  · have hsm : Hid (smallD l = false) := Lib.hid (by unfold smallD; rw [decide_eq_false h40]; rfl)
    go_enter Try.func35, Try.ntmps35
    go_wp2
    go_ret
    exact ⟨ret_bool hsm.out.symm, Below.refl _ _⟩

set_option maxHeartbeats 2000000 in
theorem format_walk (v : Value) (l : List Dir) (w : World) (hv : Dirs w v l) (hs : ∀ d ∈ l, d.1.length ≤ maxLen ∧ d.2.1.length ≤ maxLen) : Calls Try.prog 12 #[v] w fun e w' => e = .returned (.bool true) ∧ Below w.heap.size w w' := by
  have hsm := l18_small v l w hv hs
  cases hb : smallD l
  · rw [hb] at hsm
    have HSM := Lib.hid hsm
    clear hsm hb hs hv
    go_enter Try.func12, Try.ntmps12
    go_wp2_with fail
    refine HSM.out.mono ?_; rintro e w1 ⟨rfl, hb1⟩
    go_wp2_with fail
    refine (law18_awake _).mono ?_; rintro e w2 ⟨rfl, hb2⟩
    go_wp2_with fail
    go_ret
    exact ⟨rfl, hb1.trans (hb2.mono hb1.size)⟩
  · rw [hb] at hsm
    have HSM := Lib.hid hsm
    obtain ⟨hl40, hsz⟩ := smallD_yes l hb
    clear hsm hb hs
    go_enter Try.func12, Try.ntmps12
    go_wp2_with fail
    refine HSM.out.mono ?_; rintro e w1 ⟨rfl, hb1⟩
    have hv1 := hv.below hb1
    go_wp2_with fail
    refine (p_format v l _ hv1 hsz).mono ?_; rintro e w2 ⟨rfl, hb2⟩
    have hv2 := hv1.below hb2
    go_wp2_with fail
    refine (r18_format v l _ hv2 hsz).mono ?_; rintro e w3 ⟨rfl, hb3⟩
    have hv3 := hv2.below hb3
    have b3 := (hb1.trans (hb2.mono hb1.size)).trans (hb3.mono (hb1.trans (hb2.mono hb1.size)).size)
    go_wp2_with fail
    refine (p_valid v l _ hv3 hsz).mono ?_; rintro e w4 ⟨rfl, hb4⟩
    have hv4 := hv3.below hb4
    have b4 := b3.trans (hb4.mono b3.size)
    go_wp2_with fail
    refine (r18_valid v l _ hv4 hsz).mono ?_; rintro e w5 ⟨rfl, hb5⟩
    have b5 := b4.trans (hb5.mono b4.size)
    generalize validD l = bv
    go_wp2_with fail
    refine (law18_awake _).mono ?_; rintro e w6 ⟨rfl, hb6⟩
    go_wp2_with fail
    go_ret
    exact ⟨rfl, b5.trans (hb6.mono b5.size)⟩

set_option maxHeartbeats 4000000 in
theorem roundTrip_walk (v : Value) (l : List Dir) (s : ByteArray) (w : World) (hv : Dirs w v l) (hs : ∀ d ∈ l, d.1.length ≤ maxLen ∧ d.2.1.length ≤ maxLen) (hss : s.size ≤ maxLen) : Calls Try.prog 13 #[v, .string s] w fun e w' => e = .returned (.bool true) ∧ Below w.heap.size w w' := by
  have hsm := l18_small v l w hv hs
  unfold maxLen at hss
  cases hb : smallD l
  · rw [hb] at hsm
    have HSM := Lib.hid hsm
    clear hsm hb hs hv
    go_enter Try.func13, Try.ntmps13
    go_wp2_with fail
    refine HSM.out.mono ?_; rintro e w1 ⟨rfl, hb1⟩
    go_wp2_with fail
    refine (law18_awake _).mono ?_; rintro e w2 ⟨rfl, hb2⟩
    go_wp2_with fail
    go_ret
    exact ⟨rfl, hb1.trans (hb2.mono hb1.size)⟩
  · rw [hb] at hsm
    have HSM := Lib.hid hsm
    obtain ⟨hl40, hsz⟩ := smallD_yes l hb
    clear hsm hb hs
    by_cases hl : s.size ≤ 4500
    · clear hss
      have hpv := Lib.hid (parseD_valid (un s))
      have hpb := Lib.hid (parseD_bound (un s))
      -- what stands behind the parse of s, in whatever world
      have fmt : Hid (∀ W : World, Dirs W v l → Calls Try.prog 36 #[v] W fun e w' => e = .returned (.tuple #[.string (mk (formatD l).1), .int .i64 (formatD l).2]) ∧ Below W.heap.size W w') := Lib.hid fun W h => p_format v l W h hsz
      have val : Hid (∀ W : World, Dirs W v l → Calls Try.prog 37 #[v] W fun e w' => e = .returned (.bool (validD l)) ∧ Below W.heap.size W w') := Lib.hid fun W h => p_valid v l W h hsz
      have hcase : (validD l = false ∧ formatD l = ([], 1)) ∨ (validD l = true ∧ formatD l = ([], 3)) ∨ (validD l = true ∧ ∃ t : Bs, formatD l = (t, 0) ∧ t.length ≤ 4096 ∧ parseD t = (l, 0)) := by
        cases hval : validD l
        · exact .inl ⟨rfl, by unfold formatD; rw [hval]; rfl⟩
        · by_cases h4 : 4096 < (textD l).length
          · exact .inr (.inl ⟨rfl, by unfold formatD; rw [hval, if_pos rfl, if_pos h4]⟩)
          · have hf : formatD l = (textD l, 0) := by unfold formatD; rw [hval, if_pos rfl, if_neg h4]
            have := parseD_format l (by rw [hf])
            rw [hf] at this
            exact .inr (.inr ⟨rfl, textD l, hf, by omega, this.2⟩)
      have HCASE := Lib.hid hcase
      clear hcase
      go_enter Try.func13, Try.ntmps13
      go_wp2_with fail
      refine HSM.out.mono ?_; rintro e w1 ⟨rfl, hb1⟩
      have hv1 := hv.below hb1
      go_wp2_with fail
      refine (d_parse s _ (by omega)).mono ?_; rintro e w2 ⟨v2, rfl, hown2, hb2⟩
      have hv2 := hv1.below hb2
      have b2 := hb1.trans (hb2.mono hb1.size)
      have hd2 := Dirs.owned hown2
      have hm := Lib.hid (p_valid v2 (parseD (un s)).1 _ hd2 (fun d hd => by have := hpb.out.2 d hd; omega))
      rw [hpv.out] at hm
      generalize (parseD (un s)).2 = z at *
      clear hb1 hb2 hown2 hd2 hv hv1
      by_cases hz : z = 0
      · subst hz
        go_wp2_with fail
        refine hm.out.mono ?_; rintro e w3 ⟨rfl, hb3⟩
        have hv3 := hv2.below hb3
        have b3 := b2.trans (hb3.mono b2.size)
        clear hv2 b2 hb3 hm
        go_wp2_with fail
        refine (fmt.out _ hv3).mono ?_; rintro e w4 ⟨rfl, hb4⟩
        have hv4 := hv3.below hb4
        have b4 := b3.trans (hb4.mono b3.size)
        clear hv3 b3 hb4
        rcases HCASE.out with ⟨hva, hfo⟩ | ⟨hva, hfo⟩ | ⟨hva, t, hfo, htl, hpt⟩
        · rw [hfo]
          have vv := Lib.hid (val.out _ hv4)
          rw [hva] at vv
          clear hva hfo HCASE val fmt
          go_wp2_with fail
          refine vv.out.mono ?_; rintro e w5 ⟨rfl, hb5⟩
          have b5 := b4.trans (hb5.mono b4.size)
          have e0 : mk [] = ⟨#[]⟩ := rfl
          go_wp2_with fail
          refine (law18_awake _).mono ?_; rintro e w6 ⟨rfl, hb6⟩
          go_wp2_with fail
          go_ret
          exact ⟨rfl, b5.trans (hb6.mono b5.size)⟩
        · rw [hfo]
          have vv := Lib.hid (val.out _ hv4)
          rw [hva] at vv
          clear hva hfo HCASE val fmt
          go_wp2_with fail
          refine vv.out.mono ?_; rintro e w5 ⟨rfl, hb5⟩
          have b5 := b4.trans (hb5.mono b4.size)
          have e0 : mk [] = ⟨#[]⟩ := rfl
          go_wp2_with fail
          refine (law18_awake _).mono ?_; rintro e w6 ⟨rfl, hb6⟩
          go_wp2_with fail
          go_ret
          exact ⟨rfl, b5.trans (hb6.mono b5.size)⟩
        · rw [hfo]
          have HPT := Lib.hid hpt
          have hts : (mk t).size ≤ 4096 := by rw [size_mk]; exact htl
          have VV : Hid (∀ W : World, Dirs W v l → Calls Try.prog 37 #[v] W fun e w' => e = .returned (.bool true) ∧ Below W.heap.size W w') := Lib.hid fun W h => by
            have := val.out W h
            rwa [hva] at this
          clear hva hfo HCASE val fmt hpt
          go_wp2_with fail
          refine (d_parse (mk t) _ (by omega)).mono ?_; rintro e w5 ⟨v5, rfl, hown5, hb5⟩
          rw [un_mk, HPT.out] at hown5 ⊢
          have hv5 := hv4.below hb5
          have b5 := b4.trans (hb5.mono b4.size)
          have hd5 := Dirs.owned hown5
          clear hown5 hb5 hv4 b4
          go_wp2_with fail
          refine (VV.out _ hv5).mono ?_; rintro e w6 ⟨rfl, hb6⟩
          have hv6 := hv5.below hb6
          have hd6 := hd5.below hb6
          have b6 := b5.trans (hb6.mono b5.size)
          go_wp2_with fail
          refine (keep_directives v5 v l l _ hd6 hv6).mono ?_; rintro e w7 ⟨rfl, hb7⟩
          rw [decide_eq_true rfl]
          have b7 := b6.trans (hb7.mono b6.size)
          go_wp2_with fail
          refine (law18_awake _).mono ?_; rintro e w8 ⟨rfl, hb8⟩
          go_wp2_with fail
          go_ret
          exact ⟨rfl, b7.trans (hb8.mono b7.size)⟩
      · have hz1 : (z == 0) = false := by simpa using hz
        go_wp2_with fail
        refine (fmt.out _ hv2).mono ?_; rintro e w4 ⟨rfl, hb4⟩
        have hv4 := hv2.below hb4
        have b4 := b2.trans (hb4.mono b2.size)
        clear hv2 b2 hb4
        rcases HCASE.out with ⟨hva, hfo⟩ | ⟨hva, hfo⟩ | ⟨hva, t, hfo, htl, hpt⟩
        · rw [hfo]
          have vv := Lib.hid (val.out _ hv4)
          rw [hva] at vv
          clear hva hfo HCASE val fmt
          go_wp2_with fail
          refine vv.out.mono ?_; rintro e w5 ⟨rfl, hb5⟩
          have b5 := b4.trans (hb5.mono b4.size)
          have e0 : mk [] = ⟨#[]⟩ := rfl
          go_wp2_with fail
          refine (law18_awake _).mono ?_; rintro e w6 ⟨rfl, hb6⟩
          go_wp2_with fail
          go_ret
          exact ⟨rfl, b5.trans (hb6.mono b5.size)⟩
        · rw [hfo]
          have vv := Lib.hid (val.out _ hv4)
          rw [hva] at vv
          clear hva hfo HCASE val fmt
          go_wp2_with fail
          refine vv.out.mono ?_; rintro e w5 ⟨rfl, hb5⟩
          have b5 := b4.trans (hb5.mono b4.size)
          have e0 : mk [] = ⟨#[]⟩ := rfl
          go_wp2_with fail
          refine (law18_awake _).mono ?_; rintro e w6 ⟨rfl, hb6⟩
          go_wp2_with fail
          go_ret
          exact ⟨rfl, b5.trans (hb6.mono b5.size)⟩
        · rw [hfo]
          have HPT := Lib.hid hpt
          have hts : (mk t).size ≤ 4096 := by rw [size_mk]; exact htl
          have VV : Hid (∀ W : World, Dirs W v l → Calls Try.prog 37 #[v] W fun e w' => e = .returned (.bool true) ∧ Below W.heap.size W w') := Lib.hid fun W h => by
            have := val.out W h
            rwa [hva] at this
          clear hva hfo HCASE val fmt hpt
          go_wp2_with fail
          refine (d_parse (mk t) _ (by omega)).mono ?_; rintro e w5 ⟨v5, rfl, hown5, hb5⟩
          rw [un_mk, HPT.out] at hown5 ⊢
          have hv5 := hv4.below hb5
          have b5 := b4.trans (hb5.mono b4.size)
          have hd5 := Dirs.owned hown5
          clear hown5 hb5 hv4 b4
          go_wp2_with fail
          refine (VV.out _ hv5).mono ?_; rintro e w6 ⟨rfl, hb6⟩
          have hv6 := hv5.below hb6
          have hd6 := hd5.below hb6
          have b6 := b5.trans (hb6.mono b5.size)
          go_wp2_with fail
          refine (keep_directives v5 v l l _ hd6 hv6).mono ?_; rintro e w7 ⟨rfl, hb7⟩
          rw [decide_eq_true rfl]
          have b7 := b6.trans (hb7.mono b6.size)
          go_wp2_with fail
          refine (law18_awake _).mono ?_; rintro e w8 ⟨rfl, hb8⟩
          go_wp2_with fail
          go_ret
          exact ⟨rfl, b7.trans (hb8.mono b7.size)⟩
    · go_enter Try.func13, Try.ntmps13
      go_wp2_with fail
      refine HSM.out.mono ?_; rintro e w1 ⟨rfl, hb1⟩
      go_wp2_with fail
      refine (law18_awake _).mono ?_; rintro e w2 ⟨rfl, hb2⟩
      go_wp2_with fail
      go_ret
      exact ⟨rfl, hb1.trans (hb2.mono hb1.size)⟩
end Go.Proofs.Ytjdkmidajhbefaa
