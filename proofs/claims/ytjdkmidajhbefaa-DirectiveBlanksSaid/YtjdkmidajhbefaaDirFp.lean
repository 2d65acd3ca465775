/- The walk of Format of the layer directive (program). Conditions: the texts' lengths are bounded. -/
import Derived.Test.YtjdkmidajhbefaaDirVp
import Derived.Test.YtjdkmidajhbefaaPlainDir
namespace Go.Proofs.Ytjdkmidajhbefaa
open Go.RowKit Hs
set_option linter.unusedSimpArgs false
set_option linter.unusedVariables false

theorem fmt_slice {w : World} {base : Nat} {e : TypeId} {size n : Nat} {v : Value} {xs : List Value} (h : w.ownsRow base e size v n xs) : ∃ a cap, v = .slice a n cap := by
  rcases h.2 with ⟨rfl, rfl⟩ | ⟨g, cap, cur, rfl, _⟩
  · exact ⟨none, 0, rfl⟩
  · exact ⟨_, cap, rfl⟩
theorem fmt_below {w w' : World} {base : Nat} {e : TypeId} {size n : Nat} {v : Value} {xs : List Value} (h : w.ownsRow base e size v n xs) (hb : Below w.heap.size w w') : w'.ownsRow base e size v n xs :=
  h.kept (row := none) ⟨hb.os, hb.tape, hb.output, hb.size, fun k hk _ => hb.block k hk⟩ (by cases hv : v.ownBlock <;> simp)
theorem cell1_at (w : World) (a : Value) (T : TypeId) (n : Nat) (hn : n = w.heap.size) : ∀ j u, [a][j]? = some u → (w.alloc (.cells #[a] T)).cell? ((⟨n, 0, none⟩ : Addr).add j) = some u := by
  subst hn
  intro j u hj
  have hadd : (⟨w.heap.size, 0, none⟩ : Addr).add j = ⟨w.heap.size, j, none⟩ := by unfold Addr.add; split <;> simp_all
  rw [hadd, World.cell?_alloc_mark]
  simpa using hj
theorem join_joinS : ∀ l : List Bs, Lib.join l [59, 32] = joinS l
  | [] => rfl
  | [x] => by simp [Lib.join_one, joinS]
  | x :: y :: r => by
    have ih := join_joinS (y :: r)
    have e : joinS (x :: y :: r) = x ++ (59 :: 32 :: joinS (y :: r)) := rfl
    rw [e, ← ih]
    simp [Lib.join, List.intercalate]
theorem dirText_bare (n z : Bs) : dirText (n, z, false) = n := rfl
theorem dirText_tok (n z : Bs) (h : tokenS z = true) : dirText (n, z, true) = n ++ (61 :: z) := by simp [dirText, valText, h]
theorem dirText_quo (n z : Bs) (h : tokenS z = false) : dirText (n, z, true) = n ++ (61 :: quoteB z) := by simp [dirText, valText, h]
/-- What has been written after k directives. -/
def textsTo (l : List Dir) (k : Nat) : List Bs := (l.take k).map dirText
theorem textsTo_step (l : List Dir) (k : Nat) (h : k < l.length) : textsTo l (k + 1) = textsTo l k ++ [dirText l[k]] := by
  unfold textsTo; rw [List.take_succ_eq_append_getElem h, List.map_append]; rfl
theorem length_textsTo (l : List Dir) (k : Nat) (h : k ≤ l.length) : (textsTo l k).length = k := by unfold textsTo; rw [List.length_map, List.length_take]; omega
theorem valid_one (l : List Dir) (h : validD l = true) : l.length ≤ 32 ∧ ∀ d ∈ l, validOne d = true := by
  unfold validD at h
  rw [Bool.and_eq_true, decide_eq_true_eq, List.all_eq_true] at h
  exact ⟨h.2, h.1⟩
theorem validOne_txt (d : Dir) (h : validOne d = true) : d.2.1.all isTxt = true := by
  unfold validOne at h
  rw [Bool.and_eq_true] at h
  exact h.2
theorem textD_len (l : List Dir) (h : l.length ≤ 32) (hs : ∀ d ∈ l, d.1.length ≤ 10000 ∧ d.2.1.length ≤ 10000) : (textD l).length ≤ 1000000 := by
  have h1 : ∀ t ∈ l.map dirText, t.length ≤ 30003 := by
    intro t ht
    obtain ⟨d, hd, rfl⟩ := List.mem_map.1 ht
    have := length_dirText d
    have := hs d hd
    omega
  have := length_joinS 30003 (l.map dirText) h1
  rw [List.length_map] at this
  unfold textD
  have h2 : l.length * (30003 + 2) ≤ 32 * (30003 + 2) := Nat.mul_le_mul_right _ h
  omega

theorem strs_own {w : World} {base : Nat} {e : TypeId} {n : Nat} {v : Value} {L : List Bs} (h : w.ownsRow base e 1 v n (scells L)) (hn : n = L.length) : Strs w v L := by
  subst hn; exact Row.owned h
/-- strings.Join with a semicolon and a space. -/
theorem join_strs (v : Value) (L : List Bs) (w : World) (hv : Strs w v L) (hn : L.length ≤ 1000) (T : Bs) (hT : joinS L = T) (hl : T.length ≤ 1000000) : Calls Try.prog 53 #[v, .string ⟨#[59, 32]⟩] w fun e w' => e = .returned (.string (mk T)) ∧ Below w.heap.size w w' := by
  subst hT
  obtain ⟨a, cap, rfl, hc1, hc2, hc⟩ := hv.open
  by_cases h0 : L.length = 0
  · have : L = [] := List.eq_nil_of_length_eq_zero h0
    subst this
    refine (Try.strings_Join_none a cap ⟨#[59, 32]⟩ w).mono ?_
    rintro e w' ⟨rfl, rfl⟩
    exact ⟨rfl, Below.refl _ _⟩
  · obtain ⟨b, off, rfl, hb, hcell⟩ := hc (by omega)
    have hun : (L.map mk).map (fun x => x.data.toList) = L := by rw [List.map_map]; exact (List.map_congr_left (fun x _ => un_mk x)).trans (List.map_id _)
    have hj := Try.strings_Join b off cap (L.map mk) ⟨#[59, 32]⟩ w (fun j x hx => by
      rw [List.getElem?_map, Option.map_eq_some_iff] at hx
      obtain ⟨t, ht, rfl⟩ := hx
      obtain ⟨hlt, rfl⟩ := List.getElem?_eq_some_iff.1 ht
      exact hcell j hlt) hb (by rw [List.length_map]; omega) (by rw [List.length_map]; exact hc1) (by
        rw [hun]
        have : Lib.join L [59, 32] = joinS L := join_joinS L
        show (Lib.join L [59, 32]).length ≤ _
        rw [this]; omega)
    rw [List.length_map] at hj
    refine hj.mono ?_
    rintro e w' ⟨rfl, hb'⟩
    refine ⟨?_, hb'⟩
    rw [hun]
    show Ending.returned (.string (mk (Lib.join L [59, 32]))) = _
    rw [join_joinS]

set_option maxHeartbeats 4000000 in
theorem p_format_yes (v : Value) (l : List Dir) (w : World) (hv : Dirs w v l) (hs : ∀ d ∈ l, d.1.length ≤ 10000 ∧ d.2.1.length ≤ 10000) (hval : validD l = true) : Calls Try.prog 36 #[v] w fun e w' => e = .returned (.tuple #[.string (mk (formatD l).1), .int .i64 (formatD l).2]) ∧ Below w.heap.size w w' := by
  obtain ⟨iS0, iS⟩ := info_parts infoStr
  have hpv := p_valid v l w hv hs
  rw [hval] at hpv
  have HPV := Lib.hid hpv
  obtain ⟨a, cap, rfl, hn, hm, hc⟩ := hv.open
  unfold maxLen at hm
  obtain ⟨hl32, hvo⟩ := valid_one l hval
  have hfm : Hid (formatD l = if 4096 < (textD l).length then ([], 3) else (textD l, 0)) := Lib.hid (if_pos hval)
  have htl := textD_len l hl32 hs
  have HC := Lib.hid hc
  have HS := Lib.hid hs
  have HVO := Lib.hid hvo
  clear hc hv hs hpv hval hvo
  go_enter Try.func36, Try.ntmps36
  go_wp2_with fail
  refine HPV.out.mono ?_; rintro e w1 ⟨rfl, hb1⟩
  go_wp2
  go_loopw [4, 15] (fun o iv wr => ∃ k : Nat, iv = .int .i64 k ∧ k ≤ l.length ∧ wr.ownsRow w.heap.size 9 1 o k (scells (textsTo l k)) ∧ Below w.heap.size w wr) (fun _ iv _ => l.length - (intOf iv).toNat)
  case atStart => exact ⟨0, rfl, by omega, World.ownsRow_nil _ _ _ _, hb1⟩
  case round =>
    obtain ⟨k, rfl, hk, hown, hnx⟩ := hrel
    by_cases hlt : k < l.length
    · obtain ⟨b, off, rfl, hb1, hcell⟩ := HC.out (by omega)
      obtain ⟨x0, x1, x2⟩ := hcell k hlt
      have c0 := (hnx.cell (p := ⟨b, off + k * 3, none⟩) hb1).trans x0
      have c1 := (hnx.cell (p := ⟨b, off + k * 3 + 1, none⟩) hb1).trans x1
      have c2 := (hnx.cell (p := ⟨b, off + k * 3 + 2, none⟩) hb1).trans x2
      have hsz := HS.out l[k] (List.getElem_mem hlt)
      have hvk := validOne_txt _ (HVO.out l[k] (List.getElem_mem hlt))
      have hst := Lib.hid (textsTo_step l k hlt)
      clear hcell x0 x1 x2
      obtain ⟨x, hx⟩ : ∃ x, x = l[k] := ⟨_, rfl⟩
      rw [← hx] at c0 c1 c2 hsz hvk hst
      clear hx
      obtain ⟨n, z, t⟩ := x
      simp only at c0 c1 c2 hsz hvk
      obtain ⟨hsn, hsz⟩ := hsz
      have hzm : (mk n).size ≤ 10000 := by rw [size_mk]; exact hsn
      have hzz : (mk z).size ≤ 10000 := by rw [size_mk]; exact hsz
      have hown1 := hown.alloc (.cells #[.string (mk n), .string (mk z), .bool t] 41)
      have hnx1 := hnx.alloc hnx.size (.cells #[.string (mk n), .string (mk z), .bool t] 41)
      cases t
      · rw [dirText_bare] at hst
        clear hvk
        go_wp2_with (at_builtin; refine wpList_append_own _ rfl (.tmp 37) (.tmp 39) 51 rfl w.heap.size 9 iS0 (.string ByteArray.empty) 1 16 Try.underlying51 iS.1 iS.2.1 iS.2.2.1 iS.2.2.2 rfl (by decide) _ _ _ rfl (hown1.alloc _) ⟨_, 0, none⟩ 1 1 [.string (mk n)] rfl rfl (cell1_at _ _ _ _ (by simp)) (by intro u hu; simp at hu; subst hu; rfl) (by unfold maxLen; omega) (by omega) (by have := hnx.size; simp; omega) ?_; intro v1 w5 hown5 hgrow5 hnil5)
        go_roundw
        case rel =>
          refine ⟨k + 1, by go_num, by omega, ?_, (hnx1.alloc (by have := hnx.size; simp; omega) _).grown hgrow5 (by have := hnx.size; simp; omega) (fun b hb => (hown1.lt b hb).1)⟩
          rw [hst.out, scells_append]
          exact hown5
        case measure => simp [intOf]; omega
      · cases hT : tokenS z
        · rw [dirText_quo n z hT] at hst
          have htk : Hid (∀ W : World, Calls Try.prog 22 #[.string (mk z)] W fun e w' => e = .returned (.bool false) ∧ W = w') := Lib.hid fun W => by
            have := q_isTokenS (mk z) W (by omega)
            rw [un_mk, hT] at this
            exact this
          have hq : Hid (quval (quoteR (un (mk z))) = .tuple #[.string (mk (quoteB z)), .int .i64 0]) := Lib.hid (by rw [un_mk, quoteR_yes _ hvk, quval])
          have hql : (mk (quoteB z)).size ≤ 30000 := by
            have := length_quoteBody z
            rw [size_mk]; unfold quoteB; simp only [List.length_cons, List.length_append, List.length_nil]; omega
          have hql2 : (quoteB z).length ≤ 30000 := by rw [size_mk] at hql; exact hql
          clear hvk hT
          go_wp2_with fail
          refine (htk.out _).mono ?_; rintro e w' ⟨rfl, rfl⟩
          go_wp2_with fail
          refine (q_quote (mk z) _ (by omega)).mono ?_; rintro e w2 ⟨rfl, hb2⟩
          rw [hq.out]
          have hown2 := fmt_below hown1 hb2
          have hnx2 := hnx1.trans (hb2.mono hnx1.size)
          clear hown hown1 hnx hnx1 hb2
          go_wp2_with (at_builtin; refine wpList_append_own _ rfl (.tmp 37) (.tmp 39) 51 rfl w.heap.size 9 iS0 (.string ByteArray.empty) 1 16 Try.underlying51 iS.1 iS.2.1 iS.2.2.1 iS.2.2.2 rfl (by decide) _ _ _ rfl (hown2.alloc _) ⟨_, 0, none⟩ 1 1 [.string (mk n ++ (⟨#[61]⟩ ++ mk (quoteB z)))] rfl rfl (cell1_at _ _ _ _ (by simp)) (by intro u hu; simp at hu; subst hu; rfl) (by unfold maxLen; omega) (by omega) (by have := hnx2.size; simp; omega) ?_; intro v1 w5 hown5 hgrow5 hnil5)
          go_roundw
          case rel =>
            refine ⟨k + 1, by go_num, by omega, ?_, (hnx2.alloc (by have := hnx2.size; simp; omega) _).grown hgrow5 (by have := hnx2.size; simp; omega) (fun b hb => (hown2.lt b hb).1)⟩
            rw [hst.out, scells_append]
            have e : mk (n ++ 61 :: quoteB z) = mk n ++ (⟨#[61]⟩ ++ mk (quoteB z)) := un_inj (by rw [un_append, un_append, un_mk, un_mk, un_mk]; rfl)
            rw [show scells [n ++ 61 :: quoteB z] = [.string (mk n ++ (⟨#[61]⟩ ++ mk (quoteB z)))] from by rw [← e]; rfl]
            exact hown5
          case measure => simp [intOf]; omega
        · rw [dirText_tok n z hT] at hst
          have htk : Hid (∀ W : World, Calls Try.prog 22 #[.string (mk z)] W fun e w' => e = .returned (.bool true) ∧ W = w') := Lib.hid fun W => by
            have := q_isTokenS (mk z) W (by omega)
            rw [un_mk, hT] at this
            exact this
          clear hvk hT
          go_wp2_with fail
          refine (htk.out _).mono ?_; rintro e w' ⟨rfl, rfl⟩
          go_wp2_with (at_builtin; refine wpList_append_own _ rfl (.tmp 37) (.tmp 39) 51 rfl w.heap.size 9 iS0 (.string ByteArray.empty) 1 16 Try.underlying51 iS.1 iS.2.1 iS.2.2.1 iS.2.2.2 rfl (by decide) _ _ _ rfl (hown1.alloc _) ⟨_, 0, none⟩ 1 1 [.string (mk n ++ (⟨#[61]⟩ ++ mk z))] rfl rfl (cell1_at _ _ _ _ (by simp)) (by intro u hu; simp at hu; subst hu; rfl) (by unfold maxLen; omega) (by omega) (by have := hnx.size; simp; omega) ?_; intro v1 w5 hown5 hgrow5 hnil5)
          go_roundw
          case rel =>
            refine ⟨k + 1, by go_num, by omega, ?_, (hnx1.alloc (by have := hnx.size; simp; omega) _).grown hgrow5 (by have := hnx.size; simp; omega) (fun b hb => (hown1.lt b hb).1)⟩
            rw [hst.out, scells_append]
            have e : mk (n ++ 61 :: z) = mk n ++ (⟨#[61]⟩ ++ mk (z)) := un_inj (by rw [un_append, un_append, un_mk, un_mk, un_mk]; rfl)
            rw [show scells [n ++ 61 :: z] = [.string (mk n ++ (⟨#[61]⟩ ++ mk (z)))] from by rw [← e]; rfl]
            exact hown5
          case measure => simp [intOf]; omega
    · obtain rfl : k = l.length := by omega
      have hnl : (textsTo l l.length) = l.map dirText := by unfold textsTo; rw [List.take_length]
      rw [hnl] at hown
      have hst := strs_own hown (by rw [List.length_map])
      clear hown hnl
      by_cases h4 : 4096 < (textD l).length
      · have hsz4 : (mk (textD l)).size = (textD l).length := size_mk _
        have hfin := Lib.hid (hfm.out.trans (if_pos h4))
        clear hfm
        go_wp2_with fail
        refine (join_strs _ (l.map dirText) _ hst (by rw [List.length_map]; omega) (textD l) rfl htl).mono ?_; rintro e w2 ⟨rfl, hb2⟩
        go_wp2_with fail
        go_ret2
        exact ⟨by rw [hfin.out]; rfl, hnx.trans (hb2.mono hnx.size)⟩
      · have hsz4 : (mk (textD l)).size = (textD l).length := size_mk _
        have hfin := Lib.hid (hfm.out.trans (if_neg h4))
        clear hfm
        go_wp2_with fail
        refine (join_strs _ (l.map dirText) _ hst (by rw [List.length_map]; omega) (textD l) rfl htl).mono ?_; rintro e w2 ⟨rfl, hb2⟩
        go_wp2_with fail
        go_ret2
        exact ⟨by rw [hfin.out]; rfl, hnx.trans (hb2.mono hnx.size)⟩

/-- Format of the program: the text, the error. -/
theorem p_format (v : Value) (l : List Dir) (w : World) (hv : Dirs w v l) (hs : ∀ d ∈ l, d.1.length ≤ 10000 ∧ d.2.1.length ≤ 10000) : Calls Try.prog 36 #[v] w fun e w' => e = .returned (.tuple #[.string (mk (formatD l).1), .int .i64 (formatD l).2]) ∧ Below w.heap.size w w' := by
  cases hval : validD l
  · have hpv := p_valid v l w hv hs
    rw [hval] at hpv
    have HPV := Lib.hid hpv
    have hfm : Hid (formatD l = ([], 1)) := Lib.hid (by unfold formatD; rw [hval]; rfl)
    clear hpv hval hs hv
    go_enter Try.func36, Try.ntmps36
    go_wp2_with fail
    refine HPV.out.mono ?_; rintro e w1 ⟨rfl, hb1⟩
    go_wp2
    go_ret2
    exact ⟨by rw [hfm.out]; rfl, hb1⟩
  · exact p_format_yes v l w hv hs hval
end Go.Proofs.Ytjdkmidajhbefaa
