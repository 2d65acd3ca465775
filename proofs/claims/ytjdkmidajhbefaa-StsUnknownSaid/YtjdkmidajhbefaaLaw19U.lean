/- The walk of StsUnknown (law of layer 19): it returns true; memory that existed is unchanged. Conditions: none. -/
import Derived.Test.YtjdkmidajhbefaaLaw19
import Derived.Test.YtjdkmidajhbefaaDirFr
import Derived.Test.YtjdkmidajhbefaaPlainStsU
import Derived.Test.YtjdkmidajhbefaaAsciiWords
namespace Go.Proofs.Ytjdkmidajhbefaa
open Go.RowKit Hs
set_option linter.unusedSimpArgs false
set_option linter.unusedVariables false

theorem lit_one (w : World) (d : Dir) (T : TypeId) : Dirs (w.alloc (.cells #[.string (mk d.1), .string (mk d.2.1), .bool d.2.2] T)) (.slice (some ⟨w.heap.size, 0, none⟩) 1 1) [d] := by
  refine ⟨by simp [dcells], some ⟨w.heap.size, 0, none⟩, 1, rfl, by simp, by simp [maxLen], .inr ⟨w.heap.size, 0, rfl, by simp, fun j u hj => ?_⟩⟩
  rw [Nat.zero_add, World.cell?_alloc_mark]
  simpa [dcells] using hj
theorem format_len (d : Dir) (t : Bs) (h : formatD [d] = (t, 0)) : t.length ≤ d.1.length + 2 * d.2.1.length + 3 := by
  unfold formatD at h
  cases hv : validD [d]
  · rw [hv] at h; simp at h
  · rw [hv, if_pos rfl] at h
    split at h
    · simp at h
    · simp only [Prod.mk.injEq, and_true] at h
      rw [← h]
      have e : textD [d] = dirText d := rfl
      rw [e]
      exact length_dirText d

set_option maxHeartbeats 4000000 in
theorem unknown_walk (s : ByteArray) (d : Dir) (w : World) (hs : s.size ≤ maxLen) (h1 : d.1.length ≤ maxLen) (h2 : d.2.1.length ≤ maxLen) : Calls Try.prog 9 #[.string s, .agg #[.string (mk d.1), .string (mk d.2.1), .bool d.2.2]] w fun e w' => e = .returned (.bool true) ∧ Below w.heap.size w w' := by
  unfold maxLen at hs
  have AW := Lib.hid (fun W => law19_awake W)
  have HFL := Lib.hid (format_len d)
  have HSU := Lib.hid (fun (l : List Dir) (t : Bs) => stsP_unknown (un s) l d t)
  have hfc : Hid (∀ (W : World) (v : Value), Dirs W v [d] → d.1.length ≤ 500 → d.2.1.length ≤ 500 → Calls Try.prog 30 #[v] W fun e w' => e = .returned (.tuple #[.string (mk (formatD [d]).1), .int .i64 (formatD [d]).2]) ∧ Below W.heap.size W w') := Lib.hid fun W v h a1 a2 => r18_format v [d] W h (fun x hx => by simp only [List.mem_singleton] at hx; subst hx; omega)
  have hlit : Hid (∀ (W : World) (g : Nat), g = W.heap.size → Dirs (W.alloc (.cells #[.string (mk d.1), .string (mk d.2.1), .bool d.2.2] 41)) (.slice (some ⟨g, 0, none⟩) 1 1) [d]) := Lib.hid (fun W g hg => by subst hg; exact lit_one W d 41)
  obtain ⟨n, z, t⟩ := d
  simp only at h1 h2 HFL HSU hfc hlit
  have B0 := (Below.refl w.heap.size w).alloc (Nat.le_refl _) (.cells #[.string (mk n), .string (mk z), .bool t] 41)
  have d0 := Blk3.new w 41 (.string (mk n)) (.string (mk z)) (.bool t)
  by_cases hl : s.size ≤ 2000
  · have hsh : Hid (∀ (W' : World) (g : Nat), Strs W' (.slice (some ⟨g, 0, none⟩) 2 2) [n, z] → Calls Try.prog 26 #[.int .i64 500, .slice (some ⟨g, 0, none⟩) 2 2] W' fun e w' => e = .returned (.bool (decide (n.length ≤ 500 ∧ z.length ≤ 500))) ∧ W' = w') := Lib.hid (fun W' g hstr => by
      have := keep_short 500 _ [n, z] _ hstr (by
        intro t ht
        simp only [List.mem_cons, List.not_mem_nil, or_false] at ht
        rcases ht with rfl | rfl
        · exact h1
        · exact h2)
      have e : ([n, z].all fun t => decide ((t.length : Int) ≤ 500)) = decide (n.length ≤ 500 ∧ z.length ≤ 500) := by
        rw [Bool.eq_iff_iff]; simp; omega
      rw [e] at this
      exact this)
    have HLIT2 : Hid (∀ (W : World) (g : Nat), g = W.heap.size → Strs (W.alloc (.cells #[.string (mk n), .string (mk z)] 9)) (.slice (some ⟨g, 0, none⟩) 2 2) [n, z]) := Lib.hid (fun W g hg => by subst hg; exact strs_lit W [mk n, mk z] 9 (by simp [maxLen]))
    clear hs h1 h2
    by_cases hsm : n.length ≤ 500 ∧ z.length ≤ 500
    · rw [decide_eq_true hsm] at hsh
      obtain ⟨hn5, hz5⟩ := hsm
      have c0 := d0.c0; have c1 := d0.c1; have c2 := d0.c2
      have B1 := B0.alloc B0.size (.cells #[.string (mk n), .string (mk z)] 9)
      have e1 := d0.alloc (.cells #[.string (mk n), .string (mk z)] 9)
      by_cases hA : n = ageN
      · subst hA
        go_enter Try.func9, Try.ntmps9
        go_wp2_with fail
        refine (hsh.out _ _ (by exact HLIT2.out _ _ (by simp))).mono ?_; rintro e w' ⟨rfl, rfl⟩
        have e0 : mk ageN = ⟨#[109, 97, 120, 45, 97, 103, 101]⟩ := rfl
        rw [e0] at c0 ⊢
        go_wp2_with fail
        refine (AW.out _).mono ?_; rintro e wz ⟨rfl, hbz⟩
        go_wp2_with fail
        go_ret
        exact ⟨rfl, B1.trans (hbz.mono B1.size)⟩
      · have l1 := ls_age n hA
        have l2 := beq_no l1
        have l5 : ¬ (mk n).toList = [109, 97, 120, 45, 97, 103, 101] := by rw [toList_mk']; exact hA
        have l6 := beq_no l5
        by_cases hS : n = subN
        · subst hS
          have l3 := ls_ne
          have l4 := beq_no ls_ne
          go_enter Try.func9, Try.ntmps9
          go_wp2_with fail
          refine (hsh.out _ _ (by exact HLIT2.out _ _ (by simp))).mono ?_; rintro e w' ⟨rfl, rfl⟩
          have e0 : mk subN = ⟨#[105, 110, 99, 108, 117, 100, 101, 115, 117, 98, 100, 111, 109, 97, 105, 110, 115]⟩ := rfl
          rw [e0] at c0 ⊢
          go_wp2_with fail
          refine (AW.out _).mono ?_; rintro e wz ⟨rfl, hbz⟩
          go_wp2_with fail
          go_ret
          exact ⟨rfl, B1.trans (hbz.mono B1.size)⟩
        · have l3 := ls_sub n hS
          have l4 := beq_no l3
          have l7 : ¬ (mk n).toList = [105, 110, 99, 108, 117, 100, 101, 115, 117, 98, 100, 111, 109, 97, 105, 110, 115] := by rw [toList_mk']; exact hS
          have l8 := beq_no l7
          have HAS := Lib.hid (And.intro hA hS)
          clear hA hS
          go_enter Try.func9, Try.ntmps9
          go_wp2_with fail
          refine (hsh.out _ _ (by exact HLIT2.out _ _ (by simp))).mono ?_; rintro e w' ⟨rfl, rfl⟩
          go_wp2_with fail
          refine (hfc.out _ _ (by exact hlit.out _ _ (by simp)) hn5 hz5).mono ?_; rintro e w2 ⟨rfl, hb2⟩
          have e2 := (e1.alloc _).below hb2
          have B2 := (B1.alloc B1.size _).trans (hb2.mono (B1.alloc B1.size _).size)
          clear hb2 e1 B1 d0 B0 c0 c1 c2 l1 l2 l3 l4 l5 l6 l7 l8 hsh HLIT2 hlit hfc
          obtain ⟨⟨ft, fe⟩, hf⟩ : ∃ X, formatD [(n, z, t)] = X := ⟨_, rfl⟩
          have HF := Lib.hid hf
          rw [hf]
          clear hf
          go_wp2_with fail
          refine (r18_parse s _ (by omega)).mono ?_; rintro e w3 ⟨v3, rfl, hown3, hb3⟩
          have hL32 := (parseD_bound (un s)).1
          obtain ⟨⟨L, pe⟩, hp⟩ : ∃ X, parseD (un s) = X := ⟨_, rfl⟩
          have HP := Lib.hid hp
          rw [hp] at hown3 hL32 ⊢
          clear hp
          simp only at hL32
          have e3 := e2.below hb3
          have B3 := B2.trans (hb3.mono B2.size)
          have hd3 := Dirs.owned hown3
          obtain ⟨ao, cap, rfl, hc1, hc2, hc⟩ := hd3.open
          unfold maxLen at hc2
          have HC := Lib.hid hc
          clear hc hd3 hown3 hb3 B2 e2
          have hcase : fe ≠ 0 ∨ (fe = 0 ∧ pe ≠ 0) ∨ (fe = 0 ∧ pe = 0 ∧ L.length = 32) ∨ (fe = 0 ∧ pe = 0 ∧ L.length < 32) := by omega
          rcases hcase with h | ⟨rfl, h⟩ | ⟨rfl, rfl, h⟩ | ⟨rfl, rfl, h⟩
          · have hb : (fe != 0) = true := by simpa using h
            go_wp2_with fail
            refine (AW.out _).mono ?_; rintro e wz ⟨rfl, hbz⟩
            go_wp2_with fail
            go_ret
            exact ⟨rfl, B3.trans (hbz.mono B3.size)⟩
          · have hb : (pe != 0) = true := by simpa using h
            go_wp2_with fail
            refine (AW.out _).mono ?_; rintro e wz ⟨rfl, hbz⟩
            go_wp2_with fail
            go_ret
            exact ⟨rfl, B3.trans (hbz.mono B3.size)⟩
          · have hb : (((L.length : Nat) : Int) == 32) = true := by simp; omega
            clear h
            go_wp2_with fail
            refine (AW.out _).mono ?_; rintro e wz ⟨rfl, hbz⟩
            go_wp2_with fail
            go_ret
            exact ⟨rfl, B3.trans (hbz.mono B3.size)⟩
          · have hb : (((L.length : Nat) : Int) == 32) = false := by simp; omega
            go_wp2_with fail
            have hftl : ft.length ≤ 1503 := by have := HFL.out ft HF.out; omega
            have hfs : (mk ft).size = ft.length := size_mk ft
            go_loopw [9] (fun iv wr => ∃ k : Nat, iv = .int .i64 k ∧ k ≤ L.length ∧ Hid (n ∉ namesD (L.take k)) ∧ Below w3.heap.size w3 wr) (fun iv _ => L.length - (intOf iv).toNat)
            case atStart => exact ⟨0, rfl, by omega, Lib.hid (by simp [namesD]), Below.refl _ _⟩
            case round =>
              obtain ⟨k, rfl, hk, hni, hnx⟩ := hrel
              have e4 := e3.below hnx
              have q0 := e4.c0
              have B4 := B3.trans (hnx.mono B3.size)
              by_cases hlt : k < L.length
              · obtain ⟨b, off, rfl, hb1, hcell⟩ := HC.out (by omega)
                have x0 := (hcell k hlt).1
                have c0 := (hnx.cell (p := ⟨b, off + k * 3, none⟩) hb1).trans x0
                have hst : n ≠ L[k].1 → Hid (n ∉ namesD (L.take (k + 1))) := fun hne => Lib.hid (by
                  rw [namesD_take L k hlt, List.mem_append]
                  intro hm
                  rcases hm with hm | hm
                  · exact hni.out hm
                  · simp only [List.mem_singleton] at hm; exact hne hm)
                obtain ⟨x, hx⟩ : ∃ x, x = L[k].1 := ⟨_, rfl⟩
                rw [← hx] at c0 hst
                clear hcell x0 hx
                have HST := Lib.hid hst
                clear hst
                by_cases hxn : x = n
                · subst hxn
                  go_wp2_with fail
                  go_quiet (fail)
                  go_wp2_with fail
                  refine (AW.out _).mono ?_; rintro e wz ⟨rfl, hbz⟩
                  go_wp2_with fail
                  go_ret
                  exact ⟨rfl, (below_drewN B4 _).trans (hbz.mono B4.size)⟩
                · have m1 : ¬ (mk x).toList = (mk n).toList := by rw [toList_mk', toList_mk']; exact hxn
                  have m2 := beq_no m1
                  have hst2 := HST.out (fun e => hxn e.symm)
                  clear hxn HST
                  go_wp2_with fail
                  go_quiet (fail)
                  go_wp2_with fail
                  go_roundw
                  case rel => exact ⟨k + 1, by go_num, by omega, hst2, by first | exact hnx | exact below_drewN hnx _⟩
                  case measure => simp [intOf]; omega
              · have hke : k = L.length := by omega
                have hnot : n ∉ namesD L := by have := hni.out; rw [hke, List.take_length] at this; exact this
                have hkn : ¬ ((k : Int) < (L.length : Int)) := by omega
                have hun := HSU.out L ft HP.out h HF.out (by rw [length_un]; omega) HAS.out.1 HAS.out.2 hnot
                have y1 : Hid (stsP (un (s ++ (ByteArray.mk #[59]) ++ mk ft)) = stsP (un s)) := Lib.hid (by
                  rw [un_append, un_append, un_mk]
                  have e : un s ++ un (ByteArray.mk #[59]) ++ ft = un s ++ 59 :: ft := by simp [un]
                  rw [e]; exact hun.1)
                have y2 : Hid (stsP (un (mk ft ++ (ByteArray.mk #[59]) ++ s)) = stsP (un s)) := Lib.hid (by
                  rw [un_append, un_append, un_mk]
                  have e : ft ++ un (ByteArray.mk #[59]) ++ un s = ft ++ 59 :: un s := by simp [un]
                  rw [e]; exact hun.2)
                have z1 : (s ++ (ByteArray.mk #[59]) ++ mk ft).size ≤ 4096 := by rw [ByteArray.size_append, ByteArray.size_append, hfs]; show s.size + 1 + ft.length ≤ _; omega
                have z2 : (mk ft ++ (ByteArray.mk #[59]) ++ s).size ≤ 4096 := by rw [ByteArray.size_append, ByteArray.size_append, hfs]; show ft.length + 1 + s.size ≤ _; omega
                have p0 : Hid (∀ W : World, Calls Try.prog 28 #[.string (s)] W fun e w' => e = .returned (.tuple #[.agg #[.int .i64 (stsP (un s)).1.1, .bool (stsP (un s)).1.2], .int .i64 (stsP (un s)).2]) ∧ Below W.heap.size W w') := Lib.hid fun W => by
                  have := sts_parse (s) W (by omega)
                  skip
                  exact this
                have p1 : Hid (∀ W : World, Calls Try.prog 28 #[.string (s ++ (ByteArray.mk #[59]) ++ mk ft)] W fun e w' => e = .returned (.tuple #[.agg #[.int .i64 (stsP (un s)).1.1, .bool (stsP (un s)).1.2], .int .i64 (stsP (un s)).2]) ∧ Below W.heap.size W w') := Lib.hid fun W => by
                  have := sts_parse (s ++ (ByteArray.mk #[59]) ++ mk ft) W (by omega)
                  rw [y1.out] at this
                  exact this
                have p2 : Hid (∀ W : World, Calls Try.prog 28 #[.string (mk ft ++ (ByteArray.mk #[59]) ++ s)] W fun e w' => e = .returned (.tuple #[.agg #[.int .i64 (stsP (un s)).1.1, .bool (stsP (un s)).1.2], .int .i64 (stsP (un s)).2]) ∧ Below W.heap.size W w') := Lib.hid fun W => by
                  have := sts_parse (mk ft ++ (ByteArray.mk #[59]) ++ s) W (by omega)
                  rw [y2.out] at this
                  exact this
                have hfs2 : (mk ft).size ≤ 1503 := by rw [hfs]; exact hftl
                clear hun hnot hke hni e3 B3 hnx e4 q0 z1 z2 hfs y1 y2
                generalize stsP (un s) = X at *
                obtain ⟨⟨xn, xb⟩, xz⟩ := X
                go_wp2_with fail
                refine (p0.out _).mono ?_; rintro e w5 ⟨rfl, hb5⟩
                have B5 := B4.trans (hb5.mono B4.size)
                go_wp2_with fail
                have f5 := Blk2.new w5 36 (.int .i64 xn) (.bool xb)
                have B5' := B5.alloc B5.size (.cells #[.int .i64 xn, .bool xb] 36)
                generalize w5.alloc (.cells #[.int .i64 xn, .bool xb] 36) = W5 at *
                generalize w5.heap.size = g5 at *
                refine (p1.out _).mono ?_; rintro e w6 ⟨rfl, hb6⟩
                have B6 := B5'.trans (hb6.mono B5'.size)
                have f6 := f5.below hb6
                go_wp2_with fail
                have f6' := f6.alloc (.cells #[.int .i64 xn, .bool xb] 36)
                have k6 := Blk2.new w6 36 (.int .i64 xn) (.bool xb)
                have B6' := B6.alloc B6.size (.cells #[.int .i64 xn, .bool xb] 36)
                generalize w6.alloc (.cells #[.int .i64 xn, .bool xb] 36) = W6 at *
                generalize w6.heap.size = g6 at *
                refine (p2.out _).mono ?_; rintro e w7 ⟨rfl, hb7⟩
                have B7 := B6'.trans (hb7.mono B6'.size)
                have f7 := f6'.below hb7
                have k7 := k6.below hb7
                have a0 := f7.c0; have a1 := f7.c1; have a2 := k7.c0; have a3 := k7.c1
                have l7a := f7.lt; have l7b := k7.lt
                clear f5 f6 f6' k6 hb5 hb6 hb7 B5 B5' B6 B6' B4
                go_wp2_with fail
                refine (AW.out _).mono ?_; rintro e wz ⟨rfl, hbz⟩
                go_wp2_with fail
                go_ret
                exact ⟨rfl, (B7.alloc B7.size _).trans (hbz.mono (B7.alloc B7.size _).size)⟩
    · rw [decide_eq_false hsm] at hsh
      have c0 := d0.c0; have c1 := d0.c1; have c2 := d0.c2
      have B1 := B0.alloc B0.size (.cells #[.string (mk n), .string (mk z)] 9)
      clear hsm
      go_enter Try.func9, Try.ntmps9
      go_wp2_with fail
      refine (hsh.out _ _ (by exact HLIT2.out _ _ (by simp))).mono ?_; rintro e w' ⟨rfl, rfl⟩
      go_wp2_with fail
      refine (AW.out _).mono ?_; rintro e wz ⟨rfl, hbz⟩
      go_wp2_with fail
      go_ret
      exact ⟨rfl, B1.trans (hbz.mono B1.size)⟩
  · have hl' : (2000 : Int) < (s.size : Int) := by omega
    clear hl
    go_enter Try.func9, Try.ntmps9
    go_wp2_with fail
    refine (AW.out _).mono ?_; rintro e wz ⟨rfl, hbz⟩
    go_wp2_with fail
    go_ret
    exact ⟨rfl, B0.trans (hbz.mono B0.size)⟩
end Go.Proofs.Ytjdkmidajhbefaa
