/- The walk of Parse of the reference of the layer directive. Conditions: the text's length is bounded. -/
import Derived.Test.YtjdkmidajhbefaaDirQ
import Derived.WalkMore
namespace Go.Proofs.Ytjdkmidajhbefaa
open Go.RowKit Hs
set_option linter.unusedSimpArgs false
set_option linter.unusedVariables false

theorem own_slice' {w : World} {base : Nat} {e : TypeId} {size n : Nat} {v : Value} {xs : List Value} (h : w.ownsRow base e size v n xs) : ∃ a cap, v = .slice a n cap := by
  rcases h.2 with ⟨rfl, rfl⟩ | ⟨g, cap, cur, rfl, _⟩
  · exact ⟨none, 0, rfl⟩
  · exact ⟨_, cap, rfl⟩
theorem cells3_at' (w : World) (a b c : Value) (T : TypeId) (n : Nat) (hn : n = w.heap.size) : ∀ j u, [a, b, c][j]? = some u → (w.alloc (.cells #[a, b, c] T)).cell? ((⟨n, 0, none⟩ : Addr).add j) = some u := by
  subst hn
  intro j u hj
  have hadd : (⟨w.heap.size, 0, none⟩ : Addr).add j = ⟨w.heap.size, j, none⟩ := by unfold Addr.add; split <;> simp_all
  rw [hadd, World.cell?_alloc_mark]
  simpa using hj
theorem own_below {w w' : World} {base : Nat} {e : TypeId} {size n : Nat} {v : Value} {xs : List Value} (h : w.ownsRow base e size v n xs) (hb : Below w.heap.size w w') : w'.ownsRow base e size v n xs :=
  h.kept (row := none) ⟨hb.os, hb.tape, hb.output, hb.size, fun k hk _ => hb.block k hk⟩ (by cases hv : v.ownBlock <;> simp)

set_option maxHeartbeats 2000000 in
theorem r18_parse_short (s : ByteArray) (w : World) (hs : s.size ≤ 4096) : Calls Try.prog 31 #[.string s] w fun e w' => ∃ v, e = .returned (.tuple #[v, .int .i64 (parseI (un s) 0 []).2]) ∧ w'.ownsRow w.heap.size 41 3 v (parseI (un s) 0 []).1.length (dcells (parseI (un s) 0 []).1) ∧ Below w.heap.size w w' := by
  obtain ⟨iD0, iD⟩ := info_parts infoDir
  obtain ⟨R, hR⟩ : ∃ R, R = parseI (un s) 0 [] := ⟨_, rfl⟩
  rw [← hR]
  have HR := Lib.hid hR
  clear hR
  go_enter Try.func31, Try.ntmps31
  go_wp2
  go_loopw [4, 5] (fun v iv wr => ∃ (k : Nat) (D : List Dir), iv = .int .i64 k ∧ k ≤ s.size ∧ wr.ownsRow w.heap.size 41 3 v D.length (dcells D) ∧ D.length ≤ 32 ∧ Below w.heap.size w wr ∧ Hid (parseI (un s) k D = R)) (fun _ iv _ => s.size - (intOf iv).toNat)
  case atStart => exact ⟨0, [], rfl, by omega, World.ownsRow_nil _ _ _ _, by simp, Below.refl _ _, HR.out.symm⟩
  case round =>
    obtain ⟨k, D, rfl, hk, hown, hD, hnx, hpi⟩ := hrel
    obtain ⟨ao, cap, rfl⟩ := own_slice' hown
    have hk1 := blkEnd_le (un s) k (by rw [length_un]; exact hk)
    have hk1g := blkEnd_ge (un s) k
    have hid := blkEnd_idem (un s) k
    rw [length_un] at hk1
    go_wp2_with fail
    refine (r18_skip s k _ hk (by omega)).mono ?_; rintro e w' ⟨rfl, rfl⟩
    have hpi1 : Hid (parseI (un s) (blkEnd (un s) k) D = R) := by rw [← hpi.out, ← parseI_blank]; rfl
    clear hpi
    generalize blkEnd (un s) k = i at *
    by_cases hend : i < s.size
    · have hat := atN_un s i hend
      by_cases h59 : atN (un s) i = 59
      · have hst : Hid (parseI (un s) (i + 1) D = R) := by rw [← hpi1.out, parseI_semi _ _ _ h59]; rfl
        rw [hat] at h59
        clear hpi1 hid hat
        go_wp2_with fail
        go_roundw
        case rel => exact ⟨i + 1, D, by go_num, by omega, hown, hD, hnx, hst⟩
        case measure => simp [intOf]; omega
      · by_cases h32 : D.length = 32
        · have hfin : Hid (R = ([], 3)) := by rw [← hpi1.out, parseI_limit _ _ _ hid (by rw [length_un]; exact hend) h59 h32]; rfl
          have h32' : (((D.length : Nat) : Int) == 32) = true := by simp; omega
          rw [hat] at h59
          clear hpi1 hid hat h32
          go_wp2_with fail
          go_ret2
          exact ⟨_, by rw [hfin.out]; rfl, by rw [hfin.out]; exact World.ownsRow_nil _ _ _ _, hnx⟩
        · have h32' : (((D.length : Nat) : Int) == 32) = false := by simp; omega
          have hnone := Lib.hid (parseI_none (un s) i D hid (by rw [length_un]; exact hend) h59 h32)
          have hsome := Lib.hid (fun p => parseI_some (un s) i D p hid (by rw [length_un]; exact hend) h59 h32)
          have hDl : D.length + 1 ≤ 32 := by omega
          rw [hat] at h59
          clear hid hat h32
          go_wp2_with fail
          refine (r18_element s i _ hk1 (by omega)).mono ?_; rintro e w3 ⟨d, j, ok, rfl, hb3, hel⟩
          have hown3 := own_below hown hb3
          have hnx3 := hnx.trans (hb3.mono hnx.size)
          clear hown hnx hb3
          unfold dirVal
          cases ok
          · have hfin : Hid (R = ([], 4)) := by rw [← hpi1.out, hnone.out (elemO_none _ _ (hel.out.2 rfl))]; rfl
            clear hpi1 hnone hsome hel
            go_wp2_with fail
            go_ret2
            exact ⟨_, by rw [hfin.out]; rfl, by rw [hfin.out]; exact World.ownsRow_nil _ _ _ _, hnx3.alloc hnx3.size _⟩
          · obtain ⟨hjs, hei⟩ := hel.out.1 rfl
            have hb := elemI_bound (un s) i d _ (by rw [length_un]; omega) hei
            have hib := hb.1
            have hjl := hb.2.1
            rw [length_un] at hjl
            go_wp2_with fail
            refine (r18_skip s j _ hjs (by omega)).mono ?_; rintro e w' ⟨rfl, rfl⟩
            by_cases hst : stopAt (un s) (blkEnd (un s) j)
            · have heo := elemO_some _ _ _ hei hst
              have hst2 : Hid (parseI (un s) (blkEnd (un s) j) (D ++ [d]) = R) := by rw [← hpi1.out, hsome.out _ heo]; rfl
              clear hpi1 hnone hsome hel heo hei hb
              generalize blkEnd (un s) j = q at *
              by_cases hqe : q < s.size
              · have h59q : atN (un s) q = 59 := by
                  have : atN (un s) q ≠ 256 := by rw [atN_un s q hqe]; have := s[q].toNat_lt; omega
                  rcases hst with h | h
                  · exact h
                  · exact absurd h this
                have hst3 : Hid (parseI (un s) (q + 1) (D ++ [d]) = R) := by rw [← hst2.out, parseI_semi _ _ _ h59q]; rfl
                rw [atN_un s q hqe] at h59q
                clear hst2 hst
                go_wp2_with (at_builtin; refine wpList_append_own _ rfl (.tmp 52) (.tmp 54) 39 rfl w.heap.size 41 iD0 (.agg #[.string ⟨#[]⟩, .string ⟨#[]⟩, .bool false]) 3 40 Try.underlying39 iD.1 iD.2.1 iD.2.2.1 iD.2.2.2 rfl (by decide) _ _ _ rfl ((hown3.alloc _).alloc _) ⟨_, 0, none⟩ 1 1 [.string (mk d.1), .string (mk d.2.1), .bool d.2.2] rfl rfl (cells3_at' _ _ _ _ _ _ (by simp)) (by intro u hu; simp at hu; rcases hu with rfl | rfl | rfl <;> rfl) (by unfold maxLen; omega) (by omega) (by have := hnx3.size; simp; omega) ?_; intro v1 w5 hown5 hgrow5 hnil5)
                go_roundw
                case rel =>
                  refine ⟨q + 1, D ++ [d], by go_num, by omega, ?_, by simp; omega, ((hnx3.alloc hnx3.size _).alloc (by have := hnx3.size; simp; omega) _).grown hgrow5 (by have := hnx3.size; simp; omega) (fun b hb => (hown3.lt b hb).1), hst3⟩
                  rw [← dcells_snoc, List.length_append]
                  exact hown5
                case measure => simp [intOf]; omega
              · have hfin : Hid (R = (D ++ [d], 0)) := by rw [← hst2.out, parseI_end _ _ _ (by rw [length_un]; omega)]; rfl
                clear hst2 hst
                go_wp2_with (at_builtin; refine wpList_append_own _ rfl (.tmp 52) (.tmp 54) 39 rfl w.heap.size 41 iD0 (.agg #[.string ⟨#[]⟩, .string ⟨#[]⟩, .bool false]) 3 40 Try.underlying39 iD.1 iD.2.1 iD.2.2.1 iD.2.2.2 rfl (by decide) _ _ _ rfl ((hown3.alloc _).alloc _) ⟨_, 0, none⟩ 1 1 [.string (mk d.1), .string (mk d.2.1), .bool d.2.2] rfl rfl (cells3_at' _ _ _ _ _ _ (by simp)) (by intro u hu; simp at hu; rcases hu with rfl | rfl | rfl <;> rfl) (by unfold maxLen; omega) (by omega) (by have := hnx3.size; simp; omega) ?_; intro v1 w5 hown5 hgrow5 hnil5)
                go_ret2
                refine ⟨_, by rw [hfin.out]; rfl, ?_, ((hnx3.alloc hnx3.size _).alloc (by have := hnx3.size; simp; omega) _).grown hgrow5 (by have := hnx3.size; simp; omega) (fun b hb => (hown3.lt b hb).1)⟩
                rw [hfin.out]
                simp only
                rw [← dcells_snoc, List.length_append]
                exact hown5
            · have heo := elemO_stop _ _ _ hei hst
              have hfin : Hid (R = ([], 4)) := by rw [← hpi1.out, hnone.out heo]; rfl
              have hqe : blkEnd (un s) j < s.size := by
                by_cases h : blkEnd (un s) j < s.size
                · exact h
                · exact absurd (Or.inr (atN_out (un s) _ (by rw [length_un]; omega))) hst
              have hqn : atN (un s) (blkEnd (un s) j) ≠ 59 := fun h => hst (.inl h)
              rw [atN_un s _ hqe] at hqn
              clear hpi1 hnone hsome hel heo hei hb hst
              generalize blkEnd (un s) j = q at *
              go_wp2_with fail
              go_ret2
              exact ⟨_, by rw [hfin.out]; rfl, by rw [hfin.out]; exact World.ownsRow_nil _ _ _ _, hnx3.alloc hnx3.size _⟩
    · have hfin : Hid (R = (D, 0)) := by rw [← hpi1.out, parseI_end _ _ _ (by rw [length_un]; omega)]; rfl
      clear hpi1 hid
      go_wp2_with fail
      go_ret2
      exact ⟨_, by rw [hfin.out]; rfl, by rw [hfin.out]; exact hown, hnx⟩

/-- Parse of the reference: the directives, the error. -/
theorem r18_parse (s : ByteArray) (w : World) (hs : s.size ≤ 100000000) : Calls Try.prog 31 #[.string s] w fun e w' => ∃ v, e = .returned (.tuple #[v, .int .i64 (parseD (un s)).2]) ∧ w'.ownsRow w.heap.size 41 3 v (parseD (un s)).1.length (dcells (parseD (un s)).1) ∧ Below w.heap.size w w' := by
  by_cases h : s.size ≤ 4096
  · rw [parseD_short (un s) (by rw [length_un]; omega)]
    exact r18_parse_short s w h
  · rw [parseD_long (un s) (by rw [length_un]; omega)]
    have hl : ¬ ((s.size : Int) ≤ 4096) := by omega
    go_enter Try.func31, Try.ntmps31
    go_wp2
    go_ret2
    exact ⟨_, rfl, World.ownsRow_nil _ _ _ _, Below.refl _ _⟩
end Go.Proofs.Ytjdkmidajhbefaa
