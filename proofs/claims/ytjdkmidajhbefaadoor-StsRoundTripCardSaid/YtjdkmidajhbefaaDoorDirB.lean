/- The walk of Parse of the layer directive (program). Conditions: the text's length is bounded. -/
import Derived.Test.YtjdkmidajhbefaaDoorDirA
namespace Go.Proofs.YtjdkmidajhbefaaDoor
open Go.RowKit Hs
set_option linter.unusedSimpArgs false
set_option linter.unusedVariables false

theorem own_ne {w : World} {g : Nat} {e : TypeId} {size n : Nat} {v : Value} {xs : List Value} (h : w.ownsRow (g + 1) e size v n xs) : v.ownBlock = none ∨ v.ownBlock ≠ some g := by
  cases hv : v.ownBlock with
  | none => exact .inl rfl
  | some b => have := (h.lt b hv).1; exact .inr (by simp; omega)
theorem cells3_new (w : World) (a b c : Value) (T : TypeId) : ∀ j u, [a, b, c][j]? = some u → (w.alloc (.cells #[a, b, c] T)).cell? ((⟨w.heap.size, 0, none⟩ : Addr).add j) = some u := by
  intro j u hj
  have hadd : (⟨w.heap.size, 0, none⟩ : Addr).add j = ⟨w.heap.size, j, none⟩ := by unfold Addr.add; split <;> simp_all
  rw [hadd, World.cell?_alloc_mark]
  simpa using hj

theorem own_slice {w : World} {base : Nat} {e : TypeId} {size n : Nat} {v : Value} {xs : List Value} (h : w.ownsRow base e size v n xs) : ∃ a cap, v = .slice a n cap := by
  rcases h.2 with ⟨rfl, rfl⟩ | ⟨g, cap, cur, rfl, _⟩
  · exact ⟨none, 0, rfl⟩
  · exact ⟨_, cap, rfl⟩
theorem own_base {w : World} {g : Nat} {e : TypeId} {size n : Nat} {v : Value} {xs : List Value} (h : w.ownsRow (g + 1) e size v n xs) : w.ownsRow g e size v n xs :=
  ⟨h.1, h.2.imp id (fun ⟨b, cap, cur, hv, hb, r⟩ => ⟨b, cap, cur, hv, by omega, r⟩)⟩

theorem cells3_at (w : World) (a b c : Value) (T : TypeId) (n : Nat) (hn : n = w.heap.size) : ∀ j u, [a, b, c][j]? = some u → (w.alloc (.cells #[a, b, c] T)).cell? ((⟨n, 0, none⟩ : Addr).add j) = some u := by
  subst hn; exact cells3_new w a b c T

set_option maxHeartbeats 2000000 in
theorem d_parse_short (s : ByteArray) (w : World) (hs : s.size ≤ 4096) : Calls Tryd.prog 10 #[.string s] w fun e w' => ∃ v, e = .returned (.tuple #[v, .int .i64 (parseI (un s) 0 []).2]) ∧ w'.ownsRow w.heap.size 37 3 v (parseI (un s) 0 []).1.length (dcells (parseI (un s) 0 []).1) ∧ Below w.heap.size w w' := by
  obtain ⟨iD0, iD⟩ := info_parts infoDir
  obtain ⟨R, hR⟩ : ∃ R, R = parseI (un s) 0 [] := ⟨_, rfl⟩
  rw [← hR]
  have HR := Lib.hid hR
  clear hR
  go_enter Tryd.func10, Tryd.ntmps10
  go_wp2
  go_step3
  go_wp2
  go_step3
  go_wp2
  go_loopg [4] s.size (fun m v wr => ∃ (k : Nat) (D : List Dir), k ≤ s.size ∧ m = s.size - k ∧ PAt wr w.heap.size s k ∧ wr.ownsRow (w.heap.size + 1) 37 3 v D.length (dcells D) ∧ D.length ≤ 32 ∧ Below w.heap.size w wr ∧ Hid (parseI (un s) k D = R))
  case atStart => exact ⟨0, [], by omega, by omega, heap_alloc_new w _, World.ownsRow_nil _ _ _ _, by simp, (Below.refl _ _).alloc (Nat.le_refl _) _, HR.out.symm⟩
  case round =>
    obtain ⟨k, D, hk, rfl, hp, hown, hD, hnx, hpi⟩ := hrel
    obtain ⟨ao, cap, rfl⟩ := own_slice hown
    go_wp2_with fail
    refine (p_blanks w.heap.size s k _ hp hk (by omega)).mono ?_; rintro e w1 ⟨rfl, hp1, hg1⟩
    have hk1 := blkEnd_le (un s) k (by rw [length_un]; exact hk)
    have hk1g := blkEnd_ge (un s) k
    have hid := blkEnd_idem (un s) k
    have hown1 := hown.kept hg1 (own_ne hown)
    have hnx1 := hnx.grown hg1 (by have := hnx.size; omega) (fun j hj => by cases hj; exact Nat.le_refl _)
    have hpi1 : Hid (parseI (un s) (blkEnd (un s) k) D = R) := by rw [← hpi.out, ← parseI_blank]; rfl
    rw [length_un] at hk1
    have hlw := hp1.lt
    clear hown hnx hpi hp hg1
    generalize blkEnd (un s) k = i at *
    go_wp2_with fail
    refine (p_accept w.heap.size s i 59 _ hp1 hk1 (by omega) (by decide)).mono ?_; rintro e w2 ⟨rfl, hp2, hg2⟩
    have hown2 := hown1.kept hg2 (own_ne hown1)
    have hnx2 := hnx1.grown hg2 (by have := hnx1.size; omega) (fun j hj => by cases hj; exact Nat.le_refl _)
    clear hown1 hnx1 hp1 hg2 hlw
    have hlw := hp2.lt
    by_cases h59 : atN (un s) i = 59
    · have hil := atN_in (un s) i (by omega)
      rw [length_un] at hil
      rw [if_pos h59] at hp2
      rw [decide_eq_true h59]
      have hst : Hid (parseI (un s) (i + 1) D = R) := by rw [← hpi1.out, parseI_semi _ _ _ h59]; rfl
      clear hpi1 h59 hid
      go_wp2_with fail
      go_roundg (s.size - (i + 1))
      case measure => omega
      case rel => exact ⟨i + 1, D, by omega, rfl, hp2, hown2, hD, hnx2, hst⟩
    · rw [if_neg h59] at hp2
      rw [decide_eq_false h59]
      have c1 := hp2.c1
      by_cases hend : i < s.size
      · by_cases h32 : D.length = 32
        · have hfin : Hid (R = ([], 3)) := by rw [← hpi1.out, parseI_limit _ _ _ hid (by rw [length_un]; exact hend) h59 h32]; rfl
          have h32' : (((D.length : Nat) : Int) == 32) = true := by simp; omega
          clear hpi1 h59 hid h32
          go_wp2_with fail
          (try rw [Exit.noGoto_ret])
          go_ret2
          exact ⟨_, by rw [hfin.out]; rfl, by rw [hfin.out]; exact World.ownsRow_nil _ _ _ _, hnx2⟩
        · have h32' : (((D.length : Nat) : Int) == 32) = false := by simp; omega
          have hnone := Lib.hid (parseI_none (un s) i D hid (by rw [length_un]; exact hend) h59 h32)
          have hsome := Lib.hid (fun p => parseI_some (un s) i D p hid (by rw [length_un]; exact hend) h59 h32)
          clear h59 hid
          go_wp2_with fail
          refine (p_element w.heap.size s i _ hp2 hk1 (by omega)).mono ?_; rintro e w3 ⟨d, j, ok, rfl, hp3, hg3, hj, hel⟩
          have hown3 := hown2.kept hg3 (own_ne hown2)
          have hnx3 := hnx2.grown hg3 (by have := hnx2.size; omega) (fun j hj => by cases hj; exact Nat.le_refl _)
          have hlw3 := hp3.lt
          clear hown2 hnx2 hp2 hg3
          unfold dirVal
          cases ok
          · have hfin : Hid (R = ([], 4)) := by rw [← hpi1.out, hnone.out (hel.out.2 rfl)]; rfl
            clear hpi1 hnone hsome hel
            go_wp2_with fail
            (try rw [Exit.noGoto_ret])
            go_ret2
            exact ⟨_, by rw [hfin.out]; rfl, by rw [hfin.out]; exact World.ownsRow_nil _ _ _ _, hnx3.alloc hnx3.size _⟩
          · have hlt := elemI_bound (un s) i d j (by rw [length_un]; omega) (elemO_inv _ _ _ (hel.out.1 rfl)).1
            have hst : Hid (parseI (un s) j (D ++ [d]) = R) := by rw [← hpi1.out, hsome.out _ (hel.out.1 rfl)]; rfl
            have hij := hlt.1
            clear hpi1 hnone hsome hel hlt
            go_wp2_with (at_builtin; refine wpList_append_own _ rfl (.tmp 36) (.tmp 38) 32 rfl (w.heap.size + 1) 37 iD0 (.agg #[.string ⟨#[]⟩, .string ⟨#[]⟩, .bool false]) 3 40 Tryd.underlying32 iD.1 iD.2.1 iD.2.2.1 iD.2.2.2 rfl (by decide) _ _ _ rfl ((hown3.alloc _).alloc _) ⟨_, 0, none⟩ 1 1 [.string (mk d.1), .string (mk d.2.1), .bool d.2.2] rfl rfl (cells3_at _ _ _ _ _ _ (by simp)) (by intro u hu; simp at hu; rcases hu with rfl | rfl | rfl <;> rfl) (by unfold maxLen; omega) (by omega) (by simp; omega) ?_; intro v1 w5 hown5 hgrow5 hnil5)
            go_roundg (s.size - j)
            case measure => omega
            case rel =>
              have hne : some w.heap.size ≠ (Value.slice ao (D.length : Nat) cap).ownBlock := by
                rcases own_ne hown3 with h | h
                · rw [h]; simp
                · exact fun e => h e.symm
              refine ⟨j, D ++ [d], by omega, rfl, ((hp3.alloc _).alloc _).grown hgrow5 hne, ?_, by simp; omega, ((hnx3.alloc hnx3.size _).alloc (by have := hnx3.size; simp; omega) _).grown hgrow5 (by have := hnx3.size; simp; omega) (fun b hb => by have := (hown3.lt b hb).1; omega), hst⟩
              rw [← dcells_snoc, List.length_append]
              exact hown5
      · have hfin : Hid (R = (D, 0)) := by rw [← hpi1.out, parseI_end _ _ _ (by rw [length_un]; omega)]; rfl
        clear hpi1 h59 hid
        go_wp2_with fail
        (try rw [Exit.noGoto_ret])
        go_ret2
        exact ⟨_, by rw [hfin.out]; rfl, by rw [hfin.out]; exact own_base hown2, hnx2⟩

/-- Parse of the program: the directives, the error. -/
theorem d_parse (s : ByteArray) (w : World) (hs : s.size ≤ 100000000) : Calls Tryd.prog 10 #[.string s] w fun e w' => ∃ v, e = .returned (.tuple #[v, .int .i64 (parseD (un s)).2]) ∧ w'.ownsRow w.heap.size 37 3 v (parseD (un s)).1.length (dcells (parseD (un s)).1) ∧ Below w.heap.size w w' := by
  by_cases h : s.size ≤ 4096
  · rw [parseD_short (un s) (by rw [length_un]; omega)]
    exact d_parse_short s w h
  · rw [parseD_long (un s) (by rw [length_un]; omega)]
    have hl : ¬ ((s.size : Int) ≤ 4096) := by omega
    go_enter Tryd.func10, Tryd.ntmps10
    go_wp2
    go_step3
    go_wp2
    (try rw [Exit.noGoto_ret])
    go_ret2
    exact ⟨_, rfl, World.ownsRow_nil _ _ _ _, Below.refl _ _⟩
end Go.Proofs.YtjdkmidajhbefaaDoor
