/- The walk of DirectiveConcat (law of layer 18): it returns true; memory that existed is unchanged. Conditions: none. -/
import Derived.Test.YtjdkmidajhbefaaLaw18
import Derived.Test.YtjdkmidajhbefaaPlainDirL
namespace Go.Proofs.Ytjdkmidajhbefaa
open Go.RowKit Hs
set_option linter.unusedSimpArgs false
set_option linter.unusedVariables false

/-- An empty list that is written out is owned. -/
theorem own_lit (w : World) (base : Nat) (hb : base ≤ w.heap.size) (T : TypeId) (n : Nat) (hn : n = w.heap.size) : (w.alloc (.cells #[] T)).ownsRow base T 3 (.slice (some ⟨n, 0, none⟩) 0 0) 0 [] := by
  subst hn
  exact ⟨rfl, .inr ⟨w.heap.size, 0, #[], rfl, hb, heap_alloc_new w _, Nat.le_refl _, by simp [maxLen], rfl, rfl⟩⟩
theorem own_dcells (l m : List Dir) : dcells l ++ dcells m = dcells (l ++ m) := by simp [dcells]
theorem own_later {w w' : World} {base : Nat} {e : TypeId} {size n : Nat} {v : Value} {xs : List Value} {row : Option Nat} (h : w.ownsRow base e size v n xs) (hg : w.grownBy w' row) (hn : v.ownBlock = none ∨ v.ownBlock ≠ row) : w'.ownsRow base e size v n xs := h.kept hg hn

theorem dcells_one (l : List Dir) : ∀ u ∈ dcells l, u.oneCell' = true := by
  intro u hu
  unfold dcells at hu
  rw [List.mem_flatMap] at hu
  obtain ⟨d, _, hd⟩ := hu
  simp only [List.mem_cons, List.not_mem_nil, or_false] at hd
  rcases hd with rfl | rfl | rfl <;> rfl
/-- The library's laws on append, at an operation with a guard that lets it by. -/
theorem wpList_append_own_g {P : Program} {w : World} {ops : Array Oper} {rest : List Oper} {o : Oper} {a : Act} {Q : Exit → Act → World → Prop} (hw : Region.wanted o (yielded ops a.tmps) = true) (s x : Operand) (t : TypeId)
    (ho : o.op = .call { callee := .builtin .append, args := #[s, x], argTypes := #[t, t] })
    (base : Nat) (e : TypeId) (i : TypeInfo) (z : Value) (size bytes : Nat) (ht : P.underlying t = some (.slice e)) (hi : P.info? e = some i) (hz : i.zero = some z)
    (hsize : i.size = size) (hby : i.bytes = bytes) (hzs : z.cells.size = size) (hsz : 0 < size)
    (v : Value) (n : Nat) (xs : List Value) (hs : a.eval s = v) (hown : w.ownsRow base e size v n xs)
    (ad : Addr) (m c : Nat) (news : List Value) (hx : a.eval x = .slice (some ad) m c) (hl : news.length = m * size) (hnews : ∀ j u, news[j]? = some u → w.cell? (ad.add j) = some u) (h1 : ∀ u ∈ news, u.oneCell' = true)
    (h63 : n + m ≤ maxLen) (hbytes : (n + m) * bytes ≤ 140737488355328) (hbase : base ≤ w.heap.size)
    (h : ∀ v' w', w'.ownsRow base e size v' (n + m) (xs ++ news) → w.grownBy w' v.ownBlock → (v' = .slice none 0 0 ↔ v = .slice none 0 0 ∧ m = 0) → wpList P ops Q rest (a.put o.dst v') w') : wpList P ops Q (o :: rest) a w := by
  unfold wpList
  rw [if_pos hw]
  exact .inl (wp_append_own w s x t ho base e i z size bytes ht hi hz hsize hby hzs hsz v n xs hs hown ad m c news hx hl hnews h1 h63 hbytes hbase h)
theorem wpList_append_none_g {P : Program} {w : World} {ops : Array Oper} {rest : List Oper} {o : Oper} {a : Act} {Q : Exit → Act → World → Prop} (hw : Region.wanted o (yielded ops a.tmps) = true) (s x : Operand) (t : TypeId)
    (ho : o.op = .call { callee := .builtin .append, args := #[s, x], argTypes := #[t, t] })
    (base : Nat) (e : TypeId) (i : TypeInfo) (size : Nat) (ht : P.underlying t = some (.slice e)) (hi : P.info? e = some i)
    (v : Value) (n : Nat) (xs : List Value) (hs : a.eval s = v) (hown : w.ownsRow base e size v n xs) (hx : a.eval x = .slice none 0 0)
    (h : wpList P ops Q rest (a.put o.dst v) w) : wpList P ops Q (o :: rest) a w := by
  have hrun := run_append_owned_none (P := P) (w := w) base t o.type e i size ht hi v n xs hown
  unfold wpList
  rw [if_pos hw]
  refine .inl ?_
  unfold Oper.wp
  simp [execOp, ho, resolve, invoke, builtin, hs, hx, hrun, Result.andThen]
  exact h

/-- Two lists behind one another in a new row; what 'append(append([]Directive{}, l...), m...)' gives. -/
def Joined (w : World) (base : Nat) (v : Value) (L M : List Dir) : Prop := w.ownsRow base 41 3 v (L.length + M.length) (dcells (L ++ M))

set_option maxHeartbeats 4000000 in
theorem concat_walk (a b : ByteArray) (w : World) (ha : a.size ≤ maxLen) (hb : b.size ≤ maxLen) : Calls Try.prog 15 #[.string a, .string b] w fun e w' => e = .returned (.bool true) ∧ Below w.heap.size w w' := by
  obtain ⟨iD0, iD⟩ := info_parts infoDir
  have hst : Strs (w.alloc (.cells #[.string a, .string b] 9)) (.slice (some ⟨w.heap.size, 0, none⟩) 2 2) [un a, un b] := strs_lit w [a, b] _ (by simp [maxLen])
  have HST := Lib.hid hst
  clear hst
  have hle : Hid (∀ t ∈ [un a, un b], t.length ≤ maxLen) := by
    intro t ht
    simp only [List.mem_cons, List.not_mem_nil, or_false] at ht
    rcases ht with rfl | rfl <;> rw [length_un] <;> assumption
  have hall : ([un a, un b].all fun t => decide ((t.length : Int) ≤ 2000)) = decide (a.size ≤ 2000 ∧ b.size ≤ 2000) := by
    rw [Bool.eq_iff_iff]; simp [length_un]; omega
  have b0 : Below w.heap.size w (w.alloc (.cells #[.string a, .string b] 9)) := (Below.refl _ _).alloc (Nat.le_refl _) _
  have B0 := Lib.hid b0
  clear b0 ha hb
  by_cases hs : a.size ≤ 2000 ∧ b.size ≤ 2000
  · have hsh := Lib.hid (hall.trans (decide_eq_true hs))
    obtain ⟨h1, h2⟩ := hs
    clear hall
    have hcc := Lib.hid (fun (L M : List Dir) (hL : parseD (un a) = (L, 0)) (hM : parseD (un b) = (M, 0)) (hn : L.length + M.length ≤ 32) => parseD_concat (un a) (un b) L M hL hM (by rw [length_un, length_un]; omega) hn)
    obtain ⟨⟨L, z1⟩, hL⟩ : ∃ X, parseD (un a) = X := ⟨_, rfl⟩
    obtain ⟨⟨M, z2⟩, hM⟩ : ∃ X, parseD (un b) = X := ⟨_, rfl⟩
    have pa : Hid (∀ W : World, Calls Try.prog 33 #[.string a] W fun e w' => ∃ v, e = .returned (.tuple #[v, .int .i64 z1]) ∧ w'.ownsRow W.heap.size 41 3 v L.length (dcells L) ∧ Below W.heap.size W w') := Lib.hid fun W => by
      have := d_parse a W (by omega)
      rwa [hL] at this
    have pb : Hid (∀ W : World, Calls Try.prog 33 #[.string b] W fun e w' => ∃ v, e = .returned (.tuple #[v, .int .i64 z2]) ∧ w'.ownsRow W.heap.size 41 3 v M.length (dcells M) ∧ Below W.heap.size W w') := Lib.hid fun W => by
      have := d_parse b W (by omega)
      rwa [hM] at this
    have HCC := Lib.hid (fun (h1 : z1 = 0) (h2 : z2 = 0) => hcc.out L M (by rw [hL, h1]) (by rw [hM, h2]))
    have hL32 : L.length ≤ 32 := by have := (parseD_bound (un a)).1; rw [hL] at this; exact this
    have hM32 : M.length ≤ 32 := by have := (parseD_bound (un b)).1; rw [hM] at this; exact this
    clear hcc hL hM
    go_enter Try.func15, Try.ntmps15
    go_wp2_with fail
    refine (keep_short 2000 _ [un a, un b] _ HST.out hle.out).mono ?_; rintro e w' ⟨rfl, rfl⟩
    rw [hsh.out]
    go_wp2_with fail
    refine (pa.out _).mono ?_; rintro e w1 ⟨v1, rfl, hown1, hb1⟩
    obtain ⟨a1, cap1, rfl⟩ := own_slice hown1
    have b1 := B0.out.trans (hb1.mono B0.out.size)
    go_wp2_with fail
    refine (pb.out _).mono ?_; rintro e w2 ⟨v2, rfl, hown2, hb2⟩
    obtain ⟨a2, cap2, rfl⟩ := own_slice hown2
    have hown1' := own_below hown1 hb2
    have b2 := b1.trans (hb2.mono b1.size)
    clear hown1 hb1 hb2 b1
    have hcase : (z1 = 0 ∧ z2 = 0 ∧ L.length + M.length ≤ 32) ∨ (z1 = 0 ∧ z2 = 0 ∧ ¬ L.length + M.length ≤ 32) ∨ (z1 = 0 ∧ z2 ≠ 0) ∨ z1 ≠ 0 := by omega
    have AW := Lib.hid (fun W => law18_awake W)
    rcases hcase with ⟨rfl, rfl, hn⟩ | ⟨rfl, rfl, hn⟩ | ⟨rfl, hz⟩ | hz
    · have HP := Lib.hid (HCC.out rfl rfl hn)
      have hsz : (a ++ (ByteArray.mk #[59]) ++ b).size ≤ 4001 := by rw [ByteArray.size_append, ByteArray.size_append]; show a.size + 1 + b.size ≤ _; omega
      clear HCC
      go_wp2_with fail
      refine (d_parse (a ++ (ByteArray.mk #[59]) ++ b) _ (by omega)).mono ?_; rintro e w3 ⟨v3, rfl, hown3, hb3⟩
      have hun : un (a ++ (ByteArray.mk #[59]) ++ b) = un a ++ 59 :: un b := by rw [un_append, un_append]; simp [un]
      rw [hun, HP.out] at hown3 ⊢
      have o1 := own_below hown1' hb3
      have o2 := own_below hown2 hb3
      have b3 := b2.trans (hb3.mono b2.size)
      have hd3 := Dirs.owned hown3
      clear hown1' hown2 hown3 hb3 b2 hun
      have hgs : w3.heap.size ≤ w3.heap.size := Nat.le_refl _
      rcases o1.2 with ⟨hv1, hn1⟩ | ⟨g1, cp1, cur1, hv1, hg1, hh1, _⟩
      · have hL0 : L = [] := List.eq_nil_of_length_eq_zero hn1
        subst hL0
        cases hv1
        rcases o2.2 with ⟨hv2, hn2⟩ | ⟨g2, cp2, cur2, hv2, hg2, hh2, _⟩
        · have hM0 : M = [] := List.eq_nil_of_length_eq_zero hn2
          subst hM0
          cases hv2
          go_wp2_with (first | (at_builtin; refine wpList_append_none_g (by rfl) (.tmp 54) (.tmp 55) 39 rfl w3.heap.size 41 iD0 3 Try.underlying39 iD.1 _ 0 [] rfl (own_lit w3 w3.heap.size (Nat.le_refl _) _ _ rfl) rfl ?_) | (at_builtin; refine wpList_append_none_g (by rfl) (.tmp 56) (.tmp 57) 39 rfl w3.heap.size 41 iD0 3 Try.underlying39 iD.1 _ 0 [] rfl (own_lit w3 w3.heap.size (Nat.le_refl _) _ _ rfl) rfl ?_))
          have hd4 : Dirs (w3.alloc (.cells #[] 41)) (.slice (some ⟨w3.heap.size, 0, none⟩) 0 0) ([] ++ [] : List Dir) := Dirs.owned (own_lit w3 w3.heap.size (Nat.le_refl _) _ _ rfl)
          have hd5 := hd3.below ((Below.refl _ _).alloc (Nat.le_refl _) (.cells #[] 41))
          have b4 := b3.alloc b3.size (.cells #[] 41)
          refine (keep_directives v3 _ ([] ++ []) ([] ++ []) _ hd5 hd4).mono ?_; rintro e w7 ⟨rfl, hb7⟩
          rw [decide_eq_true rfl]
          go_wp2_with fail
          refine (AW.out _).mono ?_; rintro e w8 ⟨rfl, hb8⟩
          go_wp2_with fail
          go_ret
          exact ⟨rfl, (b4.trans (hb7.mono b4.size)).trans (hb8.mono (b4.trans (hb7.mono b4.size)).size)⟩
        · cases hv2
          go_wp2_with (first | (at_builtin; refine wpList_append_none_g (by rfl) (.tmp 54) (.tmp 55) 39 rfl w3.heap.size 41 iD0 3 Try.underlying39 iD.1 _ 0 [] rfl (own_lit w3 w3.heap.size (Nat.le_refl _) _ _ rfl) rfl ?_) | (at_builtin; refine wpList_append_own_g (by rfl) (.tmp 56) (.tmp 57) 39 rfl w3.heap.size 41 iD0 (.agg #[.string ⟨#[]⟩, .string ⟨#[]⟩, .bool false]) 3 40 Try.underlying39 iD.1 iD.2.1 iD.2.2.1 iD.2.2.2 rfl (by decide) _ 0 [] rfl (own_lit w3 w3.heap.size (Nat.le_refl _) _ _ rfl) ⟨g2, 0, none⟩ M.length _ (dcells M) rfl (length_dcells M) ((o2.alloc _).cells rfl) (dcells_one M) (by unfold maxLen; omega) (by omega) (by first | (simp; done) | (have := hgs; simp at *; omega)) ?_; intro vb wb hownb hgrowb hnilb))
          have hd4 : Dirs _ _ ([] ++ M) := Dirs.owned (by rw [List.length_append, ← own_dcells]; simpa [dcells] using hownb)
          have bel : Below w3.heap.size w3 _ := ((Below.refl w3.heap.size w3).alloc (Nat.le_refl _) (.cells #[] 41)).grown hgrowb (by simp) (fun k hk => by cases hk; exact Nat.le_refl _)
          have hd5 := hd3.below bel
          have b4 := b3.trans (bel.mono b3.size)
          clear o1 o2 hd3 b3
          refine (keep_directives v3 _ ([] ++ M) ([] ++ M) _ hd5 hd4).mono ?_; rintro e w7 ⟨rfl, hb7⟩
          rw [decide_eq_true rfl]
          go_wp2_with fail
          refine (AW.out _).mono ?_; rintro e w8 ⟨rfl, hb8⟩
          go_wp2_with fail
          go_ret
          exact ⟨rfl, (b4.trans (hb7.mono b4.size)).trans (hb8.mono (b4.trans (hb7.mono b4.size)).size)⟩
      · cases hv1
        rcases o2.2 with ⟨hv2, hn2⟩ | ⟨g2, cp2, cur2, hv2, hg2, hh2, _⟩
        · have hM0 : M = [] := List.eq_nil_of_length_eq_zero hn2
          subst hM0
          cases hv2
          go_wp2_with (first | (at_builtin; refine wpList_append_own_g (by rfl) (.tmp 54) (.tmp 55) 39 rfl w3.heap.size 41 iD0 (.agg #[.string ⟨#[]⟩, .string ⟨#[]⟩, .bool false]) 3 40 Try.underlying39 iD.1 iD.2.1 iD.2.2.1 iD.2.2.2 rfl (by decide) _ 0 [] rfl (own_lit w3 w3.heap.size (Nat.le_refl _) _ _ rfl) ⟨g1, 0, none⟩ L.length _ (dcells L) rfl (length_dcells L) ((o1.alloc _).cells rfl) (dcells_one L) (by unfold maxLen; omega) (by omega) (by first | (simp; done) | (have := hgs; simp at *; omega)) ?_; intro va wa howna hgrowa hnila) | (at_builtin; refine wpList_append_none_g (by rfl) (.tmp 56) (.tmp 57) 39 rfl w3.heap.size 41 iD0 3 Try.underlying39 iD.1 _ _ _ rfl howna rfl ?_))
          have hd4 : Dirs _ _ (L ++ []) := Dirs.owned (by rw [List.length_append, ← own_dcells]; simpa [dcells] using howna)
          have bel : Below w3.heap.size w3 _ := ((Below.refl w3.heap.size w3).alloc (Nat.le_refl _) (.cells #[] 41)).grown hgrowa (by simp) (fun k hk => by cases hk; exact Nat.le_refl _)
          have hd5 := hd3.below bel
          have b4 := b3.trans (bel.mono b3.size)
          clear o1 o2 hd3 b3
          refine (keep_directives v3 _ (L ++ []) (L ++ []) _ hd5 hd4).mono ?_; rintro e w7 ⟨rfl, hb7⟩
          rw [decide_eq_true rfl]
          go_wp2_with fail
          refine (AW.out _).mono ?_; rintro e w8 ⟨rfl, hb8⟩
          go_wp2_with fail
          go_ret
          exact ⟨rfl, (b4.trans (hb7.mono b4.size)).trans (hb8.mono (b4.trans (hb7.mono b4.size)).size)⟩
        · cases hv2
          have hg2l : g2 < w3.heap.size := (Array.getElem?_eq_some_iff.1 hh2).1
          go_wp2_with (first | (at_builtin; refine wpList_append_own_g (by rfl) (.tmp 54) (.tmp 55) 39 rfl w3.heap.size 41 iD0 (.agg #[.string ⟨#[]⟩, .string ⟨#[]⟩, .bool false]) 3 40 Try.underlying39 iD.1 iD.2.1 iD.2.2.1 iD.2.2.2 rfl (by decide) _ 0 [] rfl (own_lit w3 w3.heap.size (Nat.le_refl _) _ _ rfl) ⟨g1, 0, none⟩ L.length _ (dcells L) rfl (length_dcells L) ((o1.alloc _).cells rfl) (dcells_one L) (by unfold maxLen; omega) (by omega) (by first | (simp; done) | (have := hgs; simp at *; omega)) ?_; intro va wa howna hgrowa hnila) | (at_builtin; refine wpList_append_own_g (by rfl) (.tmp 56) (.tmp 57) 39 rfl w3.heap.size 41 iD0 (.agg #[.string ⟨#[]⟩, .string ⟨#[]⟩, .bool false]) 3 40 Try.underlying39 iD.1 iD.2.1 iD.2.2.1 iD.2.2.2 rfl (by decide) _ _ _ rfl howna ⟨g2, 0, none⟩ M.length _ (dcells M) rfl (length_dcells M) ((own_later (o2.alloc _) hgrowa (.inr (fun e => absurd (Option.some.inj e) (Nat.ne_of_lt hg2l)))).cells rfl) (dcells_one M) (by unfold maxLen; omega) (by omega) (Nat.le_trans (by simp) hgrowa.size) ?_; intro vb wb hownb hgrowb hnilb))
          have hd4 : Dirs _ _ (L ++ M) := Dirs.owned (by rw [List.length_append, ← own_dcells]; simpa [dcells] using hownb)
          have bel : Below w3.heap.size w3 _ := (((Below.refl w3.heap.size w3).alloc (Nat.le_refl _) (.cells #[] 41)).grown hgrowa (by simp) (fun k hk => by cases hk; exact Nat.le_refl _)).grown hgrowb (by have := hgrowa.size; simp at this; omega) (fun k hk => (howna.lt k hk).1)
          have hd5 := hd3.below bel
          have b4 := b3.trans (bel.mono b3.size)
          clear o1 o2 hd3 b3
          refine (keep_directives v3 _ (L ++ M) (L ++ M) _ hd5 hd4).mono ?_; rintro e w7 ⟨rfl, hb7⟩
          rw [decide_eq_true rfl]
          go_wp2_with fail
          refine (AW.out _).mono ?_; rintro e w8 ⟨rfl, hb8⟩
          go_wp2_with fail
          go_ret
          exact ⟨rfl, (b4.trans (hb7.mono b4.size)).trans (hb8.mono (b4.trans (hb7.mono b4.size)).size)⟩
    · have hn' : ¬ ((L.length : Int) + (M.length : Int) ≤ 32) := by omega
      go_wp2_with fail
      refine (AW.out _).mono ?_; rintro e w5 ⟨rfl, hb5⟩
      go_wp2_with fail
      go_ret
      exact ⟨rfl, b2.trans (hb5.mono b2.size)⟩
    · have hz1 : (z2 != 0) = true := by simpa using hz
      go_wp2_with fail
      refine (AW.out _).mono ?_; rintro e w5 ⟨rfl, hb5⟩
      go_wp2_with fail
      go_ret
      exact ⟨rfl, b2.trans (hb5.mono b2.size)⟩
    · have hz1 : (z1 != 0) = true := by simpa using hz
      go_wp2_with fail
      refine (AW.out _).mono ?_; rintro e w5 ⟨rfl, hb5⟩
      go_wp2_with fail
      go_ret
      exact ⟨rfl, b2.trans (hb5.mono b2.size)⟩
  · have hsh := Lib.hid (hall.trans (decide_eq_false hs))
    clear hall hs
    go_enter Try.func15, Try.ntmps15
    go_wp2_with fail
    refine (keep_short 2000 _ [un a, un b] _ HST.out hle.out).mono ?_; rintro e w' ⟨rfl, rfl⟩
    rw [hsh.out]
    go_wp2_with fail
    refine (law18_awake _).mono ?_; rintro e w1 ⟨rfl, hb1⟩
    go_wp2_with fail
    go_ret
    exact ⟨rfl, B0.out.trans (hb1.mono B0.out.size)⟩
end Go.Proofs.Ytjdkmidajhbefaa
