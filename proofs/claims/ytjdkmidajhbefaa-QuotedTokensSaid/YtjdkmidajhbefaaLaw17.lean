/- The walks of the laws of layer 17 (quoted): each returns true; memory that existed is unchanged. Conditions: none. -/
import Derived.Test.YtjdkmidajhbefaaQuotedP
import Derived.Test.YtjdkmidajhbefaaQuotedR
import Derived.Test.YtjdkmidajhbefaaQuotedQ
import Derived.Test.YtjdkmidajhbefaaAsciiWords
import Derived.Test.YtjdkmidajhbefaaKeepMod
namespace Go.Proofs.Ytjdkmidajhbefaa
open Go.RowKit Hs
set_option linter.unusedSimpArgs false
set_option linter.unusedVariables false

theorem law17_awake (w : World) : Calls Try.prog 16 #[] w fun e w' => e = .returned (.bool true) ∧ Below w.heap.size w w' := by
  have e1 : qval (parseQ (un ⟨#[120, 61, 34, 97, 92, 34, 98, 34]⟩) 2) = .tuple #[.string ⟨#[97, 34, 98]⟩, .int .i64 8, .int .i64 0] := by rfl
  have e2 : quval (quoteR (un ⟨#[97, 34, 98]⟩)) = .tuple #[.string ⟨#[34, 97, 92, 34, 98, 34]⟩, .int .i64 0] := by rfl
  have e3 : qval (parseQ (un ⟨#[34, 97]⟩) 0) = .tuple #[.string ⟨#[]⟩, .int .i64 0, .int .i64 5] := by rfl
  have e4 : tokenS (un ⟨#[97, 45, 98]⟩) = true := by rfl
  have e5 : tokEnd (un ⟨#[97, 98, 32, 99]⟩) 0 = 2 := by rfl
  have E1 := Lib.hid e1; have E2 := Lib.hid e2; have E3 := Lib.hid e3; have E4 := Lib.hid e4; have E5 := Lib.hid e5
  clear e1 e2 e3 e4 e5
  go_enter Try.func16, Try.ntmps16
  go_wp2_with fail
  refine (q_parse _ 2 _ (by decide)).mono ?_; rintro e w1 ⟨rfl, hb1⟩
  rw [E1.out]
  go_wp2_with fail
  refine (q_quote _ _ (by decide)).mono ?_; rintro e w2 ⟨rfl, hb2⟩
  rw [E2.out]
  go_wp2_with fail
  refine (q_parse _ 0 _ (by decide)).mono ?_; rintro e w3 ⟨rfl, hb3⟩
  rw [E3.out]
  go_wp2_with fail
  refine (q_isTokenS _ _ (by decide)).mono ?_; rintro e w4 ⟨rfl, rfl⟩
  rw [E4.out]
  go_wp2_with fail
  refine (q_token _ 0 _ (by decide)).mono ?_; rintro e w4 ⟨rfl, rfl⟩
  rw [E5.out]
  go_wp2_with fail
  go_ret
  refine ⟨rfl, ?_⟩
  exact by have c0 := Below.refl w.heap.size w; have c1 := c0.trans (hb1.mono c0.size); have c2 := c1.trans (hb2.mono c1.size); have c3 := c2.trans (hb3.mono c2.size); exact c3

set_option maxHeartbeats 1600000 in
theorem quote_walk (s : ByteArray) (w : World) (hs : s.size ≤ maxLen) : Calls Try.prog 4 #[.string s] w fun e w' => e = .returned (.bool true) ∧ Below w.heap.size w w' := by
  unfold maxLen at hs
  by_cases hl : s.size ≤ 2000
  · clear hs
    go_enter Try.func4, Try.ntmps4
    go_wp2_with fail
    refine (q_quote s _ (by omega)).mono ?_; rintro e w1 ⟨rfl, hb1⟩
    go_wp2_with fail
    refine (r_quote s _ (by omega)).mono ?_; rintro e w2 ⟨rfl, rfl⟩
    go_wp2_with fail
    refine (law17_awake _).mono ?_; rintro e w2 ⟨rfl, hb2⟩
    go_wp2_with fail
    go_ret
    refine ⟨rfl, ?_⟩
    exact by have c0 := Below.refl w.heap.size w; have c1 := c0.trans (hb1.mono c0.size); have c2 := c1.trans (hb2.mono c1.size); exact c2
  · go_enter Try.func4, Try.ntmps4
    go_wp2_with fail
    refine (law17_awake _).mono ?_; rintro e w1 ⟨rfl, hb1⟩
    go_wp2_with fail
    go_ret
    exact ⟨rfl, hb1⟩

/-- A slice of two numbers that the call has made. -/
theorem ints_two (w : World) (a b : Int) (T : TypeId) : ∀ k, k < 2 → (w.alloc (.cells #[.int .i64 a, .int .i64 b] T)).cell? ⟨w.heap.size, 0 + k, none⟩ = some (.int .i64 (if k = 0 then a else b)) := by
  intro k hk
  rw [Nat.zero_add, World.cell?_alloc_mark]
  match k, hk with
  | 0, _ => rfl
  | 1, _ => rfl

set_option maxHeartbeats 3000000 in
theorem parse_walk (s : ByteArray) (i : Int) (w : World) (hs : s.size ≤ maxLen) (hi : (Lit.int .i64 i).wf = true) : Calls Try.prog 3 #[.string s, .int .i64 i] w fun e w' => e = .returned (.bool true) ∧ Below w.heap.size w w' := by
  unfold maxLen at hs
  by_cases hl : s.size ≤ 2000
  · clear hs
    go_enter Try.func3, Try.ntmps3
    go_wp2_with fail
    refine (keep_mod i _ _ hi (by omega) (by omega)).mono ?_; rintro e w' ⟨rfl, rfl⟩
    obtain ⟨m, hm⟩ : ∃ m, m = i % ((s.size : Int) + 1) := ⟨_, rfl⟩
    rw [← hm]
    clear hm hi
    go_wp2_with fail
    have hcs := ints_two w i m 3
    have HC := Lib.hid hcs
    clear hcs
    go_loopw [6] (fun kv wr => ∃ k : Nat, kv = .int .i64 k ∧ k ≤ 2 ∧ Below (w.alloc (.cells #[.int .i64 i, .int .i64 m] 3)).heap.size (w.alloc (.cells #[.int .i64 i, .int .i64 m] 3)) wr) (fun kv _ => 2 - (intOf kv).toNat)
    case atStart => exact ⟨0, rfl, by omega, Below.refl _ _⟩
    case round =>
      obtain ⟨k, rfl, hk, hnx⟩ := hrel
      have hsz := hnx.size
      by_cases hlt : k < 2
      · have hc := (hnx.cell (p := ⟨w.heap.size, 0 + k, none⟩) (by simp)).trans (HC.out k hlt)
        rw [Nat.zero_add] at hc
        obtain ⟨x, hx⟩ : ∃ x : Int, x = (if k = 0 then i else m) := ⟨_, rfl⟩
        rw [← hx] at hc
        clear hx
        go_wp2_with fail
        refine (q_parse s x _ (by omega)).mono ?_; rintro e w1 ⟨rfl, hb1⟩
        have hc1 := ((bcell hb1).1 w.heap.size k (by have := hnx.size; simp at this; omega)).trans hc
        go_wp2_with fail
        refine (r_parse s x _ (by omega)).mono ?_; rintro e w2 ⟨rfl, hb2⟩
        have hc2 := ((bcell hb2).1 w.heap.size k (by have := hnx.size; have := hb1.size; simp at *; omega)).trans hc1
        clear hc hc1
        go_wp2_with fail
        go_quiet ((first | (go_at_call 20; exact Calls.quiet_of_same ((q_token_any s x _ (by omega)).mono (fun _ _ h => ⟨h.1, h.2.symm⟩))) | (go_at_call 21; exact Calls.quiet_of_same ((r_token_any s x _ (by omega)).mono (fun _ _ h => ⟨h.1, h.2.symm⟩)))))
        go_wp2
        go_roundw
        case rel => exact ⟨k + 1, by go_num, by omega, by first | exact (hnx.trans (hb1.mono hnx.size)).trans (hb2.mono (by have := hb1.size; omega)) | exact below_drewN ((hnx.trans (hb1.mono hnx.size)).trans (hb2.mono (by have := hb1.size; omega))) _⟩
        case measure => simp [intOf]; omega
      · obtain rfl : k = 2 := by omega
        have c0 : Below w.heap.size w wr := ((Below.refl w.heap.size w).alloc (Nat.le_refl _) _).trans (hnx.mono (by simp))
        go_wp2_with fail
        refine (q_isTokenS s _ (by omega)).mono ?_; rintro e w' ⟨rfl, rfl⟩
        go_wp2_with fail
        refine (r_isTokenS s _ (by omega)).mono ?_; rintro e w' ⟨rfl, rfl⟩
        go_wp2_with fail
        refine (law17_awake _).mono ?_; rintro e w1 ⟨rfl, hb1⟩
        go_wp2_with fail
        go_ret
        exact ⟨rfl, c0.trans (hb1.mono c0.size)⟩
  · clear hi
    go_enter Try.func3, Try.ntmps3
    go_wp2_with fail
    refine (law17_awake _).mono ?_; rintro e w1 ⟨rfl, hb1⟩
    go_wp2_with fail
    go_ret
    exact ⟨rfl, hb1⟩

set_option maxHeartbeats 3000000 in
theorem roundTrip_walk (v b z : ByteArray) (w : World) (hv : v.size ≤ maxLen) (hb : b.size ≤ maxLen) (hz : z.size ≤ maxLen) : Calls Try.prog 5 #[.string v, .string b, .string z] w fun e w' => e = .returned (.bool true) ∧ Below w.heap.size w w' := by
  have hst : Strs (w.alloc (.cells #[.string v, .string b, .string z] 9)) (.slice (some ⟨w.heap.size, 0, none⟩) 3 3) [un v, un b, un z] := strs_lit w [v, b, z] _ (by simp [maxLen])
  have HST := Lib.hid hst
  clear hst
  have hle : Hid (∀ t ∈ [un v, un b, un z], t.length ≤ maxLen) := by
    intro t ht
    simp only [List.mem_cons, List.not_mem_nil, or_false] at ht
    rcases ht with rfl | rfl | rfl <;> rw [length_un] <;> assumption
  have hall : ([un v, un b, un z].all fun t => decide ((t.length : Int) ≤ 1000)) = decide (v.size ≤ 1000 ∧ b.size ≤ 1000 ∧ z.size ≤ 1000) := by
    rw [Bool.eq_iff_iff]; simp [length_un]; omega
  have b0 : Below w.heap.size w (w.alloc (.cells #[.string v, .string b, .string z] 9)) := (Below.refl _ _).alloc (Nat.le_refl _) _
  have B0 := Lib.hid b0
  clear b0 hv hb hz
  by_cases hs : v.size ≤ 1000 ∧ b.size ≤ 1000 ∧ z.size ≤ 1000
  · have hsh := Lib.hid (hall.trans (decide_eq_true hs))
    obtain ⟨h1, h2, h3⟩ := hs
    clear hall
    cases ha : (un v).all isTxt
    · have hq := Lib.hid (show quval (quoteR (un v)) = .tuple #[.string ⟨#[]⟩, .int .i64 4] from by rw [quoteR_no _ ha]; rfl)
      clear ha
      go_enter Try.func5, Try.ntmps5
      go_wp2_with fail
      refine (keep_short 1000 _ [un v, un b, un z] _ HST.out hle.out).mono ?_; rintro e w' ⟨rfl, rfl⟩
      rw [hsh.out]
      go_wp2_with fail
      refine (q_quote v _ (by omega)).mono ?_; rintro e w1 ⟨rfl, hb1⟩
      rw [hq.out]
      go_wp2_with fail
      refine (law17_awake _).mono ?_; rintro e w2 ⟨rfl, hb2⟩
      go_wp2_with fail
      go_ret
      refine ⟨rfl, ?_⟩
      exact by have c0 := B0.out; have c1 := c0.trans (hb1.mono c0.size); have c2 := c1.trans (hb2.mono c1.size); exact c2
    · have hq := Lib.hid (quoteR_yes _ ha)
      have hp := Lib.hid (parseQ_quote (un v) (un b) (un z) ha)
      have hql : (quoteB (un v)).length ≤ 2002 := by
        have := length_quoteBody (un v)
        rw [length_un] at this
        unfold quoteB
        simp; omega
      have hqs : (mk (quoteB (un v))).size = (quoteB (un v)).length := size_mk _
      clear ha
      go_enter Try.func5, Try.ntmps5
      go_wp2_with fail
      refine (keep_short 1000 _ [un v, un b, un z] _ HST.out hle.out).mono ?_; rintro e w' ⟨rfl, rfl⟩
      rw [hsh.out]
      go_wp2_with fail
      refine (q_quote v _ (by omega)).mono ?_; rintro e w1 ⟨rfl, hb1⟩
      rw [hq.out]
      go_wp2_with fail
      refine (q_parse (b ++ mk (quoteB (un v)) ++ z) _ _ (by rw [ByteArray.size_append, ByteArray.size_append, hqs]; omega)).mono ?_; rintro e w2 ⟨rfl, hb2⟩
      have hres : qval (parseQ (un (b ++ mk (quoteB (un v)) ++ z)) (b.size : Int)) = .tuple #[.string v, .int .i64 ((b.size : Int) + ((quoteB (un v)).length : Int)), .int .i64 0] := by
        have e := hp.out
        rw [length_un] at e
        rw [un_append, un_append, un_mk, List.append_assoc, e]
        simp [qval]
      rw [hres]
      clear hres
      go_wp2_with fail
      refine (law17_awake _).mono ?_; rintro e w3 ⟨rfl, hb3⟩
      go_wp2_with fail
      go_ret
      refine ⟨rfl, ?_⟩
      exact by have c0 := B0.out; have c1 := c0.trans (hb1.mono c0.size); have c2 := c1.trans (hb2.mono c1.size); have c3 := c2.trans (hb3.mono c2.size); exact c3
  · have hsh := Lib.hid (hall.trans (decide_eq_false hs))
    clear hall hs
    go_enter Try.func5, Try.ntmps5
    go_wp2_with fail
    refine (keep_short 1000 _ [un v, un b, un z] _ HST.out hle.out).mono ?_; rintro e w' ⟨rfl, rfl⟩
    rw [hsh.out]
    go_wp2_with fail
    refine (law17_awake _).mono ?_; rintro e w1 ⟨rfl, hb1⟩
    go_wp2_with fail
    go_ret
    exact ⟨rfl, B0.out.trans (hb1.mono B0.out.size)⟩

set_option maxHeartbeats 4000000 in
theorem tokens_walk (s : ByteArray) (i : Int) (w : World) (hs : s.size ≤ maxLen) (hi : (Lit.int .i64 i).wf = true) : Calls Try.prog 6 #[.string s, .int .i64 i] w fun e w' => e = .returned (.bool true) ∧ Below w.heap.size w w' := by
  unfold maxLen at hs
  by_cases hl : s.size ≤ 1000
  · clear hs
    obtain ⟨k, hk, hks⟩ : ∃ k : Nat, (i % ((s.size : Int) + 1)) = k ∧ k ≤ s.size := ⟨(i % ((s.size : Int) + 1)).toNat, by have := Int.emod_nonneg i (show (s.size : Int) + 1 ≠ 0 by omega); omega, by have := Int.emod_lt_of_pos i (show 0 < (s.size : Int) + 1 by omega); have := Int.emod_nonneg i (show (s.size : Int) + 1 ≠ 0 by omega); omega⟩
    have HK := Lib.hid hk
    have hge := tokEnd_ge (un s) k
    have hle := tokEnd_le (un s) k (by rw [length_un]; exact hks)
    rw [length_un] at hle
    have hyes := Lib.hid (tok_seg_S (un s) k (by rw [length_un]; exact hks))
    have hnext := Lib.hid (tok_seg_next (un s) k (by rw [length_un]; exact hks))
    have hpq := Lib.hid (parseQ_token (seg (un s) k (tokEnd (un s) k)) (tok_seg (un s) k))
    have hsl := length_seg (un s) k (tokEnd (un s) k) hge (by rw [length_un]; exact hle)
    have HSL := Lib.hid hsl
    obtain ⟨n, hn⟩ : ∃ n, n = tokEnd (un s) k := ⟨_, rfl⟩
    rw [← hn] at hge hle hyes hnext hpq HSL
    have HN := Lib.hid hn
    clear hn hsl hk
    have hexs : (s.extract k n).size ≤ 1000 := by rw [ByteArray.size_extract]; omega
    have hexs2 : (s.extract k (n + 1)).size ≤ 1000 := by rw [ByteArray.size_extract]; omega
    have hex := Lib.hid (un_extract_seg s k n)
    have hex2 := Lib.hid (un_extract_seg s k (n + 1))
    have hcases : (k < n ∧ n < s.size) ∨ (k < n ∧ n = s.size) ∨ (n = k ∧ n < s.size) ∨ (n = k ∧ n = s.size) := by omega
    rcases hcases with ⟨hc1, hc2⟩ | ⟨hc1, hc2⟩ | ⟨hc1, hc2⟩ | ⟨hc1, hc2⟩
    · skip
      go_enter Try.func6, Try.ntmps6
      go_wp2_with fail
      refine (keep_mod i _ _ hi (by omega) (by omega)).mono ?_; rintro e w' ⟨rfl, rfl⟩
      rw [HK.out]
      go_wp2_with fail
      refine (q_token s k _ (by omega)).mono ?_; rintro e w' ⟨rfl, rfl⟩
      rw [← HN.out]
      go_wp2_with fail
      all_goals (try (exfalso; omega))
      go_wp2_with fail
      refine (q_isTokenS (s.extract k n) _ (by omega)).mono ?_; rintro e w' ⟨rfl, rfl⟩
      rw [hex.out, hyes.out (by omega)]
      go_wp2_with fail
      refine (q_isTokenS (s.extract k (n + 1)) _ (by omega)).mono ?_; rintro e w' ⟨rfl, rfl⟩
      rw [hex2.out, hnext.out (by rw [length_un]; omega)]
      go_wp2_with fail
      refine (q_parse _ 0 _ (by rw [ByteArray.size_append, ByteArray.size_append]; simp only [ByteArray.size_mk']; simp; omega)).mono ?_; rintro e w1 ⟨rfl, hb1⟩
      have hres : qval (parseQ (un (({ data := #[34] } : ByteArray) ++ s.extract k n ++ { data := #[34] })) 0) = .tuple #[.string (s.extract k n), .int .i64 ((n : Int) - (k : Int) + 2), .int .i64 0] := by
        have e : parseQ (un (({ data := #[34] } : ByteArray) ++ s.extract k n ++ { data := #[34] })) 0 = ⟨seg (un s) k n, (seg (un s) k n).length + 2, 0⟩ := by rw [un_append, un_append, hex.out]; exact hpq.out
        rw [e, HSL.out, ← hex.out]
        simp only [qval, mk_un]
        congr 3
        simp; omega
      rw [hres]
      clear hres
      go_wp2_with fail
      refine (law17_awake _).mono ?_; rintro e w2 ⟨rfl, hb2⟩
      go_wp2_with fail
      go_ret
      refine ⟨rfl, ?_⟩
      exact by have c0 := Below.refl w.heap.size w; have c1 := c0.trans (hb1.mono c0.size); have c2 := c1.trans (hb2.mono c1.size); exact c2
    · have hc3 : ¬ ((n : Int) < (s.size : Int)) := by omega
      clear hc2
      go_enter Try.func6, Try.ntmps6
      go_wp2_with fail
      refine (keep_mod i _ _ hi (by omega) (by omega)).mono ?_; rintro e w' ⟨rfl, rfl⟩
      rw [HK.out]
      go_wp2_with fail
      refine (q_token s k _ (by omega)).mono ?_; rintro e w' ⟨rfl, rfl⟩
      rw [← HN.out]
      go_wp2_with fail
      all_goals (try (exfalso; omega))
      go_wp2_with fail
      refine (q_isTokenS (s.extract k n) _ (by omega)).mono ?_; rintro e w' ⟨rfl, rfl⟩
      rw [hex.out, hyes.out (by omega)]
      go_wp2_with fail
      refine (q_parse _ 0 _ (by rw [ByteArray.size_append, ByteArray.size_append]; simp only [ByteArray.size_mk']; simp; omega)).mono ?_; rintro e w1 ⟨rfl, hb1⟩
      have hres : qval (parseQ (un (({ data := #[34] } : ByteArray) ++ s.extract k n ++ { data := #[34] })) 0) = .tuple #[.string (s.extract k n), .int .i64 ((n : Int) - (k : Int) + 2), .int .i64 0] := by
        have e : parseQ (un (({ data := #[34] } : ByteArray) ++ s.extract k n ++ { data := #[34] })) 0 = ⟨seg (un s) k n, (seg (un s) k n).length + 2, 0⟩ := by rw [un_append, un_append, hex.out]; exact hpq.out
        rw [e, HSL.out, ← hex.out]
        simp only [qval, mk_un]
        congr 3
        simp; omega
      rw [hres]
      clear hres
      go_wp2_with fail
      refine (law17_awake _).mono ?_; rintro e w2 ⟨rfl, hb2⟩
      go_wp2_with fail
      go_ret
      refine ⟨rfl, ?_⟩
      exact by have c0 := Below.refl w.heap.size w; have c1 := c0.trans (hb1.mono c0.size); have c2 := c1.trans (hb2.mono c1.size); exact c2
    · have hc3 : ¬ ((k : Int) < (n : Int)) := by omega
      have hcn : ¬ ((n : Int) < (k : Int)) := by omega
      have HC1 := Lib.hid hc1
      clear hc1
      go_enter Try.func6, Try.ntmps6
      go_wp2_with fail
      refine (keep_mod i _ _ hi (by omega) (by omega)).mono ?_; rintro e w' ⟨rfl, rfl⟩
      rw [HK.out]
      go_wp2_with fail
      refine (q_token s k _ (by omega)).mono ?_; rintro e w' ⟨rfl, rfl⟩
      rw [← HN.out]
      go_wp2_with fail
      all_goals (try (exfalso; omega))
      go_wp2_with fail
      refine (q_isTokenS (s.extract k (n + 1)) _ (by omega)).mono ?_; rintro e w' ⟨rfl, rfl⟩
      rw [hex2.out, hnext.out (by rw [length_un]; omega)]
      go_wp2_with fail
      refine (q_parse _ 0 _ (by rw [ByteArray.size_append, ByteArray.size_append]; simp only [ByteArray.size_mk']; simp; omega)).mono ?_; rintro e w1 ⟨rfl, hb1⟩
      have hres : qval (parseQ (un (({ data := #[34] } : ByteArray) ++ s.extract k n ++ { data := #[34] })) 0) = .tuple #[.string (s.extract k n), .int .i64 ((n : Int) - (k : Int) + 2), .int .i64 0] := by
        have e : parseQ (un (({ data := #[34] } : ByteArray) ++ s.extract k n ++ { data := #[34] })) 0 = ⟨seg (un s) k n, (seg (un s) k n).length + 2, 0⟩ := by rw [un_append, un_append, hex.out]; exact hpq.out
        rw [e, HSL.out, ← hex.out]
        simp only [qval, mk_un]
        congr 3
        simp; omega
      rw [hres]
      clear hres
      go_wp2_with fail
      refine (law17_awake _).mono ?_; rintro e w2 ⟨rfl, hb2⟩
      go_wp2_with fail
      go_ret
      refine ⟨rfl, ?_⟩
      exact by have c0 := Below.refl w.heap.size w; have c1 := c0.trans (hb1.mono c0.size); have c2 := c1.trans (hb2.mono c1.size); exact c2
    · have hc3 : ¬ ((k : Int) < (n : Int)) := by omega
      have hc4 : ¬ ((n : Int) < (s.size : Int)) := by omega
      clear hc1 hc2
      go_enter Try.func6, Try.ntmps6
      go_wp2_with fail
      refine (keep_mod i _ _ hi (by omega) (by omega)).mono ?_; rintro e w' ⟨rfl, rfl⟩
      rw [HK.out]
      go_wp2_with fail
      refine (q_token s k _ (by omega)).mono ?_; rintro e w' ⟨rfl, rfl⟩
      rw [← HN.out]
      go_wp2_with fail
      all_goals (try (exfalso; omega))
      go_wp2_with fail
      refine (q_parse _ 0 _ (by rw [ByteArray.size_append, ByteArray.size_append]; simp only [ByteArray.size_mk']; simp; omega)).mono ?_; rintro e w1 ⟨rfl, hb1⟩
      have hres : qval (parseQ (un (({ data := #[34] } : ByteArray) ++ s.extract k n ++ { data := #[34] })) 0) = .tuple #[.string (s.extract k n), .int .i64 ((n : Int) - (k : Int) + 2), .int .i64 0] := by
        have e : parseQ (un (({ data := #[34] } : ByteArray) ++ s.extract k n ++ { data := #[34] })) 0 = ⟨seg (un s) k n, (seg (un s) k n).length + 2, 0⟩ := by rw [un_append, un_append, hex.out]; exact hpq.out
        rw [e, HSL.out, ← hex.out]
        simp only [qval, mk_un]
        congr 3
        simp; omega
      rw [hres]
      clear hres
      go_wp2_with fail
      refine (law17_awake _).mono ?_; rintro e w2 ⟨rfl, hb2⟩
      go_wp2_with fail
      go_ret
      refine ⟨rfl, ?_⟩
      exact by have c0 := Below.refl w.heap.size w; have c1 := c0.trans (hb1.mono c0.size); have c2 := c1.trans (hb2.mono c1.size); exact c2
  · clear hi
    go_enter Try.func6, Try.ntmps6
    go_wp2_with fail
    refine (law17_awake _).mono ?_; rintro e w1 ⟨rfl, hb1⟩
    go_wp2_with fail
    go_ret
    exact ⟨rfl, hb1⟩
end Go.Proofs.Ytjdkmidajhbefaa
