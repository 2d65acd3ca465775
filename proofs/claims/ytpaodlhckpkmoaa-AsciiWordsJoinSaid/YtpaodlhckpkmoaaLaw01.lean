/- The walks of the laws of layer 1 (ascii): each returns true; memory that existed is unchanged. Conditions: none. -/
import Derived.Test.YtpaodlhckpkmoaaAsciiWords
import Derived.Test.YtpaodlhckpkmoaaPlainJoin
namespace Go.Proofs.Ytpaodlhckpkmoaa
open Go.RowKit Hs
set_option linter.unusedSimpArgs false
set_option linter.unusedVariables false

theorem strs_lit (w : World) (l : List ByteArray) (T : TypeId) (h : l.length ≤ maxLen) : Strs (w.alloc (.cells (l.map Value.string).toArray T)) (.slice (some ⟨w.heap.size, 0, none⟩) l.length l.length) (l.map un) := by
  refine ⟨by simp, some ⟨w.heap.size, 0, none⟩, l.length, by simp, by simp, h, .inr ⟨w.heap.size, 0, rfl, by simp, fun j u hj => ?_⟩⟩
  rw [Nat.zero_add, World.cell?_alloc_mark]
  simpa [scells, Function.comp_def] using hj

theorem take_ne (ws : List Bs) (k : Nat) (h1 : 0 < k) (h2 : k < ws.length) : ¬ (ws.take k).isEmpty = true := by
  intro h
  have e : (ws.take k).length = k := by rw [List.length_take]; omega
  rw [List.isEmpty_iff] at h
  rw [h] at e
  simp at e; omega

theorem u8_of_wf {n : Int} (h : (Lit.int .u8 n).wf = true) : ∃ b : UInt8, n = (b.toNat : Int) := by
  simp [Lit.wf, IntKind.min, IntKind.max, IntKind.signed, IntKind.bits] at h
  refine ⟨UInt8.ofNat n.toNat, ?_⟩
  simp; omega

theorem law01_awake (w : World) : Calls Try.prog 13 #[] w fun e w' => e = .returned (.bool true) ∧ Below w.heap.size w w' := by
  have e1 : mk (lower (un ⟨#[65, 45, 98]⟩)) = ⟨#[97, 45, 98]⟩ := by rfl
  have e2 : words (un ⟨#[32, 97, 9, 98, 32]⟩) = [[97], [98]] := by decide
  have e3 : isTok 97 = true := by decide
  have e4 : mk (trim (un ⟨#[32, 120, 9]⟩)) = ⟨#[120]⟩ := by rfl
  have e5 : digits (un ⟨#[49, 50]⟩) = true := by decide
  have E1 := Lib.hid e1; have E2 := Lib.hid e2; have E3 := Lib.hid e3; have E4 := Lib.hid e4; have E5 := Lib.hid e5
  clear e1 e2 e3 e4 e5
  go_enter Try.func13, Try.ntmps13
  go_wp2_with fail
  refine (ascii_lower _ _ (by decide)).mono ?_; rintro e w1 ⟨rfl, hb1⟩
  rw [E1.out]
  go_wp2_with fail
  refine (ascii_words _ _ (by decide)).mono ?_; rintro e w2 ⟨v, rfl, ho, _, hb2⟩
  rw [E2.out] at ho
  obtain ⟨a, cap, rfl, _⟩ := Strs.open (l := [[97], [98]]) (Row.owned ho)
  clear ho
  go_wp2_with fail
  refine (ascii_isToken 97 _ rfl _).mono ?_; rintro e w3 ⟨rfl, rfl⟩
  rw [E3.out]
  go_wp2_with fail
  refine (ascii_trim _ _ (by decide)).mono ?_; rintro e w3 ⟨rfl, rfl⟩
  rw [E4.out]
  go_wp2_with fail
  refine (ascii_digits _ _ (by decide)).mono ?_; rintro e w3 ⟨rfl, rfl⟩
  rw [E5.out]
  go_wp2_with fail
  go_ret
  exact ⟨rfl, hb1.trans (hb2.mono hb1.size)⟩

theorem bytes_walk (n : Int) (w : World) (h : (Lit.int .u8 n).wf = true) : Calls Try.prog 3 #[.int .u8 n] w fun e w' => e = .returned (.bool true) ∧ Below w.heap.size w w' := by
  obtain ⟨b, rfl⟩ := u8_of_wf h
  clear h
  go_enter Try.func3, Try.ntmps3
  go_wp2_with fail
  refine (ascii_isToken b _ rfl _).mono ?_; rintro e w' ⟨rfl, rfl⟩
  go_wp2_with fail
  refine (ref01_isToken b _ rfl _).mono ?_; rintro e w' ⟨rfl, rfl⟩
  go_wp2_with fail
  refine (ascii_isBlank b _ rfl _).mono ?_; rintro e w' ⟨rfl, rfl⟩
  go_wp2_with fail
  refine (ref01_isBlank b _ rfl _).mono ?_; rintro e w' ⟨rfl, rfl⟩
  go_wp2_with fail
  refine (ascii_isSpace b _ rfl _).mono ?_; rintro e w' ⟨rfl, rfl⟩
  go_wp2_with fail
  refine (ref01_isSpace b _ rfl _).mono ?_; rintro e w' ⟨rfl, rfl⟩
  go_wp2_with fail
  refine (law01_awake _).mono ?_; rintro e w1 ⟨rfl, hb⟩
  go_wp2_with fail
  go_ret
  exact ⟨rfl, hb⟩

set_option maxHeartbeats 1600000 in
theorem lowerLaws_walk (a b : ByteArray) (w : World) (ha : a.size ≤ maxLen) (hb : b.size ≤ maxLen) : Calls Try.prog 6 #[.string a, .string b] w fun e w' => e = .returned (.bool true) ∧ Below w.heap.size w w' := by
  have hst : Strs (w.alloc (.cells #[.string a, .string b] 9)) (.slice (some ⟨w.heap.size, 0, none⟩) 2 2) [un a, un b] := strs_lit w [a, b] _ (by simp [maxLen])
  have HST := Lib.hid hst
  clear hst
  have hle : Hid (∀ t ∈ [un a, un b], t.length ≤ maxLen) := by
    intro t ht
    simp only [List.mem_cons, List.not_mem_nil, or_false] at ht
    rcases ht with rfl | rfl <;> rw [length_un] <;> assumption
  have hall : ([un a, un b].all fun t => decide ((t.length : Int) ≤ 2000)) = decide (a.size ≤ 2000 ∧ b.size ≤ 2000) := by
    rw [Bool.eq_iff_iff]; simp [length_un]; omega
  have b0 : Below w.heap.size w (w.alloc (.cells #[.string a, .string b] 9)) := (Below.refl _ _).alloc (Nat.le_refl _) _
  have B0 := Lib.hid b0
  clear b0 ha hb
  by_cases hs : a.size ≤ 2000 ∧ b.size ≤ 2000
  · have hsh := Lib.hid (hall.trans (decide_eq_true hs))
    obtain ⟨hsa, hsb⟩ := hs
    clear hall
    have za : (mk (lower (un a))).size = a.size := by simp
    have zb : (mk (lower (un b))).size = b.size := by simp
    have ZA := Lib.hid za; have ZB := Lib.hid zb
    clear za zb
    go_enter Try.func6, Try.ntmps6
    go_wp2_with fail
    refine (keep_short 2000 _ [un a, un b] _ HST.out hle.out).mono ?_; rintro e w' ⟨rfl, rfl⟩
    rw [hsh.out]
    go_wp2_with fail
    refine (ascii_lower a _ (by omega)).mono ?_; rintro e w1 ⟨rfl, hb1⟩
    go_wp2_with fail
    refine (ascii_lower (mk (lower (un a))) _ (by rw [ZA.out]; omega)).mono ?_; rintro e w2 ⟨rfl, hb2⟩
    rw [un_mk, lower_idem]
    have za := ZA.out; have zb := ZB.out
    go_wp2_with fail
    refine (ascii_lower (a ++ b) _ (by rw [ByteArray.size_append]; omega)).mono ?_; rintro e w3 ⟨rfl, hb3⟩
    rw [un_append, lower_append, mk_append]
    go_wp2_with fail
    refine (ascii_lower b _ (by omega)).mono ?_; rintro e w4 ⟨rfl, hb4⟩
    go_wp2_with fail
    refine (ascii_equalFold a a _ (by omega) (by omega)).mono ?_; rintro e w5 ⟨rfl, hb5⟩
    rw [beq_self_eq_true]
    go_wp2_with fail
    refine (ascii_equalFold a b _ (by omega) (by omega)).mono ?_; rintro e w6 ⟨rfl, hb6⟩
    go_wp2_with fail
    refine (ascii_equalFold b a _ (by omega) (by omega)).mono ?_; rintro e w7 ⟨rfl, hb7⟩
    rw [show (lower (un b) == lower (un a)) = (lower (un a) == lower (un b)) from BEq.comm]
    go_wp2_with fail
    refine (ascii_equalFold a b _ (by omega) (by omega)).mono ?_; rintro e w8 ⟨rfl, hb8⟩
    rw [show (lower (un a) == lower (un b)) = ((mk (lower (un a))).toList == (mk (lower (un b))).toList) from by rw [toList_mk', toList_mk']]
    go_wp2_with fail
    refine (ascii_lower b _ (by omega)).mono ?_; rintro e w9 ⟨rfl, hb9⟩
    go_wp2_with fail
    refine (law01_awake _).mono ?_; rintro e w10 ⟨rfl, hb10⟩
    go_wp2_with fail
    go_ret
    refine ⟨rfl, ?_⟩
    exact by have c0 := B0.out; have c1 := c0.trans (hb1.mono c0.size); have c2 := c1.trans (hb2.mono c1.size); have c3 := c2.trans (hb3.mono c2.size); have c4 := c3.trans (hb4.mono c3.size); have c5 := c4.trans (hb5.mono c4.size); have c6 := c5.trans (hb6.mono c5.size); have c7 := c6.trans (hb7.mono c6.size); have c8 := c7.trans (hb8.mono c7.size); have c9 := c8.trans (hb9.mono c8.size); have c10 := c9.trans (hb10.mono c9.size); exact c10
  · have hsh := Lib.hid (hall.trans (decide_eq_false hs))
    clear hall hs
    go_enter Try.func6, Try.ntmps6
    go_wp2_with fail
    refine (keep_short 2000 _ [un a, un b] _ HST.out hle.out).mono ?_; rintro e w' ⟨rfl, rfl⟩
    rw [hsh.out]
    go_wp2_with fail
    refine (law01_awake _).mono ?_; rintro e w1 ⟨rfl, hb1⟩
    go_wp2_with fail
    go_ret
    exact ⟨rfl, B0.out.trans (hb1.mono B0.out.size)⟩

set_option maxHeartbeats 1600000 in
theorem text_walk (a b : ByteArray) (w : World) (ha : a.size ≤ maxLen) (hb : b.size ≤ maxLen) : Calls Try.prog 5 #[.string a, .string b] w fun e w' => e = .returned (.bool true) ∧ Below w.heap.size w w' := by
  have hst : Strs (w.alloc (.cells #[.string a, .string b] 9)) (.slice (some ⟨w.heap.size, 0, none⟩) 2 2) [un a, un b] := strs_lit w [a, b] _ (by simp [maxLen])
  have HST := Lib.hid hst
  clear hst
  have hle : Hid (∀ t ∈ [un a, un b], t.length ≤ maxLen) := by
    intro t ht
    simp only [List.mem_cons, List.not_mem_nil, or_false] at ht
    rcases ht with rfl | rfl <;> rw [length_un] <;> assumption
  have hall : ([un a, un b].all fun t => decide ((t.length : Int) ≤ 2000)) = decide (a.size ≤ 2000 ∧ b.size ≤ 2000) := by
    rw [Bool.eq_iff_iff]; simp [length_un]; omega
  have b0 : Below w.heap.size w (w.alloc (.cells #[.string a, .string b] 9)) := (Below.refl _ _).alloc (Nat.le_refl _) _
  have B0 := Lib.hid b0
  clear b0 ha hb
  by_cases hs : a.size ≤ 2000 ∧ b.size ≤ 2000
  · have hsh := Lib.hid (hall.trans (decide_eq_true hs))
    obtain ⟨hsa, hsb⟩ := hs
    clear hall
    have za : (mk (lower (un a))).size = a.size := by simp
    have zb : (mk (lower (un b))).size = b.size := by simp
    have ZA := Lib.hid za; have ZB := Lib.hid zb
    clear za zb
    go_enter Try.func5, Try.ntmps5
    go_wp2_with fail
    refine (keep_short 2000 _ [un a, un b] _ HST.out hle.out).mono ?_; rintro e w' ⟨rfl, rfl⟩
    rw [hsh.out]
    go_wp2_with fail
    refine (ascii_lower a _ (by omega)).mono ?_; rintro e w1 ⟨rfl, hb1⟩
    go_wp2_with fail
    refine (ref01_lower a _ (by omega)).mono ?_; rintro e w2 ⟨rfl, hb2⟩
    go_wp2_with fail
    refine (ascii_equalFold a b _ (by omega) (by omega)).mono ?_; rintro e w3 ⟨rfl, hb3⟩
    go_wp2_with fail
    refine (ref01_equalFold a b _ (by omega) (by omega)).mono ?_; rintro e w4 ⟨rfl, hb4⟩
    go_wp2_with fail
    refine (ref01_lower a _ (by omega)).mono ?_; rintro e w5 ⟨rfl, hb5⟩
    go_wp2_with fail
    refine (ascii_equalFold a (mk (lower (un a))) _ (by omega) (by rw [ZA.out]; omega)).mono ?_; rintro e w6 ⟨rfl, hb6⟩
    rw [un_mk, lower_idem, beq_self_eq_true]
    go_wp2_with fail
    refine (ascii_trim a _ (by omega)).mono ?_; rintro e w7 ⟨rfl, rfl⟩
    go_wp2_with fail
    refine (ref01_trim a _ (by omega)).mono ?_; rintro e w7 ⟨rfl, rfl⟩
    go_wp2_with fail
    refine (ascii_words a _ (by omega)).mono ?_; rintro e w7 ⟨v1, rfl, ho1, hl1, hb7⟩
    have HS1 := Lib.hid (Row.owned ho1)
    clear ho1
    go_wp2_with fail
    refine (ref01_words a _ (by omega)).mono ?_; rintro e w8 ⟨v2, rfl, ho2, _, hb8⟩
    have HS2 := Lib.hid (Row.owned ho2)
    clear ho2
    go_wp2_with fail
    refine (keep_texts v1 v2 (words (un a)) (words (un a)) _ (Strs.below HS1.out hb8) HS2.out).mono ?_; rintro e w9 ⟨rfl, hb9⟩
    rw [decide_eq_true rfl]
    go_wp2_with fail
    refine (ascii_digits a _ (by omega)).mono ?_; rintro e w10 ⟨rfl, rfl⟩
    go_wp2_with fail
    refine (ref01_digits a _ (by omega)).mono ?_; rintro e w10 ⟨rfl, rfl⟩
    go_wp2_with fail
    refine (law01_awake _).mono ?_; rintro e w10 ⟨rfl, hb10⟩
    go_wp2_with fail
    go_ret
    refine ⟨rfl, ?_⟩
    exact by have c0 := B0.out; have c1 := c0.trans (hb1.mono c0.size); have c2 := c1.trans (hb2.mono c1.size); have c3 := c2.trans (hb3.mono c2.size); have c4 := c3.trans (hb4.mono c3.size); have c5 := c4.trans (hb5.mono c4.size); have c6 := c5.trans (hb6.mono c5.size); have c7 := c6.trans (hb7.mono c6.size); have c8 := c7.trans (hb8.mono c7.size); have c9 := c8.trans (hb9.mono c8.size); have c10 := c9.trans (hb10.mono c9.size); exact c10
  · have hsh := Lib.hid (hall.trans (decide_eq_false hs))
    clear hall hs
    go_enter Try.func5, Try.ntmps5
    go_wp2_with fail
    refine (keep_short 2000 _ [un a, un b] _ HST.out hle.out).mono ?_; rintro e w' ⟨rfl, rfl⟩
    rw [hsh.out]
    go_wp2_with fail
    refine (law01_awake _).mono ?_; rintro e w1 ⟨rfl, hb1⟩
    go_wp2_with fail
    go_ret
    exact ⟨rfl, B0.out.trans (hb1.mono B0.out.size)⟩

set_option maxHeartbeats 3000000 in
theorem wordsJoin_walk (s : ByteArray) (w : World) (hs0 : s.size ≤ maxLen) : Calls Try.prog 4 #[.string s] w fun e w' => e = .returned (.bool true) ∧ Below w.heap.size w w' := by
  unfold maxLen at hs0
  by_cases hs : s.size ≤ 2000
  · clear hs0
    go_enter Try.func4, Try.ntmps4
    go_wp2_with fail
    refine (ascii_words s _ (by omega)).mono ?_; rintro e w1 ⟨v, rfl, ho, hnw, hb1⟩
    have ST := Lib.hid (Row.owned ho)
    clear ho
    have hmem := words_mem (un s)
    have hjn := words_joinL (words (un s)) (fun t ht => ⟨(hmem t ht).1, (hmem t ht).2.1⟩)
    generalize words (un s) = ws at *
    have hjl := fun k => length_joinL 2000 (ws.take k) (fun t ht => by have := (hmem t (List.mem_of_mem_take ht)).2.2; rw [length_un] at this; omega)
    have HM := Lib.hid hmem; have HJ := Lib.hid hjn; have HL := Lib.hid hjl
    clear hmem hjn hjl
    obtain ⟨a, cap, rfl, hn, hm, hc⟩ := Strs.open (l := ws) ST.out
    unfold maxLen at hm
    have HC := Lib.hid hc
    clear hc
    go_wp2_with fail
    go_loop [4, 5] (fun jv i => ∃ k : Nat, i = .int .i64 k ∧ k ≤ ws.length ∧ jv = .string (mk (joinL (ws.take k)))) (fun _ i => ws.length - (intOf i).toNat)
    case atStart => exact ⟨0, rfl, by omega, rfl⟩
    case round =>
      obtain ⟨k, rfl, hk, rfl⟩ := hrel
      have hjs : (mk (joinL (ws.take k))).size ≤ 5000000 := by
        have := HL.out k
        have h2 : (ws.take k).length ≤ 2001 := by rw [List.length_take]; omega
        have h3 := Nat.mul_le_mul_right 2001 h2
        rw [size_mk]; omega
      by_cases hlt : k < ws.length
      · obtain ⟨b, off, rfl, hbw, hcell⟩ := HC.out (by omega)
        have ck := hcell k hlt
        clear hcell
        have hmt := HM.out ws[k] (List.getElem_mem hlt)
        have hjoin := joinL_snoc (ws.take k) ws[k]
        rw [← List.take_succ_eq_append_getElem hlt] at hjoin
        obtain ⟨t, ht⟩ : ∃ t, t = ws[k] := ⟨_, rfl⟩
        rw [← ht] at ck hmt hjoin
        clear ht
        have HJO := Lib.hid hjoin
        clear hjoin
        have hte : (mk t).toList.isEmpty = false := by rw [toList_mk']; simpa using hmt.1
        have hts : t.length ≤ 2000 := by have := hmt.2.2; rw [length_un] at this; omega
        have hz : (mk t).size = t.length := size_mk t
        have hsp : Hid (∀ (q : Nat) (hq : q < (mk t).size), isSpace ((mk t)[q]'hq) = false) := fun q hq => by
          refine hmt.2.1 _ ?_
          have hq' : q < t.length := by rw [size_mk] at hq; exact hq
          have : (mk t)[q]'hq = t[q]'hq' := rfl
          rw [this]; exact List.getElem_mem hq'
        clear hmt
        have hjs2 : (joinL (ws.take k)).length ≤ 5000000 := by rw [size_mk] at hjs; exact hjs
        by_cases h0 : (0 : Int) < (k : Int)
        · skip
          go_wp2_with fail
          go_loop [6] (fun j => ∃ q : Nat, j = .int .i64 q ∧ q ≤ t.length) (fun j => t.length - (intOf j).toNat)
          case atStart => exact ⟨0, rfl, by omega⟩
          case round =>
            obtain ⟨q, rfl, hq⟩ := hrel
            by_cases hqt : q < t.length
            · have hno := hsp.out q (by omega)
              go_wp2_with (go_at_call 11; refine (ascii_isSpace _ _ rfl _).mono ?_; rintro e w' ⟨rfl, rfl⟩)
              go_round
              case rel => exact ⟨q + 1, by go_num, by omega⟩
              case measure => simp [intOf]; omega
            · go_wp2
              go_round
              case rel =>
                refine ⟨k + 1, by go_num, by omega, ?_⟩
                rw [HJO.out]
                rw [if_neg (take_ne ws k (by omega) (by omega)), mk_append, mk_append]
                first | rfl | (rw [ByteArray.append_assoc]; rfl)
              case measure => simp [intOf]; omega
        · skip
          go_wp2_with fail
          go_loop [6] (fun j => ∃ q : Nat, j = .int .i64 q ∧ q ≤ t.length) (fun j => t.length - (intOf j).toNat)
          case atStart => exact ⟨0, rfl, by omega⟩
          case round =>
            obtain ⟨q, rfl, hq⟩ := hrel
            by_cases hqt : q < t.length
            · have hno := hsp.out q (by omega)
              go_wp2_with (go_at_call 11; refine (ascii_isSpace _ _ rfl _).mono ?_; rintro e w' ⟨rfl, rfl⟩)
              go_round
              case rel => exact ⟨q + 1, by go_num, by omega⟩
              case measure => simp [intOf]; omega
            · go_wp2
              go_round
              case rel =>
                refine ⟨k + 1, by go_num, by omega, ?_⟩
                rw [HJO.out]
                rw [if_pos (by have : k = 0 := by omega
                               subst this; rfl), mk_append, mk_append]
                first | rfl | (simp; done) | (congr 1)
              case measure => simp [intOf]; omega
      · obtain rfl : k = ws.length := by omega
        rw [List.take_length] at hjs
        have hjs2 : (joinL ws).length ≤ 5000000 := by rw [size_mk] at hjs; exact hjs
        rw [List.take_length]
        have e1 : un (mk (joinL ws)) = joinL ws := un_mk _
        have E1 := Lib.hid e1
        clear e1
        go_wp2_with fail
        refine (ascii_trim s _ (by omega)).mono ?_; rintro e w' ⟨rfl, rfl⟩
        go_wp2_with fail
        refine (ascii_words (mk (joinL ws)) _ (by omega)).mono ?_; rintro e w2 ⟨v2, rfl, ho2, _, hb2⟩
        rw [E1.out, HJ.out] at ho2
        have ST2 := Lib.hid (Row.owned ho2)
        clear ho2
        go_wp2_with fail
        refine (keep_texts v2 _ ws ws _ ST2.out (Strs.below ST.out hb2)).mono ?_; rintro e w3 ⟨rfl, hb3⟩
        rw [decide_eq_true rfl]
        have htl : (mk (trim (un s))).size ≤ s.size := by rw [size_mk]; have := length_trim (un s); rw [length_un] at this; exact this
        go_wp2_with fail
        refine (ascii_trim (mk (trim (un s))) _ (by omega)).mono ?_; rintro e w' ⟨rfl, rfl⟩
        rw [un_mk, trim_idem]
        go_wp2_with fail
        refine (ascii_trim _ _ (by simp only [ByteArray.size_append, ByteArray.size_mk']; simp; omega)).mono ?_; rintro e w' ⟨rfl, rfl⟩
        rw [show mk (trim (un (({ data := #[32] } : ByteArray) ++ s ++ { data := #[9] }))) = mk (trim (un s)) from by rw [un_append, un_append]; exact congrArg mk (trim_pad (un s))]
        go_wp2_with fail
        refine (law01_awake _).mono ?_; rintro e w4 ⟨rfl, hb4⟩
        go_wp2_with fail
        go_ret
        refine ⟨rfl, ?_⟩
        have c1 := hb1.trans (hb2.mono hb1.size)
        have c2 := c1.trans (hb3.mono c1.size)
        exact c2.trans (hb4.mono c2.size)
  · go_enter Try.func4, Try.ntmps4
    go_wp2_with fail
    refine (law01_awake _).mono ?_; rintro e w1 ⟨rfl, hb1⟩
    go_wp2_with fail
    go_ret
    exact ⟨rfl, hb1⟩
end Go.Proofs.Ytpaodlhckpkmoaa
