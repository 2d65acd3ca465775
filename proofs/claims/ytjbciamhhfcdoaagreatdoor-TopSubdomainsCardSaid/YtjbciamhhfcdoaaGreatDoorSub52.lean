/- The plain law of TopSubdomains' own steps: the spelling of the name, the URL of the request. No program in sight. Conditions: none.
   The walk of TopSubdomains. Conditions: strings are of a length that fits; the library's tables stand. -/
import Derived.Test.YtjbciamhhfcdoaaGreatDoorSub49
import Derived.Test.YtjbciamhhfcdoaaGreatDoorSub51
import Derived.Test.YtjbciamhhfcdoaaGreatDoorSub15
import Derived.Test.YtjbciamhhfcdoaaGreatDoorSub39
namespace Hs
open Go
set_option linter.unusedVariables false
set_option linter.unusedSimpArgs false
def upB (up : Bool) (b : UInt8) : UInt8 := if up = true ∧ 97 ≤ b.toNat ∧ b.toNat ≤ 122 then b - 32 else b
def upT (up : Bool) (l : Bs) : Bs := l.map (upB up)
theorem upB_low {b : UInt8} (up : Bool) (h : nomB b) : lowB (upB up b) = b := by
  unfold nomB at h
  unfold upB
  by_cases hu : up = true ∧ 97 ≤ b.toNat ∧ b.toNat ≤ 122
  · rw [if_pos hu]
    have hs : (b - 32).toNat = b.toNat - 32 := by
      have := UInt8.toNat_sub_of_le b 32 (by rw [UInt8.le_iff_toNat_le]; show 32 ≤ b.toNat; omega)
      simpa using this
    have hU : isUpper (b - 32) = true := by unfold isUpper; simp [hs]; omega
    unfold lowB
    rw [if_pos hU]
    apply UInt8.toNat_inj.1
    rw [UInt8.toNat_add, hs]
    show (b.toNat - 32 + 32) % 256 = b.toNat
    omega
  · rw [if_neg hu]
    have hU : isUpper b = false := by unfold isUpper; simp; omega
    unfold lowB
    rw [hU]
    rfl
theorem lower_up {l : Bs} (up : Bool) (h : nameV l = true) : lower (upT up l) = l := by
  have hb := nameV_bytes h
  unfold lower upT
  rw [List.map_map]
  have : ∀ m : Bs, (∀ b ∈ m, nomB b) → m.map (lowB ∘ upB up) = m := by
    intro m
    induction m with
    | nil => intro _; rfl
    | cons b r ih =>
      intro hm
      rw [List.map_cons, ih (fun x hx => hm x (List.mem_cons_of_mem _ hx))]
      exact congrArg (· :: r) (upB_low up (hm b (List.mem_cons_self ..)))
  exact this l hb
def bReq (t : Bs) : Bs := bHTTP ++ 58 :: ([47, 47] ++ (((t ++ [46]) ++ [58, 56, 48]) ++ [47]))
theorem url_req {t : Bs} (h : nameV (lower t) = true) (hl : t.length ≤ 300) : urlV (bReq t) = some (domU bHttp (lower t)) := by
  unfold urlV
  rw [if_neg (by simp [bReq, bHTTP]; omega)]
  exact parse_request h
theorem okT_nom {l : Bs} (h : ∀ b ∈ l, (65 ≤ b.toNat ∧ b.toNat ≤ 90) ∨ nomB b) : okT l := fun b hb => by
  have := h b hb
  unfold nomB at this
  refine ⟨by omega, fun e => ?_⟩
  subst e
  revert this
  decide
theorem okT_app {a b : Bs} (ha : okT a) (hb : okT b) : okT (a ++ b) := fun x hx => (List.mem_append.1 hx).elim (ha x) (hb x)
theorem okT_req {t : Bs} (h : nameV (lower t) = true) : okT (bReq t) := by
  have h1 : okT bHTTP := by unfold okT; decide
  have h2 : okT [47, 47] := by unfold okT; decide
  have h3 : okT [46] := by unfold okT; decide
  have h4 : okT [58, 56, 48] := by unfold okT; decide
  have h5 : okT [47] := by unfold okT; decide
  have h6 : okT [58] := by unfold okT; decide
  exact okT_app h1 (okT_app h6 (okT_app h2 (okT_app (okT_app (okT_app (okT_nom (lowBytes h)) h3) h4) h5)))
theorem okT_dom {n s : Bs} (h : nameV n = true) (hs : okT s) (hp : 0 < portD s) : okT (textU (domU s n)) := by
  have h2 : okT [47, 47] := by unfold okT; decide
  have h5 : okT [47] := by unfold okT; decide
  have h6 : okT [58] := by unfold okT; decide
  have h7 : okT [] := by unfold okT; decide
  rw [textU_dom s h hp]
  exact okT_app hs (okT_app h6 (okT_app h2 (okT_app (okT_app (okT_nom fun b hb => .inr (nameV_bytes h b hb)) h7) h5)))
/-- What the law compares. -/
def covered (now : Int) (p : PinP) (n : Bs) : Bool := decide (now < p.expiry) && (decide (p.host = n) || (p.sub && coversV p.host n))
theorem covered_iff (now : Int) (p : PinP) (n : Bs) (h : nameV n = true) (hp : nameV p.host = true) : (covV now [p] [] ⟨1, n, 0, zer8⟩).source ≠ 0 ↔ covered now p n = true := by
  rw [cov_one now p n h]
  unfold covered coversV
  rw [h, hp]
  simp only [Bool.and_eq_true, Bool.or_eq_true, decide_eq_true_eq, Bool.and_true, Bool.true_and]
  constructor
  · rintro ⟨a, b | ⟨b, c⟩⟩
    · exact ⟨by omega, .inl b⟩
    · exact ⟨by omega, .inr ⟨b, .inr c⟩⟩
  · rintro ⟨a, b | ⟨b, c | c⟩⟩
    · exact ⟨by omega, .inl b⟩
    · exact ⟨by omega, .inl c⟩
    · exact ⟨by omega, .inr ⟨b, c⟩⟩
def ctx0 : CtxP := ⟨false, false, false, false, []⟩
/-- What the law finds. -/
theorem top_rule (now : Int) (p : PinP) {n : Bs} (h : nameV n = true) (hp : nameV p.host = true) : ∃ rv : DecP, ruleV (domU bHttp n) 1 false ctx0 (covV now [p] [] ⟨1, n, 0, zer8⟩) = rv ∧ decide (rv.reason = 2) = covered now p n ∧ (covered now p n = true → rv.url = bHttps ++ 58 :: ([47, 47] ++ (n ++ [47]))) := by
  refine ⟨_, rfl, ?_, ?_⟩
  · rw [Bool.eq_iff_iff, decide_eq_true_eq]
    exact (rule_sub h 1 false _).1.trans (covered_iff now p n h hp)
  · intro hc
    exact (rule_sub h 1 false _).2 ((covered_iff now p n h hp).2 hc)
end Hs
namespace Go.Proofs.YtjbciamhhfcdoaaGreatDoor
open Go.RowKit Hs
set_option linter.unusedSimpArgs false
set_option linter.unusedVariables false
theorem conv_one (x : UInt8) (w : World) : (convert 32 9 (.slice (some ⟨w.heap.size, 0, none⟩) 1 1)).run Tryz.prog (w.alloc (.cells #[.int .u8 (x.toNat : Int)] 5)) = .ok (.string (mk [x])) (w.alloc (.cells #[.int .u8 (x.toNat : Int)] 5)) := by
  refine string_of_row (n := 1) (l := [x]) ⟨rfl, _, 1, rfl, Nat.le_refl _, by simp [maxLen], .inr ⟨w.heap.size, 0, rfl, by simp, fun j u hj => ?_⟩⟩ Tryz.underlying32 Tryz.underlying5 Tryz.underlying9
  have hb := BlkL.new w 5 [.int .u8 (x.toNat : Int)]
  rw [Nat.zero_add]
  exact hb.c j u hj
theorem up_step (up : Bool) (s : ByteArray) (k : Nat) (hk : k < s.size) : upT up ((un s).take (k + 1)) = upT up ((un s).take k) ++ [Hs.upB up s[k]] := by
  rw [List.take_succ_eq_append_getElem (by simpa using hk)]
  unfold upT
  rw [List.map_append]
  rfl
theorem size_one (t : Bs) (x : UInt8) : (mk t ++ mk [x]).size = t.length + 1 := by rw [← mk_append, size_mk]; simp
theorem pinOk_name {p : PinP} (h : pinOk p = true) : nameV p.host = true := by
  unfold pinOk at h
  rw [Bool.and_eq_true] at h
  exact h.1
/-- The decision about the law's request. -/
theorem dec_sub (now : Int) (ph : Bs) (ps : Bool) (pe : Int) (n : Bs) (up : Bool) (tv : Value) (w : World) (hB : Base6 w) (hn : nameV n = true) (hl : n.length ≤ 300) (hp : nameV ph = true) (ht : TabV w tv [⟨ph, ps, pe⟩]) :
    ∃ (a r : Nat) (u : Bs), decide (r = 2) = covered now ⟨ph, ps, pe⟩ n ∧ (covered now ⟨ph, ps, pe⟩ n = true → u = bHttps ++ 58 :: ([47, 47] ++ (n ++ [47]))) ∧
      Calls Tryz.prog 11 #[.agg #[.string (mk (bReq (upT up n))), .int .i64 1, .bool false], .agg #[.bool false, .bool false, .bool false, .bool false, .slice none 0 0], .int .i64 now, tv, .pointer none] w fun e w' => e = .returned (.tuple #[.agg #[.int .i64 (a : Int), .int .i64 (r : Int), .string (mk u)], .int .i64 0]) ∧ Below w.heap.size w w' := by
  obtain ⟨rv, hrv, h1, h2⟩ := top_rule now ⟨ph, ps, pe⟩ hn hp
  have hlow := lower_up up hn
  have hnl : nameV (lower (upT up n)) = true := by rw [hlow]; exact hn
  have hlen : (upT up n).length = n.length := by simp [upT]
  have hu := url_req hnl (by omega)
  rw [hlow] at hu
  have ok4 : okT bHttp := by unfold okT; decide
  have ok5 : okT bHttps := by unfold okT; decide
  have h := m_decide (bReq (upT up n)) 1 false ctx0 (.slice none 0 0) now tv [⟨ph, ps, pe⟩] (domU bHttp n) w hB (by simp [bReq, bHTTP]; omega) (okT_req hnl) hu (domU_w _ _) (domU_b _ _ (by decide) (by omega)) (okT_dom hn ok4 (by decide)) (by rw [up_dom]; exact domU_w _ _) (by rw [up_dom]; exact domU_b _ _ (by decide) (by omega)) (by rw [up_dom]; exact okT_dom hn ok5 (by decide)) rfl (http_valid hn) (by decide) ht
  have hrv2 : ruleV (domU bHttp n) 1 false ctx0 (covV now [⟨ph, ps, pe⟩] [] (domU bHttp n).host) = rv := hrv
  rw [hrv2] at h
  exact ⟨rv.action, rv.reason, rv.url, h1, h2, h⟩
set_option maxRecDepth 20000 in
set_option maxHeartbeats 16000000 in
theorem t_sub (now : Int) (ph : Bs) (ps : Bool) (pe : Int) (s : ByteArray) (up : Bool) (w : World) (hB : Base6 w) (hp : ph.length ≤ maxLen) (hs : s.size ≤ maxLen) :
    Calls Tryz.prog 3 #[.int .i64 now, .agg #[.string (mk ph), .bool ps, .int .i64 pe], .string s, .bool up] w fun e w' => e = .returned (.bool true) ∧ Below w.heap.size w w' := by
  obtain ⟨z, hz⟩ : ∃ z, z = w.heap.size := ⟨_, rfl⟩
  obtain ⟨W0, hW0⟩ : ∃ W0, W0 = w.alloc (.cells #[.string (mk ph), .bool ps, .int .i64 pe] 23) := ⟨_, rfl⟩
  have b0 : BlkL W0 z 23 [.string (mk ph), .bool ps, .int .i64 pe] := by rw [hW0, hz]; exact BlkL.new w _ _
  have hbA : Below z w W0 := by rw [hW0, hz]; exact (Below.refl _ w).alloc (Nat.le_refl _) _
  have hsz0 : W0.heap.size = z + 1 := by rw [hW0, hz]; simp
  have HW0 := Lib.hid hW0.symm
  have hst : Strs (W0.alloc (.cells #[.string (mk ph), .string s] 9)) (.slice (some ⟨W0.heap.size, 0, none⟩) 2 2) [un (mk ph), un s] := strs_lit W0 [mk ph, s] _ (by simp [maxLen])
  have hle : Hid (∀ t ∈ [un (mk ph), un s], t.length ≤ maxLen) := by
    intro t ht
    simp only [List.mem_cons, List.not_mem_nil, or_false] at ht
    rcases ht with rfl | rfl
    · first | exact hp | (rw [un_mk]; exact hp)
    · rw [length_un]; exact hs
  have hall : ([un (mk ph), un s].all fun t => decide ((t.length : Int) ≤ 300)) = decide (ph.length ≤ 300 ∧ s.size ≤ 300) := by
    rw [Bool.eq_iff_iff]; simp [length_un]; omega
  rw [hsz0] at hst
  have HST := Lib.hid hst
  have HAW := Lib.hid t_awake
  have HZ := Lib.hid hz
  have HBB := Lib.hid hB
  have bb := b0.alloc (.cells #[.string (mk ph), .string s] 9)
  have hb1 := hbA.alloc (by omega) (.cells #[.string (mk ph), .string s] 9)
  have hsz1 : (W0.alloc (.cells #[.string (mk ph), .string s] 9)).heap.size = z + 2 := by simp [hsz0]
  obtain ⟨W1, hW1⟩ : ∃ W1, W1 = W0.alloc (.cells #[.string (mk ph), .string s] 9) := ⟨_, rfl⟩
  rw [← hW1] at HST bb hb1 hsz1
  have HW1 := Lib.hid hW1.symm
  have hB1 : Base6 W1 := hB.below (hz ▸ hb1)
  have HB1 := Lib.hid hB1
  have c0 := b0.c 0 _ rfl
  have BB := Lib.hid bb
  have HA1 := Lib.hid hb1
  clear hW0 hW1 hst hB hB1 hb1 bb hbA b0 hz
  by_cases hsh : ph.length ≤ 300 ∧ s.size ≤ 300
  · rw [decide_eq_true hsh] at hall
    have HALL := Lib.hid hall
    obtain ⟨hp3, hs3⟩ := hsh
    have HP3 := Lib.hid hp3
    have HS3 := Lib.hid hs3
    have HVN := Lib.hid (r14_validName s W1 (by omega))
    clear hall hp hs hp3
    go_enter Tryz.func3, Tryz.ntmps3
    go_upto_region 1 with fail
    rw [HW0.out, ← HZ.out]
    clear HW0
    go_wp2_with fail
    all_goals (try (exfalso; omega))
    rw [HW1.out]
    clear HW1
    refine (keep_short 300 _ [un (mk ph), un s] _ HST.out hle.out).mono ?_; rintro e w' ⟨rfl, rfl⟩
    rw [HALL.out]
    clear HST hle HALL c0
    go_wp2_with fail
    all_goals (try (exfalso; omega))
    refine HVN.out.mono ?_; rintro e w1 ⟨rfl, hb1⟩
    have hs1 := hb1.size
    have B2 := BB.out.below (by omega) hb1
    have HA2 := Lib.hid (HA1.out.trans (hb1.mono (by omega)))
    have HB2 := Lib.hid (HB1.out.below hb1)
    clear hb1 HVN
    obtain ⟨nv, hnv⟩ : ∃ nv, nv = nameV (un s) := ⟨_, rfl⟩
    rw [← hnv]
    have HNV := Lib.hid hnv.symm
    clear hnv
    cases nv
    · clear B2
      go_wp2_with fail
      all_goals (try (exfalso; omega))
      refine (HAW.out _ HB2.out).mono ?_; rintro e w2 ⟨rfl, hb2⟩
      go_wp2
      go_ret
      exact ⟨rfl, HZ.out ▸ HA2.out.trans (hb2.mono (by omega))⟩
    · have HNV : Hid (nameV (un s) = true) := HNV
      have HPN := Lib.hid pt_new
      have B3 := B2.alloc (.cells #[.slice none 0 0, .int .i64 1] 78)
      have T3 := BlkL.new w1 78 [.slice none 0 0, .int .i64 1]
      have HA3 := Lib.hid (HA2.out.alloc (by omega) (.cells #[.slice none 0 0, .int .i64 1] 78))
      have HB3 := Lib.hid (HB2.out.below ((Below.refl _ w1).alloc (Nat.le_refl _) (.cells #[.slice none 0 0, .int .i64 1] 78)))
      have hs3 : (w1.alloc (.cells #[.slice none 0 0, .int .i64 1] 78)).heap.size = w1.heap.size + 1 := by simp
      have HPUT := Lib.hid (pt_put0 w1.heap.size ⟨ph, ps, pe⟩ _ HB3.out.1 T3 (by have := HP3.out; show ph.length ≤ 100000; omega) w1.heap.size (Nat.le_refl _))
      have q0 := B3.c 0 _ rfl
      have q1 := B3.c 1 _ rfl
      have q2 := B3.c 2 _ rfl
      have HB3b := Lib.hid B3
      have H12 := Lib.hid ((Below.refl _ w1).alloc (Nat.le_refl _) (.cells #[.slice none 0 0, .int .i64 1] 78))
      clear B2 B3 T3
      go_wp2_with fail
      all_goals (try (exfalso; omega))
      refine (HPN.out _).mono ?_; rintro e w2 ⟨rfl, rfl⟩
      generalize w1.alloc (.cells #[.slice none 0 0, .int .i64 1] 78) = w2 at *
      go_wp2_with fail
      all_goals (try (exfalso; omega))
      refine HPUT.out.mono ?_; rintro e w3 ⟨hcase, hb3⟩
      have hb13 := H12.out.trans hb3
      have hs13 := hb13.size
      have B4 := HB3b.out.below (by omega) hb3
      have HA4 := Lib.hid (HA2.out.trans (hb13.mono (by omega)))
      have HB4 := Lib.hid (HB2.out.below hb13)
      clear HPUT HB3b hb3 H12 q0 q1 q2 HA2 HB2 HA3 HB3 HPN hb13
      have q0 := B4.c 0 _ rfl
      have q1 := B4.c 1 _ rfl
      have q2 := B4.c 2 _ rfl
      rcases hcase with ⟨hno, rfl⟩ | ⟨hyes, rfl, g, htab⟩
      · have hv := r14_validName (mk ph) w3 (by rw [size_mk]; have := HP3.out; omega)
        rw [un_mk] at hv
        obtain ⟨a, ha⟩ : ∃ a, a = nameV ph := ⟨_, rfl⟩
        rw [← ha] at hv
        obtain ⟨x1, hx1⟩ : ∃ x1, x1 = decide (pe < 0) := ⟨_, rfl⟩
        obtain ⟨x2, hx2⟩ : ∃ x2, x2 = decide (1099511627776 < pe) := ⟨_, rfl⟩
        have hno2 : a = true → x1 = true ∨ x2 = true := by
          intro h
          unfold pinOk at hno
          simp only [← ha, h, Bool.true_and, decide_eq_false_iff_not] at hno
          rw [hx1, hx2, decide_eq_true_eq, decide_eq_true_eq]
          omega
        have HNO := Lib.hid hno2
        have g1 : decide (pe < 0) = x1 := hx1.symm
        have g2 : decide (1099511627776 < pe) = x2 := hx2.symm
        have HV := Lib.hid hv
        clear hv hno hno2 ha hx1 hx2
        go_wp2_with fail
        all_goals (try (exfalso; omega))
        refine HV.out.mono ?_; rintro e w4 ⟨rfl, hb4⟩
        have hs4 := hb4.size
        have HA5 := Lib.hid (HA4.out.trans (hb4.mono (by omega)))
        have HB5 := Lib.hid (HB4.out.below hb4)
        have B5 := B4.below (by omega) hb4
        clear q0 q1 q2 B4 hb4 HV HA4 HB4
        have q2 := B5.c 2 _ rfl
        cases a
        · go_wp2_with fail
          all_goals (try (exfalso; omega))
          refine (HAW.out _ HB5.out).mono ?_; rintro e w5 ⟨rfl, hb5⟩
          go_wp2
          all_goals (try (exfalso; omega))
          go_ret
          exact ⟨rfl, HZ.out ▸ HA5.out.trans (hb5.mono (by omega))⟩
        · cases x1
          · cases x2
            · exact absurd (HNO.out rfl) (by simp)
            · go_wp2_with fail
              all_goals (try (exfalso; omega))
              refine (HAW.out _ HB5.out).mono ?_; rintro e w5 ⟨rfl, hb5⟩
              go_wp2
              all_goals (try (exfalso; omega))
              go_ret
              exact ⟨rfl, HZ.out ▸ HA5.out.trans (hb5.mono (by omega))⟩
          · go_wp2_with fail
            all_goals (try (exfalso; omega))
            refine (HAW.out _ HB5.out).mono ?_; rintro e w5 ⟨rfl, hb5⟩
            go_wp2
            all_goals (try (exfalso; omega))
            go_ret
            exact ⟨rfl, HZ.out ▸ HA5.out.trans (hb5.mono (by omega))⟩
      · have HYES := Lib.hid hyes
        have HTV : Hid (TabV w3 (.pointer (some ⟨w1.heap.size, 0, none⟩)) [⟨ph, ps, pe⟩]) := Lib.hid (.inr ⟨_, g, ⟨ph, ps, pe⟩, rfl, rfl, (by have := HP3.out; show ph.length ≤ 100000; omega), htab⟩)
        have HB4z := Lib.hid B4
        clear hyes htab q0 q1 q2 B4
        go_wp2_with fail
        all_goals (try (exfalso; omega))
        go_loopw [11, 12] (fun t i wr => ∃ k : Nat, k ≤ s.size ∧ i = .int .i64 k ∧ t = .string (mk (upT up ((un s).take k))) ∧ Hid (Below w3.heap.size w3 wr)) (fun _ i _ => s.size - (intOf i).toNat)
        case atStart => exact ⟨0, Nat.zero_le _, rfl, rfl, Lib.hid (Below.refl _ _)⟩
        case round =>
          obtain ⟨k, hk, rfl, rfl, hbw⟩ := hrel
          by_cases hlt : k < s.size
          · have hbwe := hbw.out
            have hst3 : (upT up ((un s).take k)).length = k := by simp [upT, List.length_take]; omega
            have hst2 : (mk (upT up ((un s).take k))).size = k := by rw [size_mk, hst3]
            cases up
            · have HUB : Hid (Hs.upB false s[k] = s[k]) := Lib.hid (by unfold Hs.upB; rw [if_neg (by simp)])
              have hcx := conv_one s[k] wr
              skip
              have hadd := size_one (upT false ((un s).take k)) s[k]
              go_wp2_with fail
              all_goals (try (exfalso; omega))
              go_roundw
              case rel =>
                refine ⟨k + 1, by omega, by go_num, ?_, Lib.hid (hbwe.alloc hbwe.size _)⟩
                rw [up_step false s k hlt, HUB.out, mk_append]
              case measure => simp [intOf]; omega
            · by_cases h97 : 97 ≤ s[k].toNat
              · by_cases h122 : s[k].toNat ≤ 122
                · have HUB : Hid (Hs.upB true s[k] = s[k] - 32) := Lib.hid (by unfold Hs.upB; rw [if_pos ⟨rfl, h97, h122⟩])
                  have heq : (((s[k] - 32).toNat : Nat) : Int) = (s[k].toNat : Int) - 32 := by
                    have h32 := UInt8.toNat_sub_of_le s[k] 32 (by rw [UInt8.le_iff_toNat_le]; show 32 ≤ s[k].toNat; omega)
                    have h33 : (s[k] - 32).toNat = s[k].toNat - 32 := by simpa using h32
                    omega
                  have hcx := conv_one (s[k] - 32) wr
                  rw [heq] at hcx
                  have hadd := size_one (upT true ((un s).take k)) (s[k] - 32)
                  clear heq
                  go_wp2_with fail
                  all_goals (try (exfalso; omega))
                  go_roundw
                  case rel =>
                    refine ⟨k + 1, by omega, by go_num, ?_, Lib.hid (hbwe.alloc hbwe.size _)⟩
                    rw [up_step true s k hlt, HUB.out, mk_append]
                  case measure => simp [intOf]; omega
                · have HUB : Hid (Hs.upB true s[k] = s[k]) := Lib.hid (by unfold Hs.upB; rw [if_neg (by omega)])
                  have hcx := conv_one s[k] wr
                  skip
                  have hadd := size_one (upT true ((un s).take k)) s[k]
                  go_wp2_with fail
                  all_goals (try (exfalso; omega))
                  go_roundw
                  case rel =>
                    refine ⟨k + 1, by omega, by go_num, ?_, Lib.hid (hbwe.alloc hbwe.size _)⟩
                    rw [up_step true s k hlt, HUB.out, mk_append]
                  case measure => simp [intOf]; omega
              · have HUB : Hid (Hs.upB true s[k] = s[k]) := Lib.hid (by unfold Hs.upB; rw [if_neg (by omega)])
                have hcx := conv_one s[k] wr
                skip
                have hadd := size_one (upT true ((un s).take k)) s[k]
                go_wp2_with fail
                all_goals (try (exfalso; omega))
                go_roundw
                case rel =>
                  refine ⟨k + 1, by omega, by go_num, ?_, Lib.hid (hbwe.alloc hbwe.size _)⟩
                  rw [up_step true s k hlt, HUB.out, mk_append]
                case measure => simp [intOf]; omega
          --SUB_TAIL
          · obtain rfl : k = s.size := by omega
            have hbwe := hbw.out
            have htk : (un s).take s.size = un s := List.take_of_length_le (by rw [length_un]; exact Nat.le_refl _)
            rw [htk]
            have hbs := hbwe.size
            obtain ⟨a, r, u, hr2, hur, hcall⟩ := dec_sub now ph ps pe (un s) up (.pointer (some ⟨w1.heap.size, 0, none⟩)) wr (HB4.out.below hbwe) HNV.out (by rw [length_un]; exact HS3.out) (pinOk_name HYES.out) (HTV.out.below hbwe)
            have hcv : covered now ⟨ph, ps, pe⟩ (un s) = (decide (now < pe) && (decide (ph = un s) || (ps && coversV ph (un s)))) := rfl
            obtain ⟨cov, hcov⟩ : ∃ cov, cov = covered now ⟨ph, ps, pe⟩ (un s) := ⟨_, rfl⟩
            rw [← hcov] at hcv hr2 hur
            have hpl : (upT up (un s)).length = s.size := by rw [← length_un s]; simp [upT]
            obtain ⟨T, hT⟩ : ∃ T, T = upT up (un s) := ⟨_, rfl⟩
            rw [← hT] at hcall hpl ⊢
            have hstr : ((⟨#[72, 84, 84, 80, 58, 47, 47]⟩ : ByteArray) ++ mk T) ++ (⟨#[46, 58, 56, 48, 47]⟩ : ByteArray) = mk (bReq T) := by
              show (mk [72, 84, 84, 80, 58, 47, 47] ++ mk T) ++ mk [46, 58, 56, 48, 47] = _
              rw [← mk_append, ← mk_append]
              congr 1
              try simp [bReq, bHTTP]
            have hst1 : ((⟨#[72, 84, 84, 80, 58, 47, 47]⟩ : ByteArray) ++ mk T).size = s.size + 7 := by
              show (mk [72, 84, 84, 80, 58, 47, 47] ++ mk T).size = _
              rw [← mk_append, size_mk]; simp <;> omega
            have hst2 : (((⟨#[72, 84, 84, 80, 58, 47, 47]⟩ : ByteArray) ++ mk T) ++ (⟨#[46, 58, 56, 48, 47]⟩ : ByteArray)).size = s.size + 12 := by
              show ((mk [72, 84, 84, 80, 58, 47, 47] ++ mk T) ++ mk [46, 58, 56, 48, 47]).size = _
              rw [← mk_append, ← mk_append, size_mk]; simp <;> omega
            have hus : ((⟨#[104, 116, 116, 112, 115, 58, 47, 47]⟩ : ByteArray) ++ s) ++ (⟨#[47]⟩ : ByteArray) = mk (bHttps ++ 58 :: ([47, 47] ++ (un s ++ [47]))) := by
              conv => lhs; rw [← mk_un s]
              show (mk [104, 116, 116, 112, 115, 58, 47, 47] ++ mk (un s)) ++ mk [47] = _
              rw [← mk_append, ← mk_append]
              congr 1
              try simp [bHttps]
            have hsu1 : ((⟨#[104, 116, 116, 112, 115, 58, 47, 47]⟩ : ByteArray) ++ s).size = s.size + 8 := by
              conv => lhs; rw [← mk_un s]
              show (mk [104, 116, 116, 112, 115, 58, 47, 47] ++ mk (un s)).size = _
              rw [← mk_append, size_mk]; simp [length_un] <;> omega
            have hsu2 : (((⟨#[104, 116, 116, 112, 115, 58, 47, 47]⟩ : ByteArray) ++ s) ++ (⟨#[47]⟩ : ByteArray)).size = s.size + 9 := by
              rw [hus, size_mk]; simp [bHttps, length_un] <;> omega
            have HUR : Hid (cov = true → ((mk u).toList == (((⟨#[104, 116, 116, 112, 115, 58, 47, 47]⟩ : ByteArray) ++ s) ++ (⟨#[47]⟩ : ByteArray)).toList) = true) := Lib.hid (fun h => by rw [hus, hur h]; simp)
            have HCALL := Lib.hid hcall
            have HCOV := Lib.hid hcv
            have HR2 := Lib.hid hr2
            have HSTR := Lib.hid hstr
            have hq : ((mk ph).toList == s.toList) = decide (ph = un s) := by
              rw [toList_un, toList_un, un_mk]
              by_cases h : ph = un s <;> simp [h]
            have HQ := Lib.hid hq
            have HAR := Lib.hid (HA4.out.trans (hbwe.mono (by omega)))
            have HPR := Lib.hid (HB4z.out.below (by omega) hbwe)
            have HBR := Lib.hid (HB4.out.below hbwe)
            have HVC := Lib.hid (fun W => r14_covers (mk ph) s W (by rw [size_mk]; have := HP3.out; omega) (by omega))
            clear hcall hcv hr2 hur hstr hus hq hbwe hbw hcov hT htk hsu1 hsu2
            go_wp2_with fail
            all_goals (try (exfalso; omega))
            rw [HSTR.out]
            refine HCALL.out.mono ?_; rintro e w5 ⟨rfl, hb5⟩
            have hs5 := hb5.size
            have hA6 := HAR.out.trans (hb5.mono (by omega))
            have HA6 := Lib.hid (hA6.alloc (by have := hA6.size; have := HZ.out; omega) (.cells #[.int .i64 (a : Int), .int .i64 (r : Int), .string (mk u)] 34))
            have HB6 := Lib.hid ((HBR.out.below hb5).below ((Below.refl _ w5).alloc (Nat.le_refl _) (.cells #[.int .i64 (a : Int), .int .i64 (r : Int), .string (mk u)] 34)))
            have P6 := (HPR.out.below (by omega) hb5).alloc (.cells #[.int .i64 (a : Int), .int .i64 (r : Int), .string (mk u)] 34)
            have D6 := BlkL.new w5 34 [.int .i64 (a : Int), .int .i64 (r : Int), .string (mk u)]
            have hs6 : (w5.alloc (.cells #[.int .i64 (a : Int), .int .i64 (r : Int), .string (mk u)] 34)).heap.size = w5.heap.size + 1 := by simp
            have p0 := P6.c 0 _ rfl
            have p1 := P6.c 1 _ rfl
            have p2 := P6.c 2 _ rfl
            have d1 := D6.c 1 _ rfl
            have d2 := D6.c 2 _ rfl
            have HD6 := Lib.hid D6
            clear HCALL hb5 hA6 P6 D6 HAR HBR HPR HSTR
            obtain ⟨x1, hx1⟩ : ∃ x1, x1 = decide (now < pe) := ⟨_, rfl⟩
            have g1 : decide (now < pe) = x1 := hx1.symm
            have hcv := HCOV.out
            have hr2 := HR2.out
            have hqq := HQ.out
            rw [← hx1] at hcv
            have hr3 : ((r : Int) == 2) = cov := by rw [← hr2, Bool.eq_iff_iff]; simp; omega
            clear HCOV HR2 HQ hr2 hx1
            obtain ⟨c, hc⟩ : ∃ c, c = decide (ph = un s) := ⟨_, rfl⟩
            rw [← hc] at hcv hqq
            clear hc
            cases x1
            · obtain rfl : cov = false := by rw [hcv]; rfl
              clear hcv hqq HUR
              go_wp2_with fail
              all_goals (try (exfalso; omega))
              refine (HAW.out _ HB6.out).mono ?_; rintro e w9 ⟨rfl, hb9⟩
              go_wp2
              all_goals (try (exfalso; omega))
              go_ret
              exact ⟨rfl, HZ.out ▸ HA6.out.trans (hb9.mono (by omega))⟩
            · cases c
              · cases ps
                · obtain rfl : cov = false := by rw [hcv]; rfl
                  clear hcv HUR
                  go_wp2_with fail
                  all_goals (try (exfalso; omega))
                  refine (HAW.out _ HB6.out).mono ?_; rintro e w9 ⟨rfl, hb9⟩
                  go_wp2
                  all_goals (try (exfalso; omega))
                  go_ret
                  exact ⟨rfl, HZ.out ▸ HA6.out.trans (hb9.mono (by omega))⟩
                · have hcv2 : cov = coversV ph (un s) := by rw [hcv]; simp
                  have HC2 := Lib.hid hcv2
                  clear hcv hcv2
                  go_wp2_with fail
                  all_goals (try (exfalso; omega))
                  refine (HVC.out _).mono ?_; rintro e w7 ⟨rfl, hb7⟩
                  rw [un_mk, ← HC2.out]
                  have hs7 := hb7.size
                  have HA7 := Lib.hid (HA6.out.trans (hb7.mono (by omega)))
                  have HB7 := Lib.hid (HB6.out.below hb7)
                  have D7 := HD6.out.below (by omega) hb7
                  clear d1 d2 p0 p1 p2 hb7 HA6 HB6 HD6
                  have d1 := D7.c 1 _ rfl
                  have d2 := D7.c 2 _ rfl
                  clear D7 HC2
                  cases cov
                  · clear HUR
                    go_wp2_with fail
                    all_goals (try (exfalso; omega))
                    refine (HAW.out _ HB7.out).mono ?_; rintro e w9 ⟨rfl, hb9⟩
                    go_wp2
                    all_goals (try (exfalso; omega))
                    go_ret
                    exact ⟨rfl, HZ.out ▸ HA7.out.trans (hb9.mono (by omega))⟩
                  · have hue := HUR.out rfl
                    go_wp2_with fail
                    all_goals (try (exfalso; omega))
                    refine (HAW.out _ HB7.out).mono ?_; rintro e w9 ⟨rfl, hb9⟩
                    go_wp2
                    all_goals (try (exfalso; omega))
                    go_ret
                    exact ⟨rfl, HZ.out ▸ HA7.out.trans (hb9.mono (by omega))⟩
              · obtain rfl : cov = true := by rw [hcv]; rfl
                have hue := HUR.out rfl
                clear hcv HUR
                go_wp2_with fail
                all_goals (try (exfalso; omega))
                refine (HAW.out _ HB6.out).mono ?_; rintro e w9 ⟨rfl, hb9⟩
                go_wp2
                all_goals (try (exfalso; omega))
                go_ret
                exact ⟨rfl, HZ.out ▸ HA6.out.trans (hb9.mono (by omega))⟩
          --SUB_END
  · rw [decide_eq_false hsh] at hall
    have HALL := Lib.hid hall
    clear hall hsh hp hs
    go_enter Tryz.func3, Tryz.ntmps3
    go_upto_region 1 with fail
    rw [HW0.out, ← HZ.out]
    clear HW0
    go_wp2_with fail
    all_goals (try (exfalso; omega))
    rw [HW1.out]
    clear HW1
    refine (keep_short 300 _ [un (mk ph), un s] _ HST.out hle.out).mono ?_; rintro e w' ⟨rfl, rfl⟩
    rw [HALL.out]
    clear HST hle HALL c0
    go_wp2_with fail
    all_goals (try (exfalso; omega))
    refine (HAW.out _ HB1.out).mono ?_; rintro e w1 ⟨rfl, hb1⟩
    go_wp2
    go_ret
    exact ⟨rfl, HZ.out ▸ HA1.out.trans (hb1.mono (by omega))⟩
end Go.Proofs.YtjbciamhhfcdoaaGreatDoor
