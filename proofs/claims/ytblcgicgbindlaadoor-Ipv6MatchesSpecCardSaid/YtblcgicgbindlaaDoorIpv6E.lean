/- The walk of Parse of the reference of layer 11. Conditions: strings are of bounded length. -/
import Derived.Test.YtblcgicgbindlaaDoorIpv6D
import Derived.Test.YtblcgicgbindlaaDoorIpv6U
import Derived.Test.YtblcgicgbindlaaDoorPlainIpv6R
namespace Go.Proofs.YtblcgicgbindlaaDoor
open Go.RowKit Hs
set_option linter.unusedSimpArgs false
set_option linter.unusedVariables false

theorem gcells_set (l : List Nat) (k v : Nat) : (gcells l).toArray.setIfInBounds k (.int .u16 (v : Int)) = (gcells (l.set k v)).toArray := by
  unfold gcells
  rw [List.setIfInBounds_toArray, List.map_set]
theorem KeptBut.trans {g : Nat} {w w' w'' : World} (h : KeptBut g w w') (h' : KeptBut g w' w'') : KeptBut g w w'' := ⟨fun k hk => (h'.1 k hk).trans (h.1 k hk), fun B hB => (h.2 B hB).trans (h'.2 B hB)⟩
/-- Block g holds the groups A; all else is as in w. -/
def FillSt (g : Nat) (w wr : World) (A : List Nat) : Prop := KeptBut g w wr ∧ BlkN wr g 39 (gcells A).toArray
theorem FillSt.step {g : Nat} {w wr : World} {A : List Nat} (h : FillSt g w wr A) (k v : Nat) : FillSt g w (wr.setCell ⟨g, k, none⟩ (.int .u16 (v : Int))) (A.set k v) := by
  have hk : KeptBut g wr (wr.setCell ⟨g, k, none⟩ (.int .u16 (v : Int))) := by
    rw [setCell_eq_setRow wr g k _ _ _ _ h.2]
    exact KeptBut.row _ _ _
  refine ⟨h.1.trans hk, ?_⟩
  have := h.2.set k (.int .u16 (v : Int))
  rw [gcells_set] at this
  exact this
theorem FillSt.cell {g : Nat} {w wr : World} {A : List Nat} (h : FillSt g w wr A) (k : Nat) (hk : k < A.length) : ∃ u, wr.cell? ⟨g, k, none⟩ = some u := by
  refine ⟨.int .u16 (A[k] : Int), ?_⟩
  rw [cell_of_row wr g k _ _ _ h.2]
  simp [gcells, List.getElem?_eq_getElem hk]
theorem FillSt.frozen {g : Nat} {w wr : World} {A : List Nat} (h : FillSt g w wr A) (k : Nat) : wr.frozen? ⟨g, k, none⟩ = false := Lib.frozen_of_heap h.2 k
theorem FillSt.start {g : Nat} {w : World} {A : List Nat} (h : BlkN w g 39 (gcells A).toArray) : FillSt g w w A := ⟨KeptBut.refl _ _, h⟩
theorem own_open {w : World} {base : Nat} {e : TypeId} {a : Option Addr} {c : Nat} {l : List Nat} (h : w.ownsRow base e 1 (.slice a l.length c) l.length (gcells l)) (h0 : 0 < l.length) : ∃ b off, a = some ⟨b, off, none⟩ ∧ base ≤ b ∧ ∀ j (hj : j < l.length), w.cell? ⟨b, off + j, none⟩ = some (.int .u16 (l[j] : Int)) := by
  have h1 := h
  rcases h.2 with ⟨_, h2⟩ | ⟨g, cap, cur, hv, hb, _⟩
  · omega
  · injection hv with e1 e2 e3
    subst e1
    subst e3
    refine ⟨g, 0, rfl, hb, fun j hj => ?_⟩
    rw [Nat.zero_add, h1.cellAt j (by omega)]
    simp [gcells, List.getElem?_eq_getElem hj]
theorem cut2_le {l : Bs} {p : Bs × Bs} (h : cut2 l = some p) : p.1.length + 2 + p.2.length = l.length := by
  have := congrArg List.length (cut2_some h)
  rw [this]; simp; omega

set_option maxRecDepth 20000 in
set_option maxHeartbeats 4000000 in
theorem r11_parse (s : ByteArray) (w : World) (hs : s.size ≤ 100000) : Calls Tryd.prog 25 #[.string s] w fun e w' => e = .returned (.tuple #[.agg (gcells (res6 (parse6 (un s))).1).toArray, .bool (res6 (parse6 (un s))).2]) ∧ Below w.heap.size w w' := by
  have HD := Lib.hid (fun W => r11_double s W (by omega))
  have hdef : Hid (parse6 (un s) = match cut2 (un s) with
    | none => match grpsV (un s) true with
      | some x => if x.length = 8 then some x else none
      | none => none
    | some p => match grpsV p.1 false, grpsV p.2 true with
      | some x, some y => if x.length + y.length ≤ 7 then some (x ++ (List.replicate (8 - x.length - y.length) 0 ++ y)) else none
      | _, _ => none) := Lib.hid rfl
  obtain ⟨R, hR⟩ : ∃ R, R = parse6 (un s) := ⟨_, rfl⟩
  rw [← hR] at hdef ⊢
  clear hR
  have hbA : Below w.heap.size w ((w.alloc (.cells (gcells z8).toArray 39)).alloc (.cells (gcells z8).toArray 39)) := ((Below.refl _ w).alloc (Nat.le_refl _) _).alloc (by simp) _
  have hr0 : BlkN ((w.alloc (.cells (gcells z8).toArray 39)).alloc (.cells (gcells z8).toArray 39)) w.heap.size 39 (gcells z8).toArray := (BlkN.new w _ _).alloc _
  have ho0 : BlkN ((w.alloc (.cells (gcells z8).toArray 39)).alloc (.cells (gcells z8).toArray 39)) (w.heap.size + 1) 39 (gcells z8).toArray := by
    have := BlkN.new (w.alloc (.cells (gcells z8).toArray 39)) 39 (gcells z8).toArray
    simpa using this
  have hsz0 : w.heap.size + 2 ≤ ((w.alloc (.cells (gcells z8).toArray 39)).alloc (.cells (gcells z8).toArray 39)).heap.size := by simp
  obtain ⟨W0, hW0⟩ : ∃ W0, W0 = ((w.alloc (.cells (gcells z8).toArray 39)).alloc (.cells (gcells z8).toArray 39)) := ⟨_, rfl⟩
  rw [← hW0] at hbA hr0 ho0 hsz0
  have HW0 : Hid ((w.alloc (.cells #[.int .u16 0, .int .u16 0, .int .u16 0, .int .u16 0, .int .u16 0, .int .u16 0, .int .u16 0, .int .u16 0] 39)).alloc (.cells #[.int .u16 0, .int .u16 0, .int .u16 0, .int .u16 0, .int .u16 0, .int .u16 0, .int .u16 0, .int .u16 0] 39) = W0) := Lib.hid hW0.symm
  clear hW0
  cases hc : cut2 (un s) with
  | none =>
    have hD := fun W => HD.out W
    unfold dblI at hD
    simp only [hc] at hD
    have HD2 := Lib.hid hD
    have HG := Lib.hid (r11_groups s true W0 hs)
    have hdef2 : Hid (R = match grpsV (un s) true with | some x => if x.length = 8 then some x else none | none => none) := Lib.hid (by have := hdef.out; rw [hc] at this; exact this)
    obtain ⟨X, hX⟩ : ∃ X, X = grpsV (un s) true := ⟨_, rfl⟩
    rw [← hX] at HG hdef2
    clear hD HD hdef hX hc
    go_enter Tryd.func25, Tryd.ntmps25
    go_wp2_with fail
    rw [HW0.out]
    clear HW0
    refine (HD2.out _).mono ?_; rintro e w1 ⟨rfl, rfl⟩
    go_wp2_with fail
    refine HG.out.mono ?_; rintro e w2 ⟨v1, rfl, hg1, hb2⟩
    have hr2 := hr0.below hr0.lt hb2
    have ho2 := ho0.below ho0.lt hb2
    have hall := hbA.trans (hb2.mono hbA.size)
    have hsh1 : Grps w2 v1 (X.getD []) := Row.owned hg1
    have HR := Lib.hid hr2; have HO := Lib.hid ho2
    have HG1 := Lib.hid hg1
    have hgb : w.heap.size + 1 < W0.heap.size := by omega
    obtain ⟨a1, c1, rfl, hn1, hm1, _⟩ := hsh1.open
    unfold maxLen at hm1
    clear hr0 hr2 ho0 ho2 hg1 hsh1 HG HD2
    cases X with
    | none =>
      have hend : Hid (R = none) := Lib.hid (hdef2.out)
      clear hdef2
      simp only [Option.getD_none, Option.isSome_none, List.length_nil] at hn1 ⊢
      go_wp2_with (first
        | refine wpList_load_row rfl 39 (.tmp 4) rfl (w.heap.size + 1) rfl 39 _ _ _ HO.out Tryd.underlying39 rfl infoArr8 ?_
        | refine wpList_store_row rfl 39 (.tmp 2) (.tmp 31) rfl w.heap.size (gcells z8).toArray rfl rfl 39 _ HR.out infoArr8 rfl (all_one z8) ?_)
      all_goals (try (exfalso; omega))
      refine bodyPost_ret (results_ct rfl _ _ w.heap.size 39 _ _ rfl (setRow_heap w2 w.heap.size _ (gcells z8).toArray _ _ HR.out) Tryd.underlying39 rfl infoArr8) rfl ?_
      rw [hend.out]
      exact ⟨rfl, below_setRow hall (Nat.le_refl _) (gcells z8).toArray⟩
    | some x =>
      simp only [Option.getD_some, Option.isSome_some] at hn1 HG1 ⊢
      by_cases h8 : x.length = 8
      · have hend : Hid (R = some x) := Lib.hid (by have := hdef2.out; simp only at this; rw [this, if_pos h8])
        have HS0 : Hid (FillSt (w.heap.size + 1) w2 w2 (fillAt zs8 0 x 0)) := Lib.hid (FillSt.start (by rw [fillAt_zero]; exact HO.out))
        clear hdef2
        have H8 := Lib.hid h8
        rw [h8] at hn1
        simp only [h8]
        clear h8
        go_wp2
        go_loopw [8] (fun iv wr => ∃ k : Nat, iv = .int .i64 k ∧ k ≤ 8 ∧ Hid (FillSt (w.heap.size + 1) w2 wr (fillAt zs8 0 x k))) (fun iv _ => 8 - (intOf iv).toNat)
        case atStart => exact ⟨0, rfl, by omega, HS0⟩
        case round =>
          obtain ⟨k, rfl, hk, hst⟩ := hrel
          by_cases hlt : k < 8
          · have hkx : k < x.length := by rw [H8.out]; exact hlt
            have hfl : (fillAt zs8 0 x k).length = 8 := fillAt_len zs8 0 x k (by omega) (by show 0 + k ≤ 8; omega)
            obtain ⟨u0, c0⟩ := hst.out.cell k (by rw [hfl]; exact hlt)
            have f0 := hst.out.frozen k
            obtain ⟨b, off, rfl, hbb, hcell⟩ := own_open (own_kept HG1.out hst.out.1 hgb) (by omega)
            have c1 := hcell k hkx
            have hst2 : Hid (FillSt (w.heap.size + 1) w2 (wr.setCell ⟨w.heap.size + 1, k, none⟩ (.int .u16 (x[k] : Int))) (fillAt zs8 0 x (k + 1))) := Lib.hid (by
              have := hst.out.step k x[k]
              have e := fillAt_step zs8 0 x k hkx (by show 0 + k < 8; omega)
              rw [Nat.zero_add] at e
              rw [e] at this
              exact this)
            obtain ⟨y, hy⟩ : ∃ y, y = x[k] := ⟨_, rfl⟩
            rw [← hy] at c1 hst2
            clear hcell hy hst hfl hkx
            go_wp2
            all_goals (try (exfalso; omega))
            go_roundw
            case rel => exact ⟨k + 1, by go_num, by omega, hst2⟩
            case measure => simp [intOf]; omega
          · obtain rfl : k = 8 := by omega
            have hO2 : Hid (BlkN wr (w.heap.size + 1) 39 (gcells x).toArray) := Lib.hid (by have := hst.out.2; rw [fill_eight x H8.out] at this; exact this)
            have hR2 : Hid (BlkN wr w.heap.size 39 (gcells z8).toArray) := Lib.hid ((hst.out.1.1 _ (by omega)).trans HR.out)
            have hall2 := hall.trans (hst.out.1.2 _ (by omega))
            have hx8 : (Tryd.prog.info? 39).map (·.size) = some (gcells x).toArray.size := by rw [infoArr8]; simp [H8.out]
            have HX8 := Lib.hid hx8
            clear hst hx8
            go_wp2_with (first
              | refine wpList_load_row rfl 39 (.tmp 4) rfl (w.heap.size + 1) rfl 39 _ _ _ hO2.out Tryd.underlying39 rfl HX8.out ?_
              | refine wpList_store_row rfl 39 (.tmp 2) (.tmp 42) rfl w.heap.size _ rfl rfl 39 _ hR2.out HX8.out (by simp [z8, H8.out]) (all_one _) ?_)
            all_goals (try (exfalso; omega))
            refine bodyPost_ret (results_ct rfl _ _ w.heap.size 39 _ _ rfl (setRow_heap wr w.heap.size _ _ _ _ hR2.out) Tryd.underlying39 rfl HX8.out) rfl ?_
            rw [hend.out]
            exact ⟨rfl, below_setRow hall2 (Nat.le_refl _) _⟩
      · have hend : Hid (R = none) := Lib.hid (by have := hdef2.out; simp only at this; rw [this, if_neg h8])
        clear hdef2
        have g1 : ((x.length : Int) != 8) = true := by simp; omega
        go_wp2_with (first
          | refine wpList_load_row rfl 39 (.tmp 4) rfl (w.heap.size + 1) rfl 39 _ _ _ HO.out Tryd.underlying39 rfl infoArr8 ?_
          | refine wpList_store_row rfl 39 (.tmp 2) (.tmp 31) rfl w.heap.size (gcells z8).toArray rfl rfl 39 _ HR.out infoArr8 rfl (all_one z8) ?_)
        all_goals (try (exfalso; omega))
        refine bodyPost_ret (results_ct rfl _ _ w.heap.size 39 _ _ rfl (setRow_heap w2 w.heap.size _ (gcells z8).toArray _ _ HR.out) Tryd.underlying39 rfl infoArr8) rfl ?_
        rw [hend.out]
        exact ⟨rfl, below_setRow hall (Nat.le_refl _) (gcells z8).toArray⟩
  | some p =>
    obtain ⟨P1, P2⟩ := p
    have hle := cut2_le hc
    have hsm := cut2_some hc
    simp only at hle hsm
    rw [length_un] at hle
    have hD := fun W => HD.out W
    unfold dblI at hD
    simp only [hc] at hD
    have hdef2 : Hid (R = match grpsV P1 false, grpsV P2 true with | some x, some y => if x.length + y.length ≤ 7 then some (x ++ (List.replicate (8 - x.length - y.length) 0 ++ y)) else none | _, _ => none) := Lib.hid (by have := hdef.out; rw [hc] at this; exact this)
    obtain ⟨q, hq⟩ : ∃ q, q = P1.length := ⟨_, rfl⟩
    have e1 : un (s.extract 0 q) = P1 := by rw [un_extract, hsm, hq]; simp
    have e2 : un (s.extract (q + 2) s.size) = P2 := by
      rw [un_extract, List.take_of_length_le (by rw [List.length_drop, length_un]; omega), hsm, hq, ← List.drop_drop]; simp
    rw [← hq] at hle
    simp only [← hq] at hD
    have HD2 := Lib.hid hD
    have g1 := fun W => r11_groups (s.extract 0 q) false W (by rw [ByteArray.size_extract]; omega)
    have g2 := fun W => r11_groups (s.extract (q + 2) s.size) true W (by rw [ByteArray.size_extract]; omega)
    simp only [e1] at g1
    simp only [e2] at g2
    obtain ⟨X, hX⟩ : ∃ X, X = grpsV P1 false := ⟨_, rfl⟩
    obtain ⟨Y, hY⟩ : ∃ Y, Y = grpsV P2 true := ⟨_, rfl⟩
    rw [← hX, ← hY] at hdef2
    simp only [← hX] at g1
    simp only [← hY] at g2
    have hXl : (X.getD []).length ≤ 100002 := by rw [hX]; exact Nat.le_trans (grpsV_len _ _) (by omega)
    have hYl : (Y.getD []).length ≤ 100002 := by rw [hY]; exact Nat.le_trans (grpsV_len _ _) (by omega)
    have G1 := Lib.hid g1
    have G2 := Lib.hid g2
    have hk0 : decide ((q : Int) < 0) = false := decide_eq_false (by omega)
    have hk1 : (q : Int) ≤ (s.size : Int) := by omega
    have hk2 : (q : Int) + 2 ≤ (s.size : Int) := by omega
    clear hD HD hdef hX hY hc e1 e2 g1 g2 hq hsm
    go_enter Tryd.func25, Tryd.ntmps25
    go_wp2_with fail
    rw [HW0.out]
    clear HW0
    refine (HD2.out _).mono ?_; rintro e w1 ⟨rfl, rfl⟩
    go_wp2_with fail
    all_goals (try (exfalso; omega))
    refine (G1.out _).mono ?_; rintro e w1 ⟨v1, rfl, hg1, hb1⟩
    have hr1 := hr0.below hr0.lt hb1
    have ho1 := ho0.below ho0.lt hb1
    have hs1 := hb1.size
    go_wp2_with fail
    all_goals (try (exfalso; omega))
    refine (G2.out _).mono ?_; rintro e w2 ⟨v2, rfl, hg2, hb2⟩
    have hr2 := hr1.below hr1.lt hb2
    have ho2 := ho1.below ho1.lt hb2
    have hg1' := own_later hg1 hb2
    have hall := hbA.trans ((hb1.trans (hb2.mono hb1.size)).mono hbA.size)
    have hsh1 : Grps w2 v1 (X.getD []) := Row.owned hg1'
    have hsh2 : Grps w2 v2 (Y.getD []) := Row.owned hg2
    have HR := Lib.hid hr2; have HO := Lib.hid ho2
    have HG1 := Lib.hid hg1'
    have HG2 := Lib.hid (own_base hg2 hs1)
    have hgb : w.heap.size + 1 < W0.heap.size := by omega
    obtain ⟨a1, c1, rfl, hn1, hm1, _⟩ := hsh1.open
    obtain ⟨a2, c2, rfl, hn2, hm2, _⟩ := hsh2.open
    unfold maxLen at hm1 hm2
    clear hr0 hr1 hr2 ho0 ho1 ho2 hg1 hg1' hg2 hsh1 hsh2 G1 G2 HD2
    cases X with
    | none =>
      have hend : Hid (R = none) := Lib.hid (hdef2.out)
      clear hdef2
      simp only [Option.getD_none, Option.isSome_none, List.length_nil] at hn1 ⊢
      go_wp2_with (first
        | refine wpList_load_row rfl 39 (.tmp 4) rfl (w.heap.size + 1) rfl 39 _ _ _ HO.out Tryd.underlying39 rfl infoArr8 ?_
        | refine wpList_store_row rfl 39 (.tmp 2) (.tmp 72) rfl w.heap.size (gcells z8).toArray rfl rfl 39 _ HR.out infoArr8 rfl (all_one z8) ?_)
      all_goals (try (exfalso; omega))
      refine bodyPost_ret (results_ct rfl _ _ w.heap.size 39 _ _ rfl (setRow_heap w2 w.heap.size _ (gcells z8).toArray _ _ HR.out) Tryd.underlying39 rfl infoArr8) rfl ?_
      rw [hend.out]
      exact ⟨rfl, below_setRow hall (Nat.le_refl _) (gcells z8).toArray⟩
    | some x =>
      cases Y with
      | none =>
        have hend : Hid (R = none) := Lib.hid (hdef2.out)
        clear hdef2
        simp only [Option.getD_none, Option.getD_some, Option.isSome_none, Option.isSome_some, List.length_nil] at hn1 hn2 ⊢
        go_wp2_with (first
          | refine wpList_load_row rfl 39 (.tmp 4) rfl (w.heap.size + 1) rfl 39 _ _ _ HO.out Tryd.underlying39 rfl infoArr8 ?_
          | refine wpList_store_row rfl 39 (.tmp 2) (.tmp 72) rfl w.heap.size (gcells z8).toArray rfl rfl 39 _ HR.out infoArr8 rfl (all_one z8) ?_)
        all_goals (try (exfalso; omega))
        refine bodyPost_ret (results_ct rfl _ _ w.heap.size 39 _ _ rfl (setRow_heap w2 w.heap.size _ (gcells z8).toArray _ _ HR.out) Tryd.underlying39 rfl infoArr8) rfl ?_
        rw [hend.out]
        exact ⟨rfl, below_setRow hall (Nat.le_refl _) (gcells z8).toArray⟩
      | some y =>
        simp only [Option.getD_some, Option.isSome_some] at hn1 hn2 hXl hYl HG1 HG2 ⊢
        by_cases h7 : x.length + y.length ≤ 7
        · have hend : Hid (R = some (x ++ (List.replicate (8 - x.length - y.length) 0 ++ y))) := Lib.hid (by have := hdef2.out; simp only at this; rw [this, if_pos h7])
          have HS0 : Hid (FillSt (w.heap.size + 1) w2 w2 (fillAt zs8 0 x 0)) := Lib.hid (FillSt.start (by rw [fillAt_zero]; exact HO.out))
          have g7 : decide ((7 : Int) < (x.length : Int) + (y.length : Int)) = false := decide_eq_false (by omega)
          have hx7 : x.length ≤ 7 := by omega
          have hy7 : y.length ≤ 7 := by omega
          clear hdef2 hXl hYl
          go_wp2
          all_goals (try (exfalso; omega))
          go_loopw [13] (fun iv wr => ∃ k : Nat, iv = .int .i64 k ∧ k ≤ x.length ∧ Hid (FillSt (w.heap.size + 1) w2 wr (fillAt zs8 0 x k))) (fun iv _ => x.length - (intOf iv).toNat)
          case atStart => exact ⟨0, rfl, by omega, HS0⟩
          case round =>
            obtain ⟨k, rfl, hk, hst⟩ := hrel
            by_cases hlt : k < x.length
            · have hfl : (fillAt zs8 0 x k).length = 8 := fillAt_len zs8 0 x k (by omega) (by show 0 + k ≤ 8; omega)
              obtain ⟨u0, c0⟩ := hst.out.cell k (by omega)
              have f0 := hst.out.frozen k
              obtain ⟨b, off, rfl, hbb, hcell⟩ := own_open (own_kept HG1.out hst.out.1 hgb) (by omega)
              have c1 := hcell k hlt
              have hst2 : Hid (FillSt (w.heap.size + 1) w2 (wr.setCell ⟨w.heap.size + 1, k, none⟩ (.int .u16 (x[k] : Int))) (fillAt zs8 0 x (k + 1))) := Lib.hid (by
                have := hst.out.step k x[k]
                have e := fillAt_step zs8 0 x k hlt (by show 0 + k < 8; omega)
                rw [Nat.zero_add] at e
                rw [e] at this
                exact this)
              obtain ⟨z, hz⟩ : ∃ z, z = x[k] := ⟨_, rfl⟩
              rw [← hz] at c1 hst2
              clear hcell hz hst hfl
              go_wp2
              all_goals (try (exfalso; omega))
              go_roundw
              case rel => exact ⟨k + 1, by go_num, by omega, hst2⟩
              case measure => simp [intOf]; omega
            · obtain rfl : k = x.length := by omega
              have HS1 : Hid (FillSt (w.heap.size + 1) w2 wr (fillAt (x ++ List.replicate (8 - x.length) 0) (8 - y.length) y 0)) := Lib.hid (by have := hst.out; rw [fill_first x (by omega)] at this; rw [fillAt_zero]; exact this)
              have hAl : (x ++ List.replicate (8 - x.length) 0).length = 8 := by simp; omega
              obtain ⟨A, hA⟩ : ∃ A, A = x ++ List.replicate (8 - x.length) 0 := ⟨_, rfl⟩
              rw [← hA] at HS1 hAl
              have HA := Lib.hid hA
              have HAL := Lib.hid hAl
              clear hst hA hAl
              go_wp2
              all_goals (try (exfalso; omega))
              go_loopw [14] (fun iv wr => ∃ k : Nat, iv = .int .i64 k ∧ k ≤ y.length ∧ Hid (FillSt (w.heap.size + 1) w2 wr (fillAt A (8 - y.length) y k))) (fun iv _ => y.length - (intOf iv).toNat)
              case atStart => exact ⟨0, rfl, by omega, HS1⟩
              case round =>
                obtain ⟨k, rfl, hk, hst⟩ := hrel
                by_cases hlt : k < y.length
                · have hfl : (fillAt A (8 - y.length) y k).length = 8 := by rw [fillAt_len A _ y k (by omega) (by rw [HAL.out]; omega), HAL.out]
                  obtain ⟨j, hj⟩ : ∃ j, j = 8 - y.length + k := ⟨_, rfl⟩
                  have hj8 : j < 8 := by omega
                  have hji : (8 : Int) - (y.length : Int) + (k : Int) = (j : Int) := by omega
                  obtain ⟨u0, c0⟩ := hst.out.cell j (by omega)
                  have f0 := hst.out.frozen j
                  obtain ⟨b, off, rfl, hbb, hcell⟩ := own_open (own_kept HG2.out hst.out.1 hgb) (by omega)
                  have c1 := hcell k hlt
                  have hst2 : Hid (FillSt (w.heap.size + 1) w2 (wr.setCell ⟨w.heap.size + 1, j, none⟩ (.int .u16 (y[k] : Int))) (fillAt A (8 - y.length) y (k + 1))) := Lib.hid (by
                    have := hst.out.step j y[k]
                    have e := fillAt_step A (8 - y.length) y k hlt (by rw [HAL.out]; omega)
                    rw [← hj] at e
                    rw [e] at this
                    exact this)
                  obtain ⟨z, hz⟩ : ∃ z, z = y[k] := ⟨_, rfl⟩
                  rw [← hz] at c1 hst2
                  have HJ := Lib.hid hj
                  clear hcell hz hst hfl hj
                  go_wp2
                  all_goals (try (exfalso; omega))
                  go_roundw
                  case rel => exact ⟨k + 1, by go_num, by omega, hst2⟩
                  case measure => simp [intOf]; omega
                · obtain rfl : k = y.length := by omega
                  obtain ⟨Z, hZ⟩ : ∃ Z, Z = x ++ (List.replicate (8 - x.length - y.length) 0 ++ y) := ⟨_, rfl⟩
                  have hZl : Z.length = 8 := by rw [hZ]; simp; omega
                  have hO2 : Hid (BlkN wr (w.heap.size + 1) 39 (gcells Z).toArray) := Lib.hid (by have := hst.out.2; rw [HA.out, fill_second x y (by omega), ← hZ] at this; exact this)
                  have hR2 : Hid (BlkN wr w.heap.size 39 (gcells z8).toArray) := Lib.hid ((hst.out.1.1 _ (by omega)).trans HR.out)
                  have hall2 := hall.trans (hst.out.1.2 _ (by omega))
                  have HX8 : Hid ((Tryd.prog.info? 39).map (·.size) = some (gcells Z).toArray.size) := Lib.hid (by rw [infoArr8]; simp [hZl])
                  have HZL := Lib.hid hZl
                  have hend2 : Hid (R = some Z) := Lib.hid (by rw [hend.out, hZ])
                  clear hst hZ hZl hend
                  go_wp2_with (first
                    | refine wpList_load_row rfl 39 (.tmp 4) rfl (w.heap.size + 1) rfl 39 _ _ _ hO2.out Tryd.underlying39 rfl HX8.out ?_
                    | refine wpList_store_row rfl 39 (.tmp 2) (.tmp 101) rfl w.heap.size _ rfl rfl 39 _ hR2.out HX8.out (by simp [z8, HZL.out]) (all_one _) ?_)
                  all_goals (try (exfalso; omega))
                  refine bodyPost_ret (results_ct rfl _ _ w.heap.size 39 _ _ rfl (setRow_heap wr w.heap.size _ _ _ _ hR2.out) Tryd.underlying39 rfl HX8.out) rfl ?_
                  rw [hend2.out]
                  exact ⟨rfl, below_setRow hall2 (Nat.le_refl _) _⟩
        · have hend : Hid (R = none) := Lib.hid (by have := hdef2.out; simp only at this; rw [this, if_neg h7])
          clear hdef2
          have g7 : decide ((7 : Int) < (x.length : Int) + (y.length : Int)) = true := decide_eq_true (by omega)
          have g8 : (7 : Int) < (x.length : Int) + (y.length : Int) := by omega
          go_wp2_with (first
            | refine wpList_load_row rfl 39 (.tmp 4) rfl (w.heap.size + 1) rfl 39 _ _ _ HO.out Tryd.underlying39 rfl infoArr8 ?_
            | refine wpList_store_row rfl 39 (.tmp 2) (.tmp 72) rfl w.heap.size (gcells z8).toArray rfl rfl 39 _ HR.out infoArr8 rfl (all_one z8) ?_)
          all_goals (try (exfalso; omega))
          refine bodyPost_ret (results_ct rfl _ _ w.heap.size 39 _ _ rfl (setRow_heap w2 w.heap.size _ (gcells z8).toArray _ _ HR.out) Tryd.underlying39 rfl infoArr8) rfl ?_
          rw [hend.out]
          exact ⟨rfl, below_setRow hall (Nat.le_refl _) (gcells z8).toArray⟩
end Go.Proofs.YtblcgicgbindlaaDoor
