/- The walk of Parse of ipv6. Conditions: strings are of bounded length; the library's tables stand.
   Structs as blocks of cells and as values: hosts and URLs. Conditions: none. -/
import Derived.Test.YtjbciamhhfcdoaaGreatDoorSub23
import Derived.Test.YtjbciamhhfcdoaaGreatDoorSub19
import Derived.Laws.CopyOwn
import Derived.Laws.Tables
import Derived.Lib.IndexMore
import Derived.Test.YtjbciamhhfcdoaaGreatDoorSub08
import Derived.Deep.MidRow
namespace Go.Proofs.YtjbciamhhfcdoaaGreatDoor
open Go.RowKit Hs
set_option linter.unusedSimpArgs false
set_option linter.unusedVariables false

theorem lib_cut2 (s : ByteArray) (w : World) (hB : Base w) (hs : s.size ≤ 100000000) : Calls Tryz.prog 103 #[.string s, .string ⟨#[58, 58]⟩] w fun e w' => e = .returned (.tuple #[.string (mk (cutR (un s)).1), .string (mk (cutR (un s)).2.1), .bool (cutR (un s)).2.2]) ∧ Below w.heap.size w w' := by
  obtain ⟨_, ⟨m, hm⟩, _⟩ := hB
  refine (Tryz.strings_Cut s ⟨#[58, 58]⟩ m w (by omega) hm).mono ?_
  rintro e w' ⟨rfl, n, rfl⟩
  have h : Lib.cut s.data.toList (⟨#[58, 58]⟩ : ByteArray).data.toList = cutR (un s) := cut_cut2 (un s)
  rw [h]
  exact ⟨rfl, below_drewN (Below.refl _ w) n⟩
/-- Block g holds the cells cs and is not frozen. -/
def BlkN (w : World) (g : Nat) (T : TypeId) (cs : Array Value) : Prop := w.heap[g]? = some (.cells cs T (0, 0))
theorem BlkN.lt {w : World} {g : Nat} {T : TypeId} {cs : Array Value} (h : BlkN w g T cs) : g < w.heap.size := (Array.getElem?_eq_some_iff.1 h).1
theorem BlkN.below {w w' : World} {g : Nat} {T : TypeId} {cs : Array Value} (h : BlkN w g T cs) {b : Nat} (hg : g < b) (hb : Below b w w') : BlkN w' g T cs := (hb.block g hg).trans h
theorem BlkN.new (w : World) (T : TypeId) (cs : Array Value) : BlkN (w.alloc (.cells cs T)) w.heap.size T cs := heap_alloc_new w _
theorem BlkN.alloc {w : World} {g : Nat} {T : TypeId} {cs : Array Value} (h : BlkN w g T cs) (o : Obj) : BlkN (w.alloc o) g T cs := (Below.heap_alloc w o g h.lt).trans h
def z8 : List Nat := [0, 0, 0, 0, 0, 0, 0, 0]
theorem splice_first (x : List Nat) (h : x.length ≤ 8) : splice (gcells z8) 0 (gcells x) = gcells (x ++ List.replicate (8 - x.length) 0) := by
  rw [gcells_append]
  unfold splice
  simp only [List.take_zero, List.nil_append, Nat.zero_add, length_gcells]
  congr 1
  show (List.replicate 8 (Value.int .u16 0)).drop x.length = (List.replicate (8 - x.length) 0).map _
  rw [List.drop_replicate, List.map_replicate]
  rfl
theorem splice_second (x y : List Nat) (h : x.length + y.length ≤ 8) : splice (gcells (x ++ List.replicate (8 - x.length) 0)) (8 - y.length) (gcells y) = gcells (x ++ (List.replicate (8 - x.length - y.length) 0 ++ y)) := by
  unfold splice
  rw [length_gcells, List.drop_of_length_le (by simp; omega), List.append_nil]
  unfold gcells
  rw [← List.map_take, ← List.map_append, List.take_append, List.take_of_length_le (by omega), List.take_replicate, ← List.append_assoc]
  congr 3
  simp
  omega
theorem all_one (l : List Nat) : (gcells l).toArray.all (·.oneCell') = true := by
  simp [gcells, Value.oneCell']
theorem one_of_mem {l : List Nat} : ∀ v ∈ gcells l, v.oneCell' = true := by
  intro v hv
  obtain ⟨g, _, rfl⟩ := List.mem_map.1 hv
  rfl
theorem res6_none : res6 none = (z8, false) := rfl
theorem infoArr8 : (Tryz.prog.info? 58).map (·.size) = some 8 := by kernel_rfl
theorem infoU16s : (Tryz.prog.info? 57).map (·.size) = some 1 := by kernel_rfl
/-- A row of groups as the source of a copy. -/
theorem Grps.src {w : World} {a : Option Addr} {n c : Nat} {l : List Nat} (h : Grps w (.slice a n c) l) (h0 : 0 < (gcells l).length) : ∃ ad, a = some ad ∧ ∀ j v, (gcells l)[j]? = some v → w.cell? (ad.add j) = some v := by
  obtain ⟨_, a', cap, hv, _, _, hc⟩ := h
  injection hv with e1 e2 e3
  subst e1
  rcases hc with h1 | ⟨b, off, rfl, hlt, hcell⟩
  · rw [length_gcells] at h0; omega
  · refine ⟨_, rfl, fun j v hj => ?_⟩
    have hadd : (⟨b, off, none⟩ : Addr).add j = ⟨b, off + j, none⟩ := by unfold Addr.add; split <;> simp_all
    rw [hadd]
    exact hcell j v hj

theorem grpsV_len (l : Bs) (last : Bool) : ((grpsV l last).getD []).length ≤ l.length + 2 := by
  have hc := splitD_count 58 l
  unfold grpsV
  split
  · simp
  · cases h : grpsA last (splitD 58 l) [] with
    | none => simp
    | some y =>
      have := grpsA_len last _ _ _ h
      simp at this ⊢; omega
/-- All blocks but g are as they were. -/
def KeptBut (g : Nat) (w w' : World) : Prop := (∀ k, k ≠ g → w'.heap[k]? = w.heap[k]?) ∧ ∀ B, B ≤ g → Below B w w'
theorem KeptBut.refl (g : Nat) (w : World) : KeptBut g w w := ⟨fun _ _ => rfl, fun _ _ => Below.refl _ _⟩
theorem KeptBut.row (w : World) (g : Nat) (cs : Array Value) : KeptBut g w (w.setRow g cs) := ⟨fun k hk => setRow_other w g k cs hk, fun B hB => below_setRow (Below.refl _ _) hB cs⟩
theorem own_kept {w w' : World} {g base : Nat} {e : TypeId} {size n : Nat} {v : Value} {xs : List Value} (h : w.ownsRow base e size v n xs) (hk : KeptBut g w w') (hg : g < base) : w'.ownsRow base e size v n xs := by
  refine ⟨h.1, ?_⟩
  rcases h.2 with h2 | ⟨k, cap, cur, hv, hbk, hg2, h3⟩
  · exact .inl h2
  · exact .inr ⟨k, cap, cur, hv, hbk, (hk.1 k (by omega)).trans hg2, h3⟩
theorem wpList_copy_kept {P : Program} {w : World} {ops : Array Oper} {rest : List Oper} {o : Oper} {a : Act} {Q : Exit → Act → World → Prop} (hgd : o.guard = none) (d s : Operand) (dT sT : TypeId)
    (ho : o.op = .call { callee := .builtin .copy, args := #[d, s], argTypes := #[dT, sT] }) (elem : TypeId) (hu : P.underlying dT = some (.slice elem)) (hsz : (P.info? elem).map (·.size) = some 1)
    (dp sp : Option Addr) (dLen dCap sLen sCap : Nat) (hd : a.eval d = .slice dp dLen dCap) (hs : a.eval s = .slice sp sLen sCap)
    (g off : Nat) (cur : List Value) (t : TypeId) (hg : w.heap[g]? = some (.cells cur.toArray t (0, 0))) (cs : List Value) (hn : cs.length = Nat.min sLen dLen)
    (hpos : 0 < cs.length → dp = some ⟨g, off, none⟩ ∧ ∃ ad, sp = some ad ∧ ∀ j v, cs[j]? = some v → w.cell? (ad.add j) = some v)
    (hfit : off + cs.length ≤ cur.length) (h1 : ∀ v ∈ cs, v.oneCell' = true)
    (h : ∀ w', Hid (w'.heap[g]? = some (.cells (splice cur off cs).toArray t (0, 0))) → KeptBut g w w' → wpList P ops Q rest (a.put o.dst (goInt cs.length)) w') :
    wpList P ops Q (o :: rest) a w := by
  by_cases h0 : cs.length = 0
  · obtain rfl : cs = [] := List.eq_nil_of_length_eq_zero h0
    refine wpList_copy_nothing hgd d s dT sT ho elem hu hsz dp sp dLen dCap sLen sCap hd hs (by simpa using hn.symm) ?_
    exact h w (show _ = _ by simpa [splice] using hg) (KeptBut.refl _ _)
  · obtain ⟨rfl, ad, rfl, hsrc⟩ := hpos (by omega)
    refine wpList_copy_own hgd d s dT sT ho elem hu hsz g off dLen dCap ad sLen sCap hd hs cur.toArray t hg cs hn hsrc (by simpa using hfit) h1 ?_
    exact h _ (show _ = _ by simpa [splice] using setRow_heap w g _ _ t _ hg) (KeptBut.row _ _ _)
/-- The tail of an array of eight groups. -/
theorem slice_tail (b m : Nat) (h : m ≤ 8) : ∃ sa : Addr, Hid (0 < m → sa = ⟨b, 8 - m, none⟩) ∧ ∀ W : World, (Instr.sliceAt 58 (.pointer (some ⟨b, 0, none⟩)) (some (.int .i64 (8 - (m : Int)))) none none).run Tryz.prog W = .ok (.slice (some sa) m m) W := by
  have hal : Tryz.prog.arrayLen 58 = 8 := by kernel_rfl
  have hel : Tryz.prog.elem 58 = 57 := by kernel_rfl
  have hs : ∀ W, (sizeOf 57).run Tryz.prog W = .ok 1 W := by
    intro W
    obtain ⟨i, hi, hsz⟩ := Option.map_eq_some_iff.1 infoU16s
    simp [sizeOf, typeInfo, hi, hsz]
  refine ⟨if 8 = 8 - m then ⟨b, 0, none⟩ else (⟨b, 0, none⟩ : Addr).add ((8 - m) * 1), Lib.hid fun h0 => ?_, fun W => ?_⟩
  · rw [if_neg (by omega)]
    unfold Addr.add
    split
    · rename_i h1; simp at h1; simp [h1]
    · simp
  · rw [run_sliceAt_array_l W _ _ (by rw [hal, hel]; exact Tryz.underlying58) .i64 _ (by omega) (by rw [hal]; omega), hel, hs]
    have e1 : (8 - (m : Int)).toNat = 8 - m := by omega
    have e2 : 8 - (8 - m) = m := by omega
    simp only [Result.andThen, slicedAt, hal, e1, e2]

set_option maxRecDepth 20000 in
set_option maxHeartbeats 4000000 in
theorem i6_parse (s : ByteArray) (w : World) (hB : Base w) (hs : s.size ≤ 100000) : Calls Tryz.prog 233 #[.string s] w fun e w' => e = .returned (.tuple #[.agg (gcells (res6 (parse6 (un s))).1).toArray, .bool (res6 (parse6 (un s))).2]) ∧ Below w.heap.size w w' := by
  have hlen := cutR_len (un s)
  have hdef : Hid _ := Lib.hid (parse6_cutR (un s))
  obtain ⟨R, hR⟩ : ∃ R, R = parse6 (un s) := ⟨_, rfl⟩
  rw [← hR] at hdef ⊢
  have hbA : Below w.heap.size w ((w.alloc (.cells (gcells z8).toArray 58)).alloc (.cells (gcells z8).toArray 58)) := ((Below.refl _ w).alloc (Nat.le_refl _) _).alloc (by simp) _
  have hr0 : BlkN ((w.alloc (.cells (gcells z8).toArray 58)).alloc (.cells (gcells z8).toArray 58)) w.heap.size 58 (gcells z8).toArray := (BlkN.new w _ _).alloc _
  have ho0 : BlkN ((w.alloc (.cells (gcells z8).toArray 58)).alloc (.cells (gcells z8).toArray 58)) (w.heap.size + 1) 58 (gcells z8).toArray := by
    have := BlkN.new (w.alloc (.cells (gcells z8).toArray 58)) 58 (gcells z8).toArray
    simpa using this
  have hsz0 : w.heap.size + 2 ≤ ((w.alloc (.cells (gcells z8).toArray 58)).alloc (.cells (gcells z8).toArray 58)).heap.size := by simp
  obtain ⟨W0, hW0⟩ : ∃ W0, W0 = ((w.alloc (.cells (gcells z8).toArray 58)).alloc (.cells (gcells z8).toArray 58)) := ⟨_, rfl⟩
  rw [← hW0] at hbA hr0 ho0 hsz0
  have HW0 : Hid ((w.alloc (.cells #[.int .u16 0, .int .u16 0, .int .u16 0, .int .u16 0, .int .u16 0, .int .u16 0, .int .u16 0, .int .u16 0] 58)).alloc (.cells #[.int .u16 0, .int .u16 0, .int .u16 0, .int .u16 0, .int .u16 0, .int .u16 0, .int .u16 0, .int .u16 0] 58) = W0) := Lib.hid hW0.symm
  have B0 := hB.below hbA
  have HCUT := Lib.hid (lib_cut2 s W0 B0 (by omega))
  obtain ⟨C, hC⟩ : ∃ C, C = cutR (un s) := ⟨_, rfl⟩
  rw [← hC] at HCUT hdef hlen
  rw [length_un] at hlen
  obtain ⟨A, Bq, gap⟩ := C
  simp only at hlen HCUT
  clear hC hR hB hW0
  have G1 := Lib.hid (fun W h => i6_groups (mk A) (!gap) W h (by rw [size_mk]; omega))
  have G2 := Lib.hid (fun W h => i6_groups (mk Bq) true W h (by rw [size_mk]; omega))
  simp only [un_mk] at G1 G2
  have hdef : Hid (R = match grpsV A (!gap), grpsV Bq true with
    | some x, some y => if (gap = false ∧ x.length + y.length = 8) ∨ (gap = true ∧ x.length + y.length ≤ 7) then some (x ++ (List.replicate (8 - x.length - y.length) 0 ++ y)) else none
    | _, _ => none) := hdef
  obtain ⟨X, hX⟩ : ∃ X, X = grpsV A (!gap) := ⟨_, rfl⟩
  obtain ⟨Y, hY⟩ : ∃ Y, Y = grpsV Bq true := ⟨_, rfl⟩
  have hXl : (X.getD []).length ≤ 100002 := by rw [hX]; exact Nat.le_trans (grpsV_len _ _) (by omega)
  have hYl : (Y.getD []).length ≤ 100002 := by rw [hY]; exact Nat.le_trans (grpsV_len _ _) (by omega)
  rw [← hX, ← hY] at hdef
  rw [← hX] at G1
  rw [← hY] at G2
  clear hX hY hlen
  go_enter Tryz.func233, Tryz.ntmps233
  go_wp2_with fail
  rw [HW0.out]
  clear HW0
  refine HCUT.out.mono ?_; rintro e w1 ⟨rfl, hb1⟩
  have B1 := B0.below hb1
  have hr1 := hr0.below (by omega) hb1
  have ho1 := ho0.below (by omega) hb1
  have hs1 := hb1.size
  clear HCUT
  go_wp2_with fail
  refine (G1.out _ B1).mono ?_; rintro e w2 ⟨v1, rfl, hg1, hb2⟩
  have B2 := B1.below hb2
  have hr2 := hr1.below hr1.lt hb2
  have ho2 := ho1.below ho1.lt hb2
  have hs2 := hb2.size
  go_wp2_with fail
  refine (G2.out _ B2).mono ?_; rintro e w3 ⟨v2, rfl, hg2, hb3⟩
  have hr3 := hr2.below hr2.lt hb3
  have ho3 := ho2.below ho2.lt hb3
  have hs3 := hb3.size
  have hg1' := own_later hg1 hb3
  have hall : Below w.heap.size w w3 := hbA.trans ((hb1.trans ((hb2.trans (hb3.mono hb2.size)).mono hb1.size)).mono hbA.size)
  have HR3 := Lib.hid hr3; have HO3 := Lib.hid ho3
  have hsh1 : Grps w3 v1 (X.getD []) := Row.owned hg1'
  have hsh2 : Grps w3 v2 (Y.getD []) := Row.owned hg2
  have HG1 := Lib.hid hg1'; have HG2 := Lib.hid hg2
  have ho1' : w.heap.size + 1 < w1.heap.size := by omega
  clear hr0 hr1 hr2 hr3 ho0 ho1 ho2 ho3 hg1 hg1' hg2 G1 G2 B0 B1 B2
  obtain ⟨a1, c1, rfl, hn1, hm1, _⟩ := hsh1.open
  obtain ⟨a2, c2, rfl, hn2, hm2, _⟩ := hsh2.open
  unfold maxLen at hm1 hm2
  clear hsh1 hsh2
  cases X with
  | none =>
    have hend : Hid (R = none) := Lib.hid (hdef.out)
    clear hdef
    simp only [Option.getD_none, Option.isSome_none, List.length_nil] at hn1 ⊢
    go_wp2_with (first | refine wpList_store_row rfl 58 (.tmp 2) (.tmp 57) rfl w.heap.size (gcells z8).toArray rfl rfl 58 _ HR3.out infoArr8 rfl (all_one z8) ?_)
    all_goals (try (exfalso; omega))
    refine bodyPost_ret (results_ct rfl _ _ w.heap.size 58 _ _ rfl (setRow_heap w3 w.heap.size _ (gcells z8).toArray _ _ HR3.out) Tryz.underlying58 rfl infoArr8) rfl ?_
    rw [hend.out]
    exact ⟨rfl, below_setRow hall (Nat.le_refl _) (gcells z8).toArray⟩
  | some x =>
    cases Y with
    | none =>
      have hend : Hid (R = none) := Lib.hid (hdef.out)
      clear hdef
      simp only [Option.getD_none, Option.getD_some, Option.isSome_none, Option.isSome_some, List.length_nil] at hn1 hn2 ⊢
      go_wp2_with (first | refine wpList_store_row rfl 58 (.tmp 2) (.tmp 57) rfl w.heap.size (gcells z8).toArray rfl rfl 58 _ HR3.out infoArr8 rfl (all_one z8) ?_)
      all_goals (try (exfalso; omega))
      refine bodyPost_ret (results_ct rfl _ _ w.heap.size 58 _ _ rfl (setRow_heap w3 w.heap.size _ (gcells z8).toArray _ _ HR3.out) Tryz.underlying58 rfl infoArr8) rfl ?_
      rw [hend.out]
      exact ⟨rfl, below_setRow hall (Nat.le_refl _) (gcells z8).toArray⟩
    | some y =>
      have hdef : Hid (R = if (gap = false ∧ x.length + y.length = 8) ∨ (gap = true ∧ x.length + y.length ≤ 7) then some (x ++ (List.replicate (8 - x.length - y.length) 0 ++ y)) else none) := Lib.hid hdef.out
      simp only [Option.getD_some, Option.isSome_some] at hn1 hn2 hXl hYl HG1 HG2 ⊢
      have e12 : (x.length : Int) + (y.length : Int) = ((x.length + y.length : Nat) : Int) := by omega
      by_cases hok : (gap = false ∧ x.length + y.length = 8) ∨ (gap = true ∧ x.length + y.length ≤ 7)
      · have hend : Hid (R = some (x ++ (List.replicate (8 - x.length - y.length) 0 ++ y))) := Lib.hid (by rw [hdef.out, if_pos hok])
        have h8 : x.length + y.length ≤ 8 := by omega
        clear hdef e12
        have S1 := Lib.hid (splice_first x (by omega))
        have S2 := Lib.hid (splice_second x y h8)
        obtain ⟨sa, hsa, hsl⟩ := slice_tail (w.heap.size + 1) y.length (by omega)
        rcases hok with ⟨rfl, hx8⟩ | ⟨rfl, hx7⟩
        all_goals
          (try have g1 : ((x.length : Int) + (y.length : Int) != 8) = false := by simp; omega)
          (try have g2 : decide ((7 : Int) < (x.length : Int) + (y.length : Int)) = false := decide_eq_false (by omega))
          go_wp2_with ((with_reducible show wpList _ _ _ _ _ _); first
            | (refine wpList_copy_kept rfl (.tmp 58) (.tmp 59) 171 171 rfl 57 Tryz.underlying171 infoU16s _ _ 8 8 x.length c1 rfl rfl (w.heap.size + 1) 0 (gcells z8) 58 HO3.out (gcells x) (by rw [length_gcells]; exact (Nat.min_eq_left (by omega)).symm) (fun h0 => ⟨rfl, Grps.src (Row.owned HG1.out) h0⟩) (by rw [length_gcells]; show 0 + x.length ≤ 8; omega) one_of_mem ?_; intro w4 HQ1 hk1; have HGY := Lib.hid (own_kept HG2.out hk1 (by omega)))
            | (refine wpList_copy_kept rfl (.tmp 64) (.tmp 65) 171 171 rfl 57 Tryz.underlying171 infoU16s _ _ y.length y.length y.length c2 rfl rfl (w.heap.size + 1) (8 - y.length) _ 58 HQ1.out (gcells y) (by rw [length_gcells]; exact (Nat.min_self _).symm) (fun h0 => ⟨congrArg some (hsa.out (by rw [length_gcells] at h0; exact h0)), Grps.src (Row.owned HGY.out) h0⟩) (by rw [S1.out, length_gcells, length_gcells]; simp; omega) one_of_mem ?_; intro w5 HQ2 hk2; rw [S1.out, S2.out] at HQ2; have HR5 := Lib.hid ((hk2.1 _ (by omega)).trans ((hk1.1 _ (by omega)).trans HR3.out)))
            | refine wpList_load_row rfl 58 (.tmp 4) rfl (w.heap.size + 1) rfl 58 _ _ _ HQ2.out Tryz.underlying58 rfl (by rw [infoArr8]; simp; omega) ?_
            | refine wpList_store_row rfl 58 (.tmp 2) (.tmp 67) rfl w.heap.size _ rfl rfl 58 _ HR5.out (by rw [infoArr8]; simp; omega) (by simp [z8]; omega) (all_one _) ?_)
          refine bodyPost_ret (results_ct rfl _ _ w.heap.size 58 _ _ rfl (setRow_heap w5 w.heap.size _ _ _ _ HR5.out) Tryz.underlying58 rfl (by rw [infoArr8]; simp; omega)) rfl ?_
          rw [hend.out]
          exact ⟨rfl, below_setRow ((hall.trans (hk1.2 _ (by omega))).trans (hk2.2 _ (by omega))) (Nat.le_refl _) _⟩
      · have hend : Hid (R = none) := Lib.hid (by rw [hdef.out, if_neg hok])
        clear hdef e12
        cases gap
        · have hne : x.length + y.length ≠ 8 := fun h => hok (.inl ⟨rfl, h⟩)
          have g1 : ((x.length : Int) + (y.length : Int) != 8) = true := by simp; omega
          clear hok
          go_wp2_with (first | refine wpList_store_row rfl 58 (.tmp 2) (.tmp 57) rfl w.heap.size (gcells z8).toArray rfl rfl 58 _ HR3.out infoArr8 rfl (all_one z8) ?_)
          all_goals (try (exfalso; omega))
          refine bodyPost_ret (results_ct rfl _ _ w.heap.size 58 _ _ rfl (setRow_heap w3 w.heap.size _ (gcells z8).toArray _ _ HR3.out) Tryz.underlying58 rfl infoArr8) rfl ?_
          rw [hend.out]
          exact ⟨rfl, below_setRow hall (Nat.le_refl _) (gcells z8).toArray⟩
        · have hgt : 7 < x.length + y.length := Nat.lt_of_not_le (fun h => hok (.inr ⟨rfl, h⟩))
          have g2 : decide ((7 : Int) < (x.length : Int) + (y.length : Int)) = true := decide_eq_true (by omega)
          have g3 : (7 : Int) < (x.length : Int) + (y.length : Int) := by omega
          clear hok
          go_wp2_with (first | refine wpList_store_row rfl 58 (.tmp 2) (.tmp 57) rfl w.heap.size (gcells z8).toArray rfl rfl 58 _ HR3.out infoArr8 rfl (all_one z8) ?_)
          all_goals (try (exfalso; omega))
          refine bodyPost_ret (results_ct rfl _ _ w.heap.size 58 _ _ rfl (setRow_heap w3 w.heap.size _ (gcells z8).toArray _ _ HR3.out) Tryz.underlying58 rfl infoArr8) rfl ?_
          rw [hend.out]
          exact ⟨rfl, below_setRow hall (Nat.le_refl _) (gcells z8).toArray⟩
end Go.Proofs.YtjbciamhhfcdoaaGreatDoor
namespace Hs
open Go Go.RowKit
set_option linter.unusedVariables false
set_option linter.unusedSimpArgs false
theorem BlkL.setRow {w : World} {g : Nat} {T : TypeId} {l : List Value} (h : BlkL w g T l) (cs : List Value) : BlkL (w.setRow g cs.toArray) g T cs := setRow_heap w g _ _ _ _ h
theorem BlkL.setRow_other {w : World} {g : Nat} {T : TypeId} {l : List Value} (h : BlkL w g T l) {k : Nat} (hk : g ≠ k) (cs : Array Value) : BlkL (w.setRow k cs) g T l := (Go.setRow_other w k g cs hk).trans h
theorem BlkL.putCells {g : Nat} {T : TypeId} : ∀ (vs : List Value) (o : Nat) (w : World) (l : List Value), BlkL w g T l → o + vs.length ≤ l.length → BlkL (w.setCells g o vs) g T (l.take o ++ (vs ++ l.drop (o + vs.length)))
  | [], o, w, l, h, _ => by simpa [World.setCells] using h
  | v :: r, o, w, l, h, hl => by
    simp only [List.length_cons] at hl
    have h2 := BlkL.putCells r (o + 1) _ _ (h.set o (by omega) v) (by simp; omega)
    rw [World.setCells]
    have e : (l.set o v).take (o + 1) ++ (r ++ (l.set o v).drop (o + 1 + r.length)) = l.take o ++ ((v :: r) ++ l.drop (o + (v :: r).length)) := by
      rw [List.take_set, List.drop_set_of_lt (by omega), List.take_add_one, List.set_append_right _ _ (by simp; omega)]
      have : l[o]? = some l[o] := List.getElem?_eq_getElem (by omega)
      rw [this]
      simp only [Option.toList_some, List.length_take, List.length_cons, List.cons_append, List.append_assoc]
      have e2 : o - min o l.length = 0 := by omega
      have e3 : o + 1 + r.length = o + (r.length + 1) := by omega
      rw [e2, e3]
      rfl
    rw [← e]
    exact h2
theorem BlkL.putCells_other {g k : Nat} (hk : g ≠ k) {T : TypeId} {l : List Value} : ∀ (vs : List Value) (o : Nat) (w : World), BlkL w g T l → BlkL (w.setCells k o vs) g T l
  | [], o, w, h => h
  | v :: r, o, w, h => by
    rw [World.setCells]
    exact BlkL.putCells_other hk r (o + 1) _ (h.other hk o v)
theorem BlkL.range {w : World} {g : Nat} {T : TypeId} {l : List Value} (h : BlkL w g T l) (o : Nat) (cs : List Value) (hc : ∀ j v, cs[j]? = some v → l[o + j]? = some v) : w.rangeAt g o cs := fun j v hj => h.c (o + j) v (hc j v hj)
theorem BlkL.there {w : World} {g : Nat} {T : TypeId} {l : List Value} (h : BlkL w g T l) (o n : Nat) (hn : o + n ≤ l.length) : w.there g o n := fun j hj => ⟨by
  have : l[o + j]? = some (l[o + j]'(by omega)) := List.getElem?_eq_getElem _
  rw [h.c (o + j) _ this]
  rfl, h.f (o + j)⟩
theorem below_setCells {B g : Nat} {w0 : World} (hB : B ≤ g) : ∀ (vs : List Value) (o : Nat) (w : World), Below B w0 w → Below B w0 (w.setCells g o vs)
  | [], o, w, h => h
  | v :: r, o, w, h => by
    rw [World.setCells]
    exact below_setCells hB r (o + 1) _ (h.trans ⟨rfl, rfl, rfl, by simp, fun k hk => Below.heap_setCell w ⟨g, o, none⟩ v k (fun e => by have : k = g := e; omega)⟩)
end Hs
namespace Go.Proofs.YtjbciamhhfcdoaaGreatDoor
open Go.RowKit Hs
set_option linter.unusedSimpArgs false
set_option linter.unusedVariables false
/-- The cells of a host, and of a URL. -/
def hcells (h : HostP) : List Value := .int .i64 (h.kind : Int) :: .string (mk h.name) :: .int .u32 (h.v4 : Int) :: gcells h.v6
def ucells (u : UrlP) : List Value := .string (mk u.scheme) :: .string (mk u.user) :: (hcells u.host ++ [.int .i64 u.port, .string (mk u.rest)])
/-- A host that can be. -/
def HostW (h : HostP) : Prop := h.v6.length = 8 ∧ (∀ x ∈ h.v6, x < 65536) ∧ h.v4 < 4294967296
theorem hc_len {h : HostP} (h8 : h.v6.length = 8) : (hcells h).length = 11 := by simp [hcells, h8]
theorem uc_len {u : UrlP} (h8 : u.host.v6.length = 8) : (ucells u).length = 15 := by simp [ucells, hc_len h8]
theorem hc_one (h : HostP) : ∀ v ∈ hcells h, v.oneCell' = true := by
  intro v hv
  unfold hcells at hv
  rcases List.mem_cons.1 hv with rfl | hv
  · rfl
  · rcases List.mem_cons.1 hv with rfl | hv
    · rfl
    · rcases List.mem_cons.1 hv with rfl | hv
      · rfl
      · exact one_of_mem v hv
theorem uc_one (u : UrlP) : ∀ v ∈ ucells u, v.oneCell' = true := by
  intro v hv
  unfold ucells at hv
  rcases List.mem_cons.1 hv with rfl | hv
  · rfl
  · rcases List.mem_cons.1 hv with rfl | hv
    · rfl
    · rcases List.mem_append.1 hv with hv | hv
      · exact hc_one _ v hv
      · simp at hv
        rcases hv with rfl | rfl <;> rfl
theorem all_one_of {l : List Value} (h : ∀ v ∈ l, v.oneCell' = true) : l.toArray.all (·.oneCell') = true := all_oneCell_toArray h
theorem infoHost : (Tryz.prog.info? 60).map (·.size) = some 11 := by kernel_rfl
theorem infoUrl : (Tryz.prog.info? 62).map (·.size) = some 15 := by kernel_rfl
theorem infoHostOf {h : HostP} (h8 : h.v6.length = 8) : (Tryz.prog.info? 60).map (·.size) = some (hcells h).toArray.size := by rw [infoHost, List.size_toArray, hc_len h8]
theorem infoUrlOf {u : UrlP} (h8 : u.host.v6.length = 8) : (Tryz.prog.info? 62).map (·.size) = some (ucells u).toArray.size := by rw [infoUrl, List.size_toArray, uc_len h8]
theorem host0_cells : (hcells host0).toArray = #[.int .i64 0, .string ⟨#[]⟩, .int .u32 0, .int .u16 0, .int .u16 0, .int .u16 0, .int .u16 0, .int .u16 0, .int .u16 0, .int .u16 0, .int .u16 0] := rfl
theorem url0_cells : (ucells url0).toArray = #[.string ⟨#[]⟩, .string ⟨#[]⟩, .int .i64 0, .string ⟨#[]⟩, .int .u32 0, .int .u16 0, .int .u16 0, .int .u16 0, .int .u16 0, .int .u16 0, .int .u16 0, .int .u16 0, .int .u16 0, .int .i64 0, .string ⟨#[]⟩] := rfl
theorem host0_w : HostW host0 := ⟨rfl, by decide, by decide⟩
end Go.Proofs.YtjbciamhhfcdoaaGreatDoor
