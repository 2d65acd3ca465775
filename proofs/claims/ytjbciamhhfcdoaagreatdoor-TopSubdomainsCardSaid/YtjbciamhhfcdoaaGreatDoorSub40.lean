/- The iterator of Supers of the program's hosts. Conditions: lengths are bounded; the library's tables stand.
   Arrays of eight groups, compared; blocks of eight groups in later worlds. Conditions: none.
   The walk of Valid of the program's hosts. Conditions: the host can be, its name's length is bounded; the library's tables stand. -/
import Derived.Test.YtjbciamhhfcdoaaGreatDoorSub39
import Derived.Test.YtjbciamhhfcdoaaGreatDoorSub24
import Derived.Test.YtjbciamhhfcdoaaGreatDoorSub27
import Derived.ChangeKeysEq
import Derived.Test.YtjbciamhhfcdoaaGreatDoorSub30
import Derived.Test.YtjbciamhhfcdoaaGreatDoorSub38
import Derived.Deep.DeepCutAuto
namespace Go.Proofs.YtjbciamhhfcdoaaGreatDoor
open Go.RowKit Go.Shelf Hs
set_option linter.unusedSimpArgs false
set_option linter.unusedVariables false
attribute [local go_sem] Oper.semAt_some
set_option maxRecDepth 100000 in
set_option maxHeartbeats 2000000 in
theorem supers_seq (n ct n₀ : Nat) (s : ByteArray) (w : World) (hn : 1 ≤ n) (bt : Boxed w ct 9 (.string s)) (hct : n₀ ≤ ct) (hBK : ∀ W', Keeps (fun k => k < n₀) w W' → Base W') (hn₀ : n₀ ≤ w.heap.size) (hs : s.size ≤ 100000) :
    Seq Fence.wide n Tryz.prog 118 #[.pointer (some ⟨ct, 0, none⟩)] (fun x : Bs => #[.string (mk x)]) (fun k => k = ct) n₀ (fun xs => xs = supV (un s)) (fun pre => pre <+: supV (un s)) w := fun l J Jx W hW hJ hJx hY h0 => by
  have Bt0 : Boxed W ct 9 (.string s) := (hW.block ct bt.lt).trans bt
  have hKW : Keeps (fun k => k < n₀) w W := Keeps.of_below hW
  have BW := hBK W hKW
  have hv := h_validName s W BW hs
  obtain ⟨nv, hnv⟩ : ∃ nv, nv = nameV (un s) := ⟨_, rfl⟩
  rw [← hnv] at hv
  have HV := Lib.hid hv
  have HNV := Lib.hid hnv
  have et0 := Bt0.cell
  clear hv hnv
  refine callsIn_of_wp Tryz.func118 rfl trivial ?_ rfl
  simp only [Tryz.ntmps118, List.size_toArray, List.length_cons, List.length_nil, Nat.reduceAdd, Nat.reduceSub, Array.replicate_succ, Array.replicate_zero, List.push_toArray, List.append_toArray, List.nil_append, List.cons_append]
  gi_wp2
  refine ⟨trivial, ?_⟩; refine (callsIn_wide.2 HV.out).mono ?_; rintro e w1 ⟨rfl, hb1⟩
  have hg1 := grown_of_below hb1
  have J1 := hJ.turn _ _ _ _ _ h0 hg1 (fun r e => by cases e)
  have Bt1 := Bt0.kept hg1 (by simp)
  have K1 : Keeps (fun k => k < n₀) w w1 := hKW.trans (Keeps.of_below hb1)
  clear hb1 hg1 et0 HV BW hKW
  cases nv
  · have hfin : supV (un s) = [] := by unfold supV; rw [← HNV.out]; rfl
    gi_wp2
    refine bodyPost_ret (results_none rfl _ _ _) rfl ?_
    exact ⟨⟨_, rfl⟩, .inl ⟨[], _, hfin.symm, J1⟩⟩
  · have hsup : supV (un s) = supers (un s) := by unfold supV; rw [← HNV.out]; rfl
    rw [hsup] at hY
    have HSUP := Lib.hid hsup
    clear hsup HNV
    gi_wp2
    gi_loopw [] (fun wr => ∃ (pre : List Bs) (t : ByteArray) (G : Nat → Prop), Hid (pre ++ supers (un t) = supers (un s)) ∧ t.size ≤ s.size ∧ Boxed wr ct 9 (.string t) ∧ J pre G wr ∧ G ct ∧ Hid (Keeps (fun k => k < n₀) w wr)) (fun wr => cellLen ct wr)
    case atStart => exact ⟨[], s, _, rfl, Nat.le_refl _, Bt1, J1, rfl, K1⟩
    case round =>
      obtain ⟨pre, t, G, hpre, hts, hbt, hJs, hGt, hkk⟩ := hrel
      have et := hbt.cell
      have hmeas := cellLen_eq hbt
      have hcut := lib_cutC t 46 wr (hBK wr hkk.out) (by omega)
      rcases cut_at (un t) 46 with ⟨a, r, e, hna⟩ | hno
      · rw [e, cutC_at 46 a r (fun b hb e => hna (e ▸ hb))] at hcut
        have HCUT := Lib.hid hcut
        have hal : a.length + 1 + r.length = t.size := by have := congrArg List.length e; rw [length_un] at this; simp at this; omega
        have hnext : Hid ((pre ++ [r]) ++ supers r = supers (un s)) := by rw [← hpre.out, e, supers_cut r a (fun x hx e => hna (e ▸ hx))]; simp [Hid]
        clear hcut hpre e hna
        gi_wp2
        refine ⟨trivial, ?_⟩; refine (callsIn_wide.2 HCUT.out).mono ?_; rintro e w2 ⟨rfl, hb2⟩
        have hg2 := grown_of_below hb2
        have J2 := hJ.turn _ _ _ _ _ hJs hg2 (fun r e => by cases e)
        have B2 := hbt.kept hg2 (by simp)
        have K2 := Lib.hid (hkk.out.trans (Keeps.of_below hb2))
        obtain ⟨fn, tmps, assign, body, hy, hR⟩ := hY pre r G w2 J2 ⟨_, hnext.out⟩
        clear hb2 hg2 et HCUT hkk
        gi_wp2
        refine hR.mono ?_
        rintro e W3 (⟨rfl, hJ3, hk3⟩ | ⟨rfl, hJx3, hk3⟩)
        · have b3 : Boxed W3 ct 9 (.string t) := (hk3.block ct B2.lt (.inl hGt)).trans B2
          have K3 : Keeps (fun k => k < n₀) w W3 := K2.out.trans (hk3.mono fun k h => .inr h)
          have e3 := b3.cell
          have f3 := b3.frozen
          gi_wp2
          go_roundw
          case rel => exact ⟨_, mk r, G, by rw [un_mk]; exact hnext, by rw [size_mk]; omega, b3.set _, hJ.turn _ _ _ _ _ hJ3 (grown_setCell _ ct 0 _) (fun r e => by cases e; exact hGt), hGt, Lib.hid (K3.trans (Keeps.setCell _ ct 0 (by omega) _))⟩
          case measure => rw [cellLen_eq (b3.set _), hmeas, size_mk]; omega
        · gi_wp2
          refine bodyPost_ret (results_none rfl _ _ _) rfl ?_
          exact ⟨⟨_, rfl⟩, .inr ⟨_, G, by rw [HSUP.out]; exact ⟨_, hnext.out⟩, hJx3⟩⟩
      · rw [cutC_no 46 _ (fun b hb e => hno (e ▸ hb))] at hcut
        have HCUT := Lib.hid hcut
        have hnext : Hid (pre = supers (un s)) := by rw [← hpre.out, supers_none _ (fun x hx e => hno (e ▸ hx))]; simp [Hid]
        clear hcut hpre hno
        gi_wp2
        refine ⟨trivial, ?_⟩; refine (callsIn_wide.2 HCUT.out).mono ?_; rintro e w2 ⟨rfl, hb2⟩
        have hg2 := grown_of_below hb2
        have J2 := hJ.turn _ _ _ _ _ hJs hg2 (fun r e => by cases e)
        clear hb2 hg2 et HCUT hkk
        gi_wp2
        refine ⟨(fun _ h => by cases h), ?_⟩
        gi_wp2
        refine bodyPost_ret (results_none rfl _ _ _) rfl ?_
        exact ⟨⟨_, rfl⟩, .inl ⟨_, G, by rw [HSUP.out]; exact hnext.out, J2⟩⟩
end Go.Proofs.YtjbciamhhfcdoaaGreatDoor
namespace Go.Proofs.YtjbciamhhfcdoaaGreatDoor
open Go.RowKit Hs
set_option linter.unusedSimpArgs false
set_option linter.unusedVariables false

theorem part16 (l : List Nat) (i : Nat) (h : i < l.length) (W : World) : (part 57 (gcells l).toArray i).run Tryz.prog W = .ok (.int .u16 (l[i] : Int)) W :=
  run_part_plain W (by kernel_rfl) (by simp [gcells, List.getElem?_eq_getElem h])
theorem items16 (d : Nat) (a b : List Nat) (W : World) : ∀ (is : List Nat), (∀ i ∈ is, i < a.length ∧ i < b.length) → (Op.eqItems (d + 1) 57 1 (gcells a).toArray (gcells b).toArray is).run Tryz.prog W = .ok (decide (∀ i ∈ is, a[i]? = b[i]?)) W
  | [], _ => by simp [Op.eqItems]
  | i :: is, h => by
    obtain ⟨h1, h2⟩ := h i (List.mem_cons_self ..)
    have ih := items16 d a b W is (fun j hj => h j (List.mem_cons_of_mem _ hj))
    simp only [Op.eqItems, Sem.run_bind, Nat.mul_one, part16 a i h1 W, part16 b i h2 W, Result.andThen_ok, run_equalIn_int W d 57 .u16 .u16 _ _ Tryz.underlying57]
    by_cases he : a[i] = b[i]
    · have e1 : ((a[i] : Int) == (b[i] : Int)) = true := by simp [he]
      rw [e1]
      simp only [Bool.not_true, Bool.false_eq_true, if_false]
      rw [ih]
      congr 1
      simp [List.getElem?_eq_getElem h1, List.getElem?_eq_getElem h2, he]
    · have e1 : ((a[i] : Int) == (b[i] : Int)) = false := by simp; omega
      rw [e1]
      simp only [Bool.not_false, if_true]
      have : decide (∀ j ∈ i :: is, a[j]? = b[j]?) = false := by
        apply decide_eq_false
        intro hh
        have := hh i (List.mem_cons_self ..)
        rw [List.getElem?_eq_getElem h1, List.getElem?_eq_getElem h2] at this
        exact he (Option.some.inj this)
      rw [this]
      rfl
theorem cells16 : Tryz.prog.cellsOf 57 = 1 := by kernel_rfl
/-- Two arrays of eight groups are compared. -/
theorem arr8_eq (a b : List Nat) (ha : a.length = 8) (hb : b.length = 8) (W : World) : (Op.equalIn 10000 58 (.agg (gcells a).toArray) (.agg (gcells b).toArray)).run Tryz.prog W = .ok (decide (a = b)) W := by
  obtain ⟨i, hi, _⟩ := Option.map_eq_some_iff.1 infoU16s
  have h := run_equalIn_array W 9999 (gcells a).toArray (gcells b).toArray Tryz.underlying58 hi
  rw [cells16, items16 9998 a b W _ (fun j hj => by have := List.mem_range.1 hj; omega)] at h
  have e9 : 9999 + 1 = 10000 := by omega
  rw [e9] at h
  refine h.trans ?_
  have key : (∀ i ∈ List.range 8, a[i]? = b[i]?) ↔ a = b := by
    constructor
    · intro hh
      apply List.ext_getElem?
      intro j
      by_cases hj : j < 8
      · exact hh j (List.mem_range.2 hj)
      · rw [List.getElem?_eq_none (by omega), List.getElem?_eq_none (by omega)]
    · intro e j _
      rw [e]
  rw [decide_eq_decide.2 key]
/-- The cells of a block of eight groups, in all later worlds. -/
theorem BlkN.later {W : World} {g : Nat} {T : TypeId} {l : List Nat} (h : BlkN W g T (gcells l).toArray) (k : Nat) (hk : k < l.length) : ∀ x : Later W, x.1.cell? ⟨g, k, none⟩ = some (.int .u16 (l[k] : Int)) := by
  intro x
  rw [cell_of_row x.1 g k _ _ _ (h.below h.lt x.2)]
  simp [gcells, List.getElem?_eq_getElem hk]
theorem BlkN.at {W : World} {g : Nat} {T : TypeId} {l : List Nat} (h : BlkN W g T (gcells l).toArray) (k : Nat) (hk : k < l.length) : W.cell? ⟨g, k, none⟩ = some (.int .u16 (l[k] : Int)) := h.later k hk ⟨W, Below.refl _ _⟩
/-- Groups, as an argument. -/
theorem agg_groups (l : List Nat) : ((l.map Int.ofNat).map (Value.int .u16)).toArray = (gcells l).toArray := by
  unfold gcells
  rw [List.map_map]
  rfl
end Go.Proofs.YtjbciamhhfcdoaaGreatDoor
namespace Go.Proofs.YtjbciamhhfcdoaaGreatDoor
open Go.RowKit Hs
set_option linter.unusedSimpArgs false
set_option linter.unusedVariables false
theorem hostOk_def (k : Nat) (n : Bs) (v : Nat) (x : List Nat) : hostOk ⟨k, n, v, x⟩ = if k = 1 then (nameV n && decide (v = 0) && decide (x = zer8)) else if k = 2 then (decide (n = []) && decide (x = zer8)) else if k = 3 then (decide (n = []) && decide (v = 0)) else false := by
  match k with
  | 0 => rfl
  | 1 => rfl
  | 2 => rfl
  | 3 => rfl
  | k + 4 => rw [if_neg (by omega), if_neg (by omega), if_neg (by omega)]; rfl
theorem hc_get (h : HostP) : (hcells h)[0]? = some (.int .i64 (h.kind : Int)) ∧ (hcells h)[1]? = some (.string (mk h.name)) ∧ (hcells h)[2]? = some (.int .u32 (h.v4 : Int)) ∧ ∀ j, (hcells h)[3 + j]? = (gcells h.v6)[j]? := ⟨rfl, rfl, rfl, fun j => by rw [Nat.add_comm]; rfl⟩
set_option maxRecDepth 20000 in
set_option maxHeartbeats 4000000 in
theorem h_valid (h : HostP) (w : World) (hB : Base w) (hw : HostW h) (hn : h.name.length ≤ 100000) : Calls Tryz.prog 59 #[.agg (hcells h).toArray] w fun e w' => e = .returned (.bool (hostOk h)) ∧ Below w.heap.size w w' := by
  obtain ⟨W0, hW0⟩ : ∃ W0, W0 = (w.alloc (.cells (hcells h).toArray 60)).alloc (.cells (gcells zer8).toArray 58) := ⟨_, rfl⟩
  have hbA : Below w.heap.size w W0 := by rw [hW0]; exact ((Below.refl _ w).alloc (Nat.le_refl _) _).alloc (by simp) _
  have hb0 : BlkL W0 w.heap.size 60 (hcells h) := by rw [hW0]; exact (BlkL.new w _ _).alloc _
  have hz0 : BlkL W0 (w.heap.size + 1) 58 (gcells zer8) := by
    rw [hW0]
    have := BlkL.new (w.alloc (.cells (hcells h).toArray 60)) 58 (gcells zer8)
    simpa using this
  have HW0 : Hid ((w.alloc (.cells (hcells h).toArray 60)).alloc (.cells #[.int .u16 0, .int .u16 0, .int .u16 0, .int .u16 0, .int .u16 0, .int .u16 0, .int .u16 0, .int .u16 0] 58) = W0) := Lib.hid hW0.symm
  have hsz : W0.heap.size = w.heap.size + 2 := by rw [hW0]; simp
  have B0 := hB.below hbA
  clear hW0
  go_enter Tryz.func59, Tryz.ntmps59
  go_upto_region 2 with fail
  rw [HW0.out]
  clear HW0
  obtain ⟨kind, name, v4, v6⟩ := h
  obtain ⟨a, b, c, d, e, f, g, i, rfl⟩ := len8 hw.1
  have hq : ∀ W, (Op.equalIn 10000 58 (.agg #[.int .u16 (a : Int), .int .u16 (b : Int), .int .u16 (c : Int), .int .u16 (d : Int), .int .u16 (e : Int), .int .u16 (f : Int), .int .u16 (g : Int), .int .u16 (i : Int)]) (.agg #[.int .u16 0, .int .u16 0, .int .u16 0, .int .u16 0, .int .u16 0, .int .u16 0, .int .u16 0, .int .u16 0])).run Tryz.prog W = .ok (decide ([a, b, c, d, e, f, g, i] = zer8)) W := arr8_eq [a, b, c, d, e, f, g, i] zer8 rfl rfl
  have HOK := Lib.hid (hostOk_def kind name v4 [a, b, c, d, e, f, g, i])
  obtain ⟨qv, hqv⟩ : ∃ qv, qv = decide ([a, b, c, d, e, f, g, i] = zer8) := ⟨_, rfl⟩
  rw [← hqv] at hq HOK
  clear hqv hw
  simp only at hn
  have c0 := hb0.c 0 _ rfl
  have c1 := hb0.c 1 _ rfl
  have c2 := hb0.c 2 _ rfl
  have c3 := hb0.c 3 _ rfl
  have c4 := hb0.c 4 _ rfl
  have c5 := hb0.c 5 _ rfl
  have c6 := hb0.c 6 _ rfl
  have c7 := hb0.c 7 _ rfl
  have c8 := hb0.c 8 _ rfl
  have c9 := hb0.c 9 _ rfl
  have c10 := hb0.c 10 _ rfl
  have z0 := hz0.c 0 _ rfl
  have z1 := hz0.c 1 _ rfl
  have z2 := hz0.c 2 _ rfl
  have z3 := hz0.c 3 _ rfl
  have z4 := hz0.c 4 _ rfl
  have z5 := hz0.c 5 _ rfl
  have z6 := hz0.c 6 _ rfl
  have z7 := hz0.c 7 _ rfl
  by_cases k1 : kind = 1
  · subst k1
    have HOK2 : Hid (hostOk ⟨1, name, v4, [a, b, c, d, e, f, g, i]⟩ = (nameV name && decide (v4 = 0) && qv)) := Lib.hid (HOK.out.trans (if_pos rfl))
    have hv := h_validName (mk name) W0 B0 (by rw [size_mk]; omega)
    rw [un_mk] at hv
    obtain ⟨nv, hnv⟩ : ∃ nv, nv = nameV name := ⟨_, rfl⟩
    rw [← hnv] at hv HOK2
    have HV := Lib.hid hv
    clear hv hnv HOK
    go_wp2_with fail
    all_goals (try (exfalso; omega))
    refine HV.out.mono ?_; rintro e w1 ⟨rfl, hb1⟩
    have HALL := Lib.hid (hbA.trans (hb1.mono (by omega)))
    have hb2 := hb0.below (by omega) hb1
    have hz2 := hz0.below (by omega) hb1
    clear c0 c1 c2 c3 c4 c5 c6 c7 c8 c9 c10 z0 z1 z2 z3 z4 z5 z6 z7
    have c2 := hb2.c 2 _ rfl
    have c3 := hb2.c 3 _ rfl
    have c4 := hb2.c 4 _ rfl
    have c5 := hb2.c 5 _ rfl
    have c6 := hb2.c 6 _ rfl
    have c7 := hb2.c 7 _ rfl
    have c8 := hb2.c 8 _ rfl
    have c9 := hb2.c 9 _ rfl
    have c10 := hb2.c 10 _ rfl
    have z0 := hz2.c 0 _ rfl
    have z1 := hz2.c 1 _ rfl
    have z2 := hz2.c 2 _ rfl
    have z3 := hz2.c 3 _ rfl
    have z4 := hz2.c 4 _ rfl
    have z5 := hz2.c 5 _ rfl
    have z6 := hz2.c 6 _ rfl
    have z7 := hz2.c 7 _ rfl
    clear hb1 hb2 hz2 hb0 hz0 HV B0 hB hbA
    cases nv
    · go_wp2
      all_goals (try (exfalso; omega))
      go_ret
      rw [HOK2.out]
      exact ⟨rfl, HALL.out⟩
    · by_cases hv4 : v4 = 0
      · subst hv4
        go_wp2
        all_goals (try (exfalso; omega))
        go_ret
        rw [HOK2.out]
        exact ⟨by simp, HALL.out⟩
      · have g2 : ((v4 : Int) == 0) = false := by simp; omega
        go_wp2
        all_goals (try (exfalso; omega))
        go_ret
        rw [HOK2.out, decide_eq_false hv4]
        exact ⟨by simp, HALL.out⟩
  · have g1 : ((kind : Int) == 1) = false := by simp; omega
    clear hb0 hz0 B0 hB
    have HBA := Lib.hid hbA
    have hem : ((mk name).toList == ([] : Bs)) = decide (name = []) := by rw [toList_mk']; cases name <;> rfl
    obtain ⟨ne, hne⟩ : ∃ ne, ne = decide (name = []) := ⟨_, rfl⟩
    rw [← hne] at hem HOK
    clear hbA hne
    by_cases k2 : kind = 2
    · subst k2
      have HOK2 : Hid (hostOk ⟨2, name, v4, [a, b, c, d, e, f, g, i]⟩ = (ne && qv)) := Lib.hid (HOK.out.trans ((if_neg (by decide)).trans (if_pos rfl)))
      clear HOK
      cases ne
      · go_wp2
        all_goals (try (exfalso; omega))
        go_ret
        rw [HOK2.out]
        exact ⟨rfl, HBA.out⟩
      · go_wp2
        all_goals (try (exfalso; omega))
        go_ret
        rw [HOK2.out]
        exact ⟨by simp, HBA.out⟩
    · have g2 : ((kind : Int) == 2) = false := by simp; omega
      by_cases k3 : kind = 3
      · subst k3
        have HOK2 : Hid (hostOk ⟨3, name, v4, [a, b, c, d, e, f, g, i]⟩ = (ne && decide (v4 = 0))) := Lib.hid (HOK.out.trans ((if_neg (by decide)).trans ((if_neg (by decide)).trans (if_pos rfl))))
        clear HOK
        cases ne
        · go_wp2
          all_goals (try (exfalso; omega))
          go_ret
          rw [HOK2.out]
          exact ⟨rfl, HBA.out⟩
        · by_cases hv4 : v4 = 0
          · subst hv4
            go_wp2
            all_goals (try (exfalso; omega))
            go_ret
            rw [HOK2.out]
            exact ⟨by simp, HBA.out⟩
          · have g3 : ((v4 : Int) == 0) = false := by simp; omega
            go_wp2
            all_goals (try (exfalso; omega))
            go_ret
            rw [HOK2.out, decide_eq_false hv4]
            exact ⟨by simp, HBA.out⟩
      · have g3 : ((kind : Int) == 3) = false := by simp; omega
        have HOK2 : Hid (hostOk ⟨kind, name, v4, [a, b, c, d, e, f, g, i]⟩ = false) := Lib.hid (HOK.out.trans ((if_neg k1).trans ((if_neg k2).trans (if_neg k3))))
        clear HOK
        go_wp2
        all_goals (try (exfalso; omega))
        go_ret
        rw [HOK2.out]
        exact ⟨rfl, HBA.out⟩
end Go.Proofs.YtjbciamhhfcdoaaGreatDoor
