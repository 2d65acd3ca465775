/- The walk of add of the reference of layer 20. Conditions: lengths are bounded. -/
import Derived.Test.YtimfngfimnapoaaDoorCspK
import Derived.Test.YtimfngfimnapoaaDoorSplit
import Derived.Test.YtimfngfimnapoaaDoorLater
namespace Go.Proofs.YtimfngfimnapoaaDoor
open Go.RowKit Hs
set_option linter.unusedSimpArgs false
set_option linter.unusedVariables false

theorem results_c {P : Program} {fn : Func} {p : Tmp} {ty : TypeId} (h : fn.results = #[.cell p ty]) (tmps : Array Value) (w : World) (g : Nat) (t : TypeId) (cs : Array Value) (d : TypeDesc)
    (hp : tmps.getD p undef = .pointer (some ⟨g, 0, none⟩)) (hg : w.heap[g]? = some (.cells cs t (0, 0))) (hu : P.underlying ty = some d) (hd : (match d with | .struct _ | .array _ _ => true | _ => false) = true) (hi : (P.info? ty).map (·.size) = some cs.size) :
    (results fn tmps).run P w = .ok (.agg cs) w := by
  have hp' : tmps[p]?.getD undef = .pointer (some ⟨g, 0, none⟩) := by simpa using hp
  simp [results, h, hp', asAddr, run_loadVar_row w g t ty cs (0, 0) d hg hu hd hi, Result.andThen]

/-- What a call of add holds: c's box, the result's block, the names' row. w: the world where it began (behind its two blocks); u: the row that it was handed. -/
structure RCore (w : World) (base : Nat) (u : Value) (M : List Bs) (v : Value) (W : World) : Prop where
  box : Blk3 W w.heap.size 26 (.bool (decide (un upB ∈ M))) (.bool (decide (un blB ∈ M))) v
  res : Blk3 W (w.heap.size + 1) 26 (.bool false) (.bool false) (.slice none 0 0)
  row : W.ownsRow base 9 1 v M.length (scells M)
  grown : w.grownBy W u.ownBlock
  from_ : ∀ k, v.ownBlock = some k → u.ownBlock = some k ∨ w.heap.size ≤ k
theorem grown_trans {A B C : World} {r1 r2 : Option Nat} (h : A.grownBy B r1) (g : B.grownBy C r2) (hr : ∀ k, r2 = some k → r1 = some k ∨ A.heap.size ≤ k) : A.grownBy C r1 :=
  ⟨g.os.trans h.os, g.tape.trans h.tape, g.output.trans h.output, Nat.le_trans h.size g.size, fun k hk hne => (g.block k (Nat.lt_of_lt_of_le hk h.size) (fun e => by rcases hr k e.symm with e2 | e2; exact hne e2.symm; omega)).trans (h.block k hk hne)⟩
theorem RCore.below {w : World} {base : Nat} {u : Value} {M : List Bs} {v : Value} {A B : World} (h : RCore w base u M v A) (hb : Below A.heap.size A B) : RCore w base u M v B :=
  have hg : A.grownBy B none := grown_of_below hb
  ⟨h.box.below hb, h.res.below hb, h.row.kept hg (own_ne_of fun k e => by cases e), grown_trans h.grown hg (fun k e => by cases e), h.from_⟩
theorem RCore.not_low {w : World} {base : Nat} {u : Value} {M : List Bs} {v : Value} {A : World} (h : RCore w base u M v A) : v.ownBlock ≠ some w.heap.size ∧ v.ownBlock ≠ some (w.heap.size + 1) :=
  ⟨own_ne_obj h.box (fun C f e => by cases e) h.row, own_ne_obj h.res (fun C f e => by cases e) h.row⟩
theorem RCore.size {w : World} {base : Nat} {u : Value} {M : List Bs} {v : Value} {A : World} (h : RCore w base u M v A) : w.heap.size + 2 ≤ A.heap.size := h.res.lt
/-- The flags are set once more behind a name. -/
theorem flag_add (M : List Bs) (n q : Bs) : (decide (q ∈ M) || decide (n = q)) = decide (q ∈ addN M n) := by
  rw [Bool.eq_iff_iff]
  simp only [Bool.or_eq_true, decide_eq_true_eq, mem_addN]
  exact ⟨fun h => h.imp id Eq.symm, fun h => h.imp id Eq.symm⟩
theorem RCore.flags {w : World} {base : Nat} {u : Value} {M' : List Bs} {v : Value} {A : World} (b1 b2 : Bool) (h1 : b1 = decide (un upB ∈ M')) (h2 : b2 = decide (un blB ∈ M')) (c1 c2 : Value)
    (hbox : Blk3 A w.heap.size 26 c1 c2 v) (hres : Blk3 A (w.heap.size + 1) 26 (.bool false) (.bool false) (.slice none 0 0)) (hrow : A.ownsRow base 9 1 v M'.length (scells M')) (hg : w.grownBy A u.ownBlock) (hf : ∀ k, v.ownBlock = some k → u.ownBlock = some k ∨ w.heap.size ≤ k) (hn : v.ownBlock ≠ some w.heap.size) :
    RCore w base u M' v ((A.setCell ⟨w.heap.size, 0, none⟩ (.bool b1)).setCell ⟨w.heap.size, 1, none⟩ (.bool b2)) := by
  subst h1; subst h2
  refine ⟨(hbox.set0 _).set1 _, (hres.other (by omega) _ _).other (by omega) _ _, ?_, grown_trans (grown_trans hg (grown_setCell _ _ _ _) (fun k e => by cases e; exact .inr (Nat.le_refl _))) (grown_setCell _ _ _ _) (fun k e => by cases e; exact .inr (Nat.le_refl _)), hf⟩
  exact (hrow.kept (grown_setCell _ _ _ _) (own_ne_of fun k e => by cases e; exact hn)).kept (grown_setCell _ _ _ _) (own_ne_of fun k e => by cases e; exact hn)

theorem flag_false (Q : List Bs) (n : Bs) (u : ByteArray) (L : List UInt8) (h : false = decide (un u ∈ Q)) (hL : L = un u) : ((mk n).toList == L) = decide (un u ∈ addN Q n) := by
  rw [← flag_add, ← h, toList_mk', hL, Bool.false_or, Bool.eq_iff_iff]
  simp
theorem flag_true (Q : List Bs) (n : Bs) (u : ByteArray) (h : true = decide (un u ∈ Q)) : true = decide (un u ∈ addN Q n) := by
  rw [← flag_add, ← h]; rfl
/-- A row of a slice of strings, its block beyond b, behind the stores of the two flags. -/
theorem row_flags {A : World} {b base n : Nat} {v : Value} {xs : List Value} (h : A.ownsRow base 9 1 v n xs) (hb : b < base) (x y : Value) : ((A.setCell ⟨b, 0, none⟩ x).setCell ⟨b, 1, none⟩ y).ownsRow base 9 1 v n xs :=
  (h.kept (grown_setCell _ _ _ _) (own_ne_of fun k e => by cases e; exact fun e2 => by have := (h.lt _ e2).1; omega)).kept (grown_setCell _ _ _ _) (own_ne_of fun k e => by cases e; exact fun e2 => by have := (h.lt _ e2).1; omega)
theorem RCore.appended {w : World} {base : Nat} {u : Value} {M : List Bs} {v v5 : Value} {W A1 : World} {o : Obj} {n : Bs} (h : RCore w base u M v W) (hb : base ≤ w.heap.size) (hn : n ∉ M) (hown : A1.ownsRow base 9 1 v5 (M.length + 1) (scells M ++ [.string (Hs.mk n)])) (hg : (W.alloc o).grownBy A1 v.ownBlock)
    (hat : v5.ownBlock = v.ownBlock ∨ v5.ownBlock = some (W.alloc o).heap.size) :
    Blk3 A1 w.heap.size 26 (.bool (decide (un upB ∈ M))) (.bool (decide (un blB ∈ M))) v ∧ Blk3 (A1.setCell ⟨w.heap.size, 2, none⟩ v5) w.heap.size 26 (.bool (decide (un upB ∈ M))) (.bool (decide (un blB ∈ M))) v5 ∧ Blk3 (A1.setCell ⟨w.heap.size, 2, none⟩ v5) (w.heap.size + 1) 26 (.bool false) (.bool false) (.slice none 0 0) ∧
      (A1.setCell ⟨w.heap.size, 2, none⟩ v5).ownsRow base 9 1 v5 (addN M n).length (scells (addN M n)) ∧ w.grownBy (A1.setCell ⟨w.heap.size, 2, none⟩ v5) u.ownBlock ∧ (∀ k, v5.ownBlock = some k → u.ownBlock = some k ∨ w.heap.size ≤ k) ∧ v5.ownBlock ≠ some w.heap.size ∧
      (∀ base' p m xs, W.ownsRow base' 9 1 p m xs → w.heap.size + 2 ≤ base' → (∀ k, p.ownBlock = some k → v.ownBlock ≠ some k) → (A1.setCell ⟨w.heap.size, 2, none⟩ v5).ownsRow base' 9 1 p m xs ∧ ∀ k, p.ownBlock = some k → v5.ownBlock ≠ some k) := by
  obtain ⟨n0, n1⟩ := h.not_low
  have hs := h.size
  have hb5 : Blk3 A1 w.heap.size 26 (.bool (decide (un upB ∈ M))) (.bool (decide (un blB ∈ M))) v := (h.box.alloc o).grown hg (fun e => n0 e.symm)
  have hr5 : Blk3 A1 (w.heap.size + 1) 26 (.bool false) (.bool false) (.slice none 0 0) := (h.res.alloc o).grown hg (fun e => n1 e.symm)
  have low : v5.ownBlock ≠ some w.heap.size := own_ne_obj hb5 (fun C f e => by cases e) hown
  refine ⟨hb5, hb5.set2 _, hr5.other (by omega) _ _, ?_, ?_, ?_, low, ?_⟩
  · have := hown.kept (grown_setCell A1 w.heap.size 2 v5) (own_ne_of fun k e => by cases e; exact low)
    rw [addN_no _ _ hn, List.length_append, scells_append]
    exact this
  · exact grown_trans (grown_trans (grown_trans h.grown (World.grownBy_alloc W o none) (fun k e => by cases e)) hg h.from_) (grown_setCell _ _ _ _) (fun k e => by cases e; exact .inr (Nat.le_refl _))
  · intro k e
    rcases hat with ha | ha
    · exact h.from_ k (ha ▸ e)
    · rw [ha] at e
      injection e with e
      exact .inr (by rw [← e, World.size_alloc]; omega)
  · intro base' p m xs hp hbp hpv
    refine ⟨((hp.alloc o).kept hg (own_ne_of fun k e e2 => hpv k e2 e)).kept (grown_setCell _ _ _ _) (own_ne_of fun k e => by cases e; exact fun e2 => by have := (hp.lt _ e2).1; omega), fun k e e2 => ?_⟩
    rcases hat with ha | ha
    · exact hpv k e (ha ▸ e2)
    · rw [ha, World.size_alloc] at e2
      injection e2 with e2
      have := (hp.lt k e).2; omega

set_option maxRecDepth 20000 in
set_option maxHeartbeats 4000000 in
theorem r20_add (N : List Bs) (u : Value) (x : ByteArray) (w : World) (base : Nat) (hown : w.ownsRow base 9 1 u N.length (scells N)) (hbase : base ≤ w.heap.size) (hNl : N.length ≤ 20259001 * 1001) (hx : x.size ≤ 4096) :
    Calls Tryd.prog 19 #[cspVal N u, .string x] w fun e w' => ∃ u', e = .returned (cspVal (uniqN N (headsV (un x))) u') ∧ w'.ownsRow base 9 1 u' (uniqN N (headsV (un x))).length (scells (uniqN N (headsV (un x)))) ∧ w.grownBy w' u.ownBlock ∧ (∀ k, u'.ownBlock = some k → u.ownBlock = some k ∨ w.heap.size ≤ k) := by
  obtain ⟨iS0, iS⟩ := info_parts infoStr
  obtain ⟨au, cu, rfl⟩ := own_slice hown
  unfold cspVal
  obtain ⟨b1, hb1⟩ : ∃ b1, b1 = decide (un upB ∈ N) := ⟨_, rfl⟩
  obtain ⟨b2, hb2⟩ : ∃ b2, b2 = decide (un blB ∈ N) := ⟨_, rfl⟩
  have hxl := length_headsV (un x) (by rw [length_un]; omega)
  have HXL := Lib.hid hxl
  have hub : ∀ k, (Value.slice au N.length cu).ownBlock = some k → k < w.heap.size := fun k e => (hown.lt k e).2
  have HUB := Lib.hid hub
  rw [← hb1, ← hb2]
  have r0 := (Blk3.new w 26 (.bool b1) (.bool b2) (.slice au N.length cu)).alloc (.cells #[.bool false, .bool false, .slice none 0 0] 26)
  have r1 := Blk3.new (w.alloc (.cells #[.bool b1, .bool b2, .slice au N.length cu] 26)) 26 (.bool false) (.bool false) (.slice none 0 0)
  rw [World.size_alloc] at r1
  have ro := (hown.alloc (.cells #[.bool b1, .bool b2, .slice au N.length cu] 26)).alloc (.cells #[.bool false, .bool false, .slice none 0 0] 26)
  have rg : w.grownBy ((w.alloc (.cells #[.bool b1, .bool b2, .slice au N.length cu] 26)).alloc (.cells #[.bool false, .bool false, .slice none 0 0] 26)) (Value.slice au N.length cu).ownBlock :=
    grown_trans (World.grownBy_alloc w _ _) (World.grownBy_alloc _ _ none) (fun k e => by cases e)
  have hcore : RCore w base (.slice au N.length cu) N (.slice au N.length cu) ((w.alloc (.cells #[.bool b1, .bool b2, .slice au N.length cu] 26)).alloc (.cells #[.bool false, .bool false, .slice none 0 0] 26)) := ⟨by rw [← hb1, ← hb2]; exact r0, r1, ro, rg, fun k e => .inl e⟩
  have HCORE := Lib.hid hcore
  clear r0 r1 ro rg hcore hxl hub hb1 hb2
  go_enter Tryd.func19, Tryd.ntmps19
  go_wp2_with fail
  refine (ref01_split x 44 _ (by omega)).mono ?_; rintro e w1 ⟨p, rfl, hownp, hb1⟩
  have hc1 := HCORE.out.below hb1
  have hsz0 : ((w.alloc (.cells #[.bool b1, .bool b2, .slice au N.length cu] 26)).alloc (.cells #[.bool false, .bool false, .slice none 0 0] 26)).heap.size = w.heap.size + 2 := by simp
  rw [hsz0] at hownp
  clear hb1 HCORE
  obtain ⟨ap, cp, rfl⟩ := own_slice hownp
  obtain ⟨PS, hPS⟩ : ∃ PS, PS = splitD 44 (un x) := ⟨_, rfl⟩
  rw [← hPS] at hownp ⊢
  have hpu : ∀ k, (Value.slice ap PS.length cp).ownBlock = some k → (Value.slice au N.length cu).ownBlock ≠ some k := fun k e e2 => by have := (hownp.lt k e).1; have := HUB.out k e2; omega
  have hplen : ∀ q (h : q < PS.length), PS[q].length ≤ 4096 := fun q h => by
    have := splitD_len 44 (un x) PS[q] (by rw [← hPS]; exact List.getElem_mem h)
    rw [length_un] at this; omega
  have HPL := Lib.hid hplen
  have hPSl : PS.length ≤ 5000 := by have := length_splitD 44 (un x); rw [← hPS, length_un] at this; omega
  have HPS := Lib.hid hPS
  have hMb : ∀ q, (uniqN N ((PS.take q).flatMap headsP)).length ≤ 20259001 * 1003 := fun q => by
    have h1 := length_uniqN ((PS.take q).flatMap headsP) N
    have h2 : ((PS.take q).flatMap headsP).length ≤ 20259001 := by
      have e : headsV (un x) = (PS.take q).flatMap headsP ++ (PS.drop q).flatMap headsP := by rw [← List.flatMap_append, List.take_append_drop, hPS]; rfl
      have := HXL.out
      rw [e, List.length_append] at this
      omega
    omega
  have HMB := Lib.hid hMb
  clear hPS hplen hMb hsz0
  go_wp2
  go_loopw [6] (fun iv wr => ∃ (i : Nat) (v : Value), iv = .int .i64 i ∧ i ≤ PS.length ∧ RCore w base (.slice au N.length cu) (uniqN N ((PS.take i).flatMap headsP)) v wr ∧ wr.ownsRow (w.heap.size + 2) 9 1 (.slice ap PS.length cp) PS.length (scells PS) ∧ (∀ k, (Value.slice ap PS.length cp).ownBlock = some k → v.ownBlock ≠ some k)) (fun iv _ => PS.length - (intOf iv).toNat)
  case atStart => exact ⟨0, _, rfl, by omega, hc1, hownp, hpu⟩
  case round =>
    clear hc1 hownp hpu
    obtain ⟨i, v, rfl, hi, hco, hrp, hpv⟩ := hrel
    have hws := hco.size
    by_cases hlt : i < PS.length
    · obtain ⟨a', c', hv', hpn, hpm, hpc⟩ := (Row.owned hrp).2
      obtain ⟨rfl, _, rfl⟩ : ap = a' ∧ PS.length = PS.length ∧ cp = c' := by injection hv'; exact ⟨by assumption, rfl, by assumption⟩
      obtain ⟨bp, op, rfl, hbp, hcell⟩ := hpc.resolve_left (by omega)
      have c0 := hcell i (.string (mk PS[i])) (by simp [scells, List.getElem?_eq_getElem hlt])
      have hpl := HPL.out i hlt
      have hstep : Hid ((PS.take (i + 1)).flatMap headsP = (PS.take i).flatMap headsP ++ headsP PS[i]) := Lib.hid (by rw [List.take_succ_eq_append_getElem hlt, List.flatMap_append, List.flatMap_cons, List.flatMap_nil, List.append_nil])
      obtain ⟨px, hpx⟩ : ∃ px, px = PS[i] := ⟨_, rfl⟩
      rw [← hpx] at c0 hpl hstep
      have hpbound := HMB.out (i + 1)
      rw [hstep.out, uniqN_append] at hpbound
      have HPB := Lib.hid hpbound
      clear hcell hpc hv' hpx hpbound
      obtain ⟨M, hM⟩ : ∃ M, M = uniqN N ((PS.take i).flatMap headsP) := ⟨_, rfl⟩
      rw [← hM] at hco HPB
      have HM := Lib.hid hM
      clear hM
      go_wp2_with fail
      refine (ref01_split (mk px) 59 _ (by rw [size_mk]; omega)).mono ?_; rintro e w2 ⟨d, rfl, hownd, hb2⟩
      rw [un_mk] at hownd
      have hc2 := hco.below hb2
      have hp2 := hrp.kept (grown_of_below hb2) (own_ne_of fun k e => by cases e)
      have hvd : ∀ k, d.ownBlock = some k → v.ownBlock ≠ some k := fun k e e2 => by have := (hownd.lt k e).1; have := (hco.row.lt k e2).2; omega
      clear hb2 hco hrp c0
      obtain ⟨ad, cd, rfl⟩ := own_slice hownd
      obtain ⟨DS, hDS⟩ : ∃ DS, DS = splitD 59 px := ⟨_, rfl⟩
      rw [← hDS] at hownd hvd ⊢
      have hdlen : ∀ q (h : q < DS.length), DS[q].length ≤ 4096 := fun q h => by
        have := splitD_len 59 px DS[q] (by rw [← hDS]; exact List.getElem_mem h)
        omega
      have HDL := Lib.hid hdlen
      have hDSl : DS.length ≤ 5000 := by have := length_splitD 59 px; rw [← hDS] at this; omega
      have hMd : ∀ q, (uniqN M ((DS.take q).flatMap headN)).length ≤ 20259001 * 1003 := fun q => by
        have h1 := HPB.out
        have e : headsP px = (DS.take q).flatMap headN ++ (DS.drop q).flatMap headN := by rw [← List.flatMap_append, List.take_append_drop, hDS]; rfl
        rw [e, uniqN_append] at h1
        exact Nat.le_trans (uniqN_prefix _ _).length_le h1
      have HMD := Lib.hid hMd
      have HDS := Lib.hid hDS
      have hbd : w.heap.size + 2 ≤ wr.heap.size := hws
      obtain ⟨zd, hzd⟩ : ∃ zd, zd = wr.heap.size := ⟨_, rfl⟩
      rw [← hzd] at hownd hbd
      clear hDS hdlen hMd hzd hws
      go_wp2
      go_loopw [8] (fun jv wq => ∃ (j : Nat) (v2 : Value), jv = .int .i64 j ∧ j ≤ DS.length ∧ RCore w base (.slice au N.length cu) (uniqN M ((DS.take j).flatMap headN)) v2 wq ∧ wq.ownsRow (w.heap.size + 2) 9 1 (.slice (some ⟨bp, op, none⟩) PS.length cp) PS.length (scells PS) ∧ wq.ownsRow zd 9 1 (.slice ad DS.length cd) DS.length (scells DS) ∧
        (∀ k, (Value.slice (some ⟨bp, op, none⟩) PS.length cp).ownBlock = some k → v2.ownBlock ≠ some k) ∧ (∀ k, (Value.slice ad DS.length cd).ownBlock = some k → v2.ownBlock ≠ some k)) (fun jv _ => DS.length - (intOf jv).toNat)
      case atStart => exact ⟨0, _, rfl, by omega, hc2, hp2, hownd, hpv, hvd⟩
      case round =>
        clear hc2 hp2 hownd hpv hvd
        obtain ⟨j, v2, rfl, hj, hco, hrp, hrd, hpv, hdv⟩ := hrel
        have hws := hco.size
        by_cases hltj : j < DS.length
        · obtain ⟨a', c', hv', hpn2, hpm2, hpc⟩ := (Row.owned hrd).2
          obtain ⟨rfl, _, rfl⟩ : ad = a' ∧ DS.length = DS.length ∧ cd = c' := by injection hv'; exact ⟨by assumption, rfl, by assumption⟩
          obtain ⟨bd, od, rfl, hbd2, hcell⟩ := hpc.resolve_left (by omega)
          have c0 := hcell j (.string (mk DS[j])) (by simp [scells, List.getElem?_eq_getElem hltj])
          have hdl := HDL.out j hltj
          have hstepd : Hid ((DS.take (j + 1)).flatMap headN = (DS.take j).flatMap headN ++ headN DS[j]) := Lib.hid (by rw [List.take_succ_eq_append_getElem hltj, List.flatMap_append, List.flatMap_cons, List.flatMap_nil, List.append_nil])
          obtain ⟨dx, hdx⟩ : ∃ dx, dx = DS[j] := ⟨_, rfl⟩
          rw [← hdx] at c0 hdl hstepd
          clear hcell hpc hv' hdx
          have hQb := HMD.out j
          obtain ⟨Q, hQ⟩ : ∃ Q, Q = uniqN M ((DS.take j).flatMap headN) := ⟨_, rfl⟩
          rw [← hQ] at hco hQb
          have HQ : Hid (uniqN M ((DS.take (j + 1)).flatMap headN) = uniqN Q (headN dx)) := Lib.hid (by rw [hstepd.out, uniqN_append, hQ])
          have HQB := Lib.hid hQb
          clear hQ hstepd hQb
          go_wp2_with fail
          refine (ref01_words (mk dx) _ (by rw [size_mk]; omega)).mono ?_; rintro e w3 ⟨wd, rfl, hownw, hwl, hb3⟩
          rw [un_mk] at hownw
          have hc3 := hco.below hb3
          have hp3 := hrp.kept (grown_of_below hb3) (own_ne_of fun k e => by cases e)
          have hd3 := hrd.kept (grown_of_below hb3) (own_ne_of fun k e => by cases e)
          have hs3 := hb3.size
          clear hb3 hco hrp hrd c0 hwl
          obtain ⟨aw, cw, rfl, h2, h3, h4⟩ := (Row.owned hownw).2
          clear hownw
          cases hwd : words dx with
          | nil =>
            have hQn : Hid (uniqN M ((DS.take (j + 1)).flatMap headN) = Q) := Lib.hid (by rw [HQ.out]; unfold headN; rw [hwd]; rfl)
            simp only [List.length_nil]
            clear hwd h2 h3 h4 HQ
            go_wp2
            go_roundw
            case rel => exact ⟨j + 1, v2, by go_num, by omega, by rw [hQn.out]; exact hc3, hp3, hd3, hpv, hdv⟩
            case measure => simp [intOf]; omega
          | cons x0 rest =>
            rw [hwd] at h2 h4
            obtain ⟨bw, ow, rfl, hbw, hcw⟩ := h4.resolve_left (by simp)
            have cw0 := hcw 0 (.string (mk x0)) rfl
            rw [Nat.add_zero] at cw0
            have hx0 : x0.length ≤ 4096 := by have := (words_mem dx x0 (by rw [hwd]; simp)).2.2; omega
            have hQn : Hid (uniqN M ((DS.take (j + 1)).flatMap headN) = addN Q (lower x0)) := Lib.hid (by rw [HQ.out]; unfold headN; rw [hwd]; rfl)
            obtain ⟨nn, hnn⟩ : ∃ nn, nn = (x0 :: rest).length := ⟨_, rfl⟩
            have hnn1 : 0 < nn := by rw [hnn]; simp
            rw [← hnn] at h2 ⊢
            have hnz : ((nn : Int) == 0) = false := by simp; omega
            have hlow := fun W => ref01_lower (mk x0) W (by rw [size_mk]; omega)
            simp only [un_mk] at hlow
            have hnl : (lower x0).length ≤ 4096 := by rw [length_lower]; exact hx0
            obtain ⟨n, hn⟩ : ∃ n, n = lower x0 := ⟨_, rfl⟩
            rw [← hn] at hQn hnl
            simp only [← hn] at hlow
            have HLOW := Lib.hid hlow
            clear hcw hwd hnn h4 HQ hlow hn
            go_wp2_with fail
            refine (HLOW.out _).mono ?_; rintro e w4 ⟨rfl, hb4⟩
            have hc4 := hc3.below hb4
            have hp4 := hp3.kept (grown_of_below hb4) (own_ne_of fun k e => by cases e)
            have hd4 := hd3.kept (grown_of_below hb4) (own_ne_of fun k e => by cases e)
            have hs4 := hb4.size
            clear hb4 hc3 hp3 hd3 cw0
            obtain ⟨av, cv, rfl⟩ := own_slice hc4.row
            have hQB := HQB.out
            obtain ⟨B1, hB1⟩ : ∃ B1, B1 = decide (un upB ∈ Q) := ⟨_, rfl⟩
            obtain ⟨B2, hB2⟩ : ∃ B2, B2 = decide (un blB ∈ Q) := ⟨_, rfl⟩
            have o4 := hc4.box
            rw [← hB1, ← hB2] at o4
            have E0 := o4.c0; have E1 := o4.c1; have E2 := o4.c2; have F0 := o4.f0; have F1 := o4.f1; have F2 := o4.f2
            have hvcells : ∀ q (h : q < Q.length), ∃ bv ov, av = some ⟨bv, ov, none⟩ ∧ w4.cell? ⟨bv, ov + q, none⟩ = some (.string (mk Q[q])) := fun q h => by
              obtain ⟨a', c', hv', _, _, hvc⟩ := (Row.owned hc4.row).2
              injection hv' with e1 e2 e3
              subst e1
              obtain ⟨bv, ov, rfl, _, hc⟩ := hvc.resolve_left (by omega)
              exact ⟨bv, ov, rfl, hc q _ (by simp [scells, List.getElem?_eq_getElem h])⟩
            have HVC := Lib.hid hvcells
            have HB1 := Lib.hid hB1
            have HB2 := Lib.hid hB2
            clear hvcells hB1 hB2
            go_wp2
            go_loop [11, 12] (fun kn jv => ∃ q : Nat, jv = .int .i64 q ∧ q ≤ Q.length ∧ kn = .bool (decide (n ∈ Q.take q))) (fun _ jv => Q.length - (intOf jv).toNat)
            case atStart => exact ⟨0, rfl, by omega, by simp⟩
            case round =>
              obtain ⟨q, rfl, hq, rfl⟩ := hrel
              by_cases hlq : q < Q.length
              · obtain ⟨bv, ov, rfl, hcq⟩ := HVC.out q hlq
                have hst : Hid (decide (n ∈ Q.take (q + 1)) = (decide (n ∈ Q.take q) || decide (Q[q] = n))) := Lib.hid (by
                  rw [List.take_succ_eq_append_getElem hlq, Bool.eq_iff_iff]
                  simp only [List.mem_append, List.mem_singleton, Bool.or_eq_true, decide_eq_true_eq]
                  exact ⟨fun h => h.imp id Eq.symm, fun h => h.imp id Eq.symm⟩)
                obtain ⟨y, hy⟩ : ∃ y, y = Q[q] := ⟨_, rfl⟩
                rw [← hy] at hcq hst
                clear hy
                obtain ⟨kb, hkb⟩ : ∃ kb, kb = decide (n ∈ Q.take q) := ⟨_, rfl⟩
                rw [← hkb] at hst ⊢
                clear hkb
                cases kb
                · by_cases hyn : y = n
                  · have hb : ((mk y).toList == (mk n).toList) = true := by rw [hyn]; simp
                    have hst2 : Hid (Value.bool (decide (n ∈ Q.take (q + 1))) = .bool true) := Lib.hid (by rw [hst.out, decide_eq_true hyn]; rfl)
                    clear hyn hst
                    go_wp2
                    go_round
                    case rel => exact ⟨q + 1, by go_num, by omega, hst2.out.symm⟩
                    case measure => simp [intOf]; omega
                  · have hb : ((mk y).toList == (mk n).toList) = false := by rw [beq_eq_false_iff_ne, toList_mk', toList_mk']; exact hyn
                    have hb2 : ¬ (mk y).toList = (mk n).toList := by rw [toList_mk', toList_mk']; exact hyn
                    have hst2 : Hid (Value.bool (decide (n ∈ Q.take (q + 1))) = .bool false) := Lib.hid (by rw [hst.out, decide_eq_false hyn]; rfl)
                    clear hyn hst
                    go_wp2
                    go_round
                    case rel => exact ⟨q + 1, by go_num, by omega, hst2.out.symm⟩
                    case measure => simp [intOf]; omega
                · have hst2 : Hid (Value.bool (decide (n ∈ Q.take (q + 1))) = .bool true) := Lib.hid (by rw [hst.out]; rfl)
                  clear hst
                  go_wp2
                  go_round
                  case rel => exact ⟨q + 1, by go_num, by omega, hst2.out.symm⟩
                  case measure => simp [intOf]; omega
              · obtain rfl : q = Q.length := by omega
                rw [List.take_length]
                obtain ⟨kb, hkb⟩ : ∃ kb, kb = decide (n ∈ Q) := ⟨_, rfl⟩
                rw [← hkb]
                have HKB := Lib.hid hkb
                clear hkb
                cases kb
                · have hno : n ∉ Q := of_decide_eq_false HKB.out.symm
                  have hAP := fun (A1 : World) (v5 : Value) h1 h2 h3 => hc4.appended (o := .cells #[.string (mk n)] 9) (A1 := A1) (v5 := v5) hbase hno h1 h2 h3
                  have HAP := Lib.hid hAP
                  clear hAP hno
                  cases B1
                  · cases B2
                    · go_wp2_with (at_builtin; refine wpList_append_own_at _ rfl (.tmp 64) (.tmp 66) 22 rfl base 9 iS0 (.string ByteArray.empty) 1 16 Tryd.underlying22 iS.1 iS.2.1 iS.2.2.1 iS.2.2.2 rfl (by decide) _ _ _ rfl (hc4.row.alloc _) ⟨w4.heap.size, 0, none⟩ 1 1 [.string (mk n)] rfl rfl (cell_one_new _ _ _) (by intro u hu; simp at hu; subst hu; rfl) (by unfold maxLen; omega) (by omega) (by simp; omega) ?_; intro v5 w5 hown5 hgrow5 hnil5 hat5; obtain ⟨g5, c5, rfl⟩ := ownsRow_succ hown5; obtain ⟨x0, x1, x2, x3, x4, x5, x6, x7⟩ := HAP.out _ _ hown5 hgrow5 hat5; rw [← HB1.out, ← HB2.out] at x0 x1; have y2 := x0.c2; have z2 := x0.f2; have y0 := x1.c0; have y1 := x1.c1; have z0 := x1.f0; have z1 := x1.f1)
                      obtain ⟨p5, hpv5⟩ := x7 _ _ _ _ hp4 (Nat.le_refl _) hpv
                      obtain ⟨d5, hdv5⟩ := x7 _ _ _ _ hd4 hbd hdv
                      go_roundw
                      case rel =>
                        refine ⟨j + 1, _, by go_num, by omega, ?_, row_flags p5 (by omega) _ _, row_flags d5 (by omega) _ _, hpv5, hdv5⟩
                        rw [hQn.out]
                        exact RCore.flags _ _ (flag_false Q n upB [117, 112, 103, 114, 97, 100, 101, 45, 105, 110, 115, 101, 99, 117, 114, 101, 45, 114, 101, 113, 117, 101, 115, 116, 115] HB1.out rfl) (flag_false Q n blB [98, 108, 111, 99, 107, 45, 97, 108, 108, 45, 109, 105, 120, 101, 100, 45, 99, 111, 110, 116, 101, 110, 116] HB2.out rfl) _ _ x1 x2 x3 x4 x5 x6
                      case measure => simp [intOf]; omega
                    · go_wp2_with (at_builtin; refine wpList_append_own_at _ rfl (.tmp 64) (.tmp 66) 22 rfl base 9 iS0 (.string ByteArray.empty) 1 16 Tryd.underlying22 iS.1 iS.2.1 iS.2.2.1 iS.2.2.2 rfl (by decide) _ _ _ rfl (hc4.row.alloc _) ⟨w4.heap.size, 0, none⟩ 1 1 [.string (mk n)] rfl rfl (cell_one_new _ _ _) (by intro u hu; simp at hu; subst hu; rfl) (by unfold maxLen; omega) (by omega) (by simp; omega) ?_; intro v5 w5 hown5 hgrow5 hnil5 hat5; obtain ⟨g5, c5, rfl⟩ := ownsRow_succ hown5; obtain ⟨x0, x1, x2, x3, x4, x5, x6, x7⟩ := HAP.out _ _ hown5 hgrow5 hat5; rw [← HB1.out, ← HB2.out] at x0 x1; have y2 := x0.c2; have z2 := x0.f2; have y0 := x1.c0; have y1 := x1.c1; have z0 := x1.f0; have z1 := x1.f1)
                      obtain ⟨p5, hpv5⟩ := x7 _ _ _ _ hp4 (Nat.le_refl _) hpv
                      obtain ⟨d5, hdv5⟩ := x7 _ _ _ _ hd4 hbd hdv
                      go_roundw
                      case rel =>
                        refine ⟨j + 1, _, by go_num, by omega, ?_, row_flags p5 (by omega) _ _, row_flags d5 (by omega) _ _, hpv5, hdv5⟩
                        rw [hQn.out]
                        exact RCore.flags _ _ (flag_false Q n upB [117, 112, 103, 114, 97, 100, 101, 45, 105, 110, 115, 101, 99, 117, 114, 101, 45, 114, 101, 113, 117, 101, 115, 116, 115] HB1.out rfl) (flag_true Q n blB HB2.out) _ _ x1 x2 x3 x4 x5 x6
                      case measure => simp [intOf]; omega
                  · cases B2
                    · go_wp2_with (at_builtin; refine wpList_append_own_at _ rfl (.tmp 64) (.tmp 66) 22 rfl base 9 iS0 (.string ByteArray.empty) 1 16 Tryd.underlying22 iS.1 iS.2.1 iS.2.2.1 iS.2.2.2 rfl (by decide) _ _ _ rfl (hc4.row.alloc _) ⟨w4.heap.size, 0, none⟩ 1 1 [.string (mk n)] rfl rfl (cell_one_new _ _ _) (by intro u hu; simp at hu; subst hu; rfl) (by unfold maxLen; omega) (by omega) (by simp; omega) ?_; intro v5 w5 hown5 hgrow5 hnil5 hat5; obtain ⟨g5, c5, rfl⟩ := ownsRow_succ hown5; obtain ⟨x0, x1, x2, x3, x4, x5, x6, x7⟩ := HAP.out _ _ hown5 hgrow5 hat5; rw [← HB1.out, ← HB2.out] at x0 x1; have y2 := x0.c2; have z2 := x0.f2; have y0 := x1.c0; have y1 := x1.c1; have z0 := x1.f0; have z1 := x1.f1)
                      obtain ⟨p5, hpv5⟩ := x7 _ _ _ _ hp4 (Nat.le_refl _) hpv
                      obtain ⟨d5, hdv5⟩ := x7 _ _ _ _ hd4 hbd hdv
                      go_roundw
                      case rel =>
                        refine ⟨j + 1, _, by go_num, by omega, ?_, row_flags p5 (by omega) _ _, row_flags d5 (by omega) _ _, hpv5, hdv5⟩
                        rw [hQn.out]
                        exact RCore.flags _ _ (flag_true Q n upB HB1.out) (flag_false Q n blB [98, 108, 111, 99, 107, 45, 97, 108, 108, 45, 109, 105, 120, 101, 100, 45, 99, 111, 110, 116, 101, 110, 116] HB2.out rfl) _ _ x1 x2 x3 x4 x5 x6
                      case measure => simp [intOf]; omega
                    · go_wp2_with (at_builtin; refine wpList_append_own_at _ rfl (.tmp 64) (.tmp 66) 22 rfl base 9 iS0 (.string ByteArray.empty) 1 16 Tryd.underlying22 iS.1 iS.2.1 iS.2.2.1 iS.2.2.2 rfl (by decide) _ _ _ rfl (hc4.row.alloc _) ⟨w4.heap.size, 0, none⟩ 1 1 [.string (mk n)] rfl rfl (cell_one_new _ _ _) (by intro u hu; simp at hu; subst hu; rfl) (by unfold maxLen; omega) (by omega) (by simp; omega) ?_; intro v5 w5 hown5 hgrow5 hnil5 hat5; obtain ⟨g5, c5, rfl⟩ := ownsRow_succ hown5; obtain ⟨x0, x1, x2, x3, x4, x5, x6, x7⟩ := HAP.out _ _ hown5 hgrow5 hat5; rw [← HB1.out, ← HB2.out] at x0 x1; have y2 := x0.c2; have z2 := x0.f2; have y0 := x1.c0; have y1 := x1.c1; have z0 := x1.f0; have z1 := x1.f1)
                      obtain ⟨p5, hpv5⟩ := x7 _ _ _ _ hp4 (Nat.le_refl _) hpv
                      obtain ⟨d5, hdv5⟩ := x7 _ _ _ _ hd4 hbd hdv
                      go_roundw
                      case rel =>
                        refine ⟨j + 1, _, by go_num, by omega, ?_, row_flags p5 (by omega) _ _, row_flags d5 (by omega) _ _, hpv5, hdv5⟩
                        rw [hQn.out]
                        exact RCore.flags _ _ (flag_true Q n upB HB1.out) (flag_true Q n blB HB2.out) _ _ x1 x2 x3 x4 x5 x6
                      case measure => simp [intOf]; omega
                · have HQQ : Hid (addN Q n = Q) := Lib.hid (addN_yes Q n (of_decide_eq_true HKB.out.symm))
                  cases B1
                  · cases B2
                    · go_wp2
                      go_roundw
                      case rel =>
                        refine ⟨j + 1, _, by go_num, by omega, ?_, row_flags hp4 (by omega) _ _, row_flags hd4 (by omega) _ _, hpv, hdv⟩
                        rw [hQn.out]
                        exact RCore.flags _ _ (flag_false Q n upB [117, 112, 103, 114, 97, 100, 101, 45, 105, 110, 115, 101, 99, 117, 114, 101, 45, 114, 101, 113, 117, 101, 115, 116, 115] HB1.out rfl) (flag_false Q n blB [98, 108, 111, 99, 107, 45, 97, 108, 108, 45, 109, 105, 120, 101, 100, 45, 99, 111, 110, 116, 101, 110, 116] HB2.out rfl) _ _ o4 hc4.res (by rw [HQQ.out]; exact hc4.row) hc4.grown hc4.from_ hc4.not_low.1
                      case measure => simp [intOf]; omega
                    · go_wp2
                      go_roundw
                      case rel =>
                        refine ⟨j + 1, _, by go_num, by omega, ?_, row_flags hp4 (by omega) _ _, row_flags hd4 (by omega) _ _, hpv, hdv⟩
                        rw [hQn.out]
                        exact RCore.flags _ _ (flag_false Q n upB [117, 112, 103, 114, 97, 100, 101, 45, 105, 110, 115, 101, 99, 117, 114, 101, 45, 114, 101, 113, 117, 101, 115, 116, 115] HB1.out rfl) (flag_true Q n blB HB2.out) _ _ o4 hc4.res (by rw [HQQ.out]; exact hc4.row) hc4.grown hc4.from_ hc4.not_low.1
                      case measure => simp [intOf]; omega
                  · cases B2
                    · go_wp2
                      go_roundw
                      case rel =>
                        refine ⟨j + 1, _, by go_num, by omega, ?_, row_flags hp4 (by omega) _ _, row_flags hd4 (by omega) _ _, hpv, hdv⟩
                        rw [hQn.out]
                        exact RCore.flags _ _ (flag_true Q n upB HB1.out) (flag_false Q n blB [98, 108, 111, 99, 107, 45, 97, 108, 108, 45, 109, 105, 120, 101, 100, 45, 99, 111, 110, 116, 101, 110, 116] HB2.out rfl) _ _ o4 hc4.res (by rw [HQQ.out]; exact hc4.row) hc4.grown hc4.from_ hc4.not_low.1
                      case measure => simp [intOf]; omega
                    · go_wp2
                      go_roundw
                      case rel =>
                        refine ⟨j + 1, _, by go_num, by omega, ?_, row_flags hp4 (by omega) _ _, row_flags hd4 (by omega) _ _, hpv, hdv⟩
                        rw [hQn.out]
                        exact RCore.flags _ _ (flag_true Q n upB HB1.out) (flag_true Q n blB HB2.out) _ _ o4 hc4.res (by rw [HQQ.out]; exact hc4.row) hc4.grown hc4.from_ hc4.not_low.1
                      case measure => simp [intOf]; omega
        · obtain rfl : j = DS.length := by omega
          rw [List.take_length] at hco
          have hfin : Hid (uniqN N ((PS.take (i + 1)).flatMap headsP) = uniqN M (DS.flatMap headN)) := Lib.hid (by rw [hstep.out, uniqN_append, HM.out, HDS.out]; rfl)
          go_wp2
          go_roundw
          case rel => exact ⟨i + 1, v2, by go_num, by omega, by rw [hfin.out]; exact hco, hrp, hpv⟩
          case measure => simp [intOf]; omega
    · obtain rfl : i = PS.length := by omega
      rw [List.take_length] at hco
      have hfin : Hid (uniqN N (PS.flatMap headsP) = uniqN N (headsV (un x))) := Lib.hid (by rw [HPS.out]; rfl)
      rw [hfin.out] at hco
      obtain ⟨ar, cr, rfl⟩ := own_slice hco.row
      obtain ⟨M, hM⟩ : ∃ M, M = uniqN N (headsV (un x)) := ⟨_, rfl⟩
      rw [← hM] at hco
      have HMX := Lib.hid hM
      clear hM
      have nlow := hco.not_low
      obtain ⟨b3, hb3⟩ : ∃ b3, b3 = decide (un upB ∈ M) := ⟨_, rfl⟩
      obtain ⟨b4, hb4⟩ : ∃ b4, b4 = decide (un blB ∈ M) := ⟨_, rfl⟩
      have o0 := hco.box
      have r0 := hco.res
      rw [← hb3, ← hb4] at o0
      have HB3 := Lib.hid hb3
      have HB4 := Lib.hid hb4
      have A0 := o0.c0; have A1 := o0.c1; have A2 := o0.c2
      have P0 := r0.c0; have P1 := r0.c1; have P2 := r0.c2; have Q0 := r0.f0; have Q1 := r0.f1; have Q2 := r0.f2
      clear hb3 hb4 hrp hpv hfin
      go_wp2
      have r3 := ((r0.set0 (.bool b3)).set1 (.bool b4)).set2 (.slice ar M.length cr)
      refine bodyPost_ret (results_c rfl _ _ (w.heap.size + 1) 26 _ _ rfl r3 Tryd.underlying26 rfl (by kernel_rfl)) rfl ?_
      rw [← HMX.out]
      refine ⟨.slice ar M.length cr, by rw [← HB3.out, ← HB4.out], ?_, ?_, hco.from_⟩
      · exact ((hco.row.kept (grown_setCell _ _ _ _) (own_ne_of fun k e => by cases e; exact nlow.2)).kept (grown_setCell _ _ _ _) (own_ne_of fun k e => by cases e; exact nlow.2)).kept (grown_setCell _ _ _ _) (own_ne_of fun k e => by cases e; exact nlow.2)
      · exact grown_trans (grown_trans (grown_trans hco.grown (grown_setCell _ _ _ _) (fun k e => by cases e; exact .inr (by omega))) (grown_setCell _ _ _ _) (fun k e => by cases e; exact .inr (by omega))) (grown_setCell _ _ _ _) (fun k e => by cases e; exact .inr (by omega))
end Go.Proofs.YtimfngfimnapoaaDoor
