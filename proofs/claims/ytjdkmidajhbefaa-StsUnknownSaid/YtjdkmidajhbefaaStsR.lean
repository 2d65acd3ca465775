/- The walk of Parse of the reference of the layer sts. Conditions: the text's length is bounded. -/
import Derived.Test.YtjdkmidajhbefaaPlainSts
import Derived.Test.YtjdkmidajhbefaaDirRp
import Derived.Test.YtjdkmidajhbefaaDirK
import Derived.Test.YtjdkmidajhbefaaSeconds
import Derived.Test.YtjdkmidajhbefaaBlkTwo
namespace Go.Proofs.Ytjdkmidajhbefaa
open Go.RowKit Hs
set_option linter.unusedSimpArgs false
set_option linter.unusedVariables false

theorem polSize' : (Try.prog.info? 36).map (·.size) = some 2 := by kernel_rfl
/-- A policy as a value. -/
def polV (p : Int × Bool) : Value := .agg #[.int .i64 p.1, .bool p.2]
/-- The first k names are different from each other. -/
theorem take_nodup (l : List Dir) (h : (namesD (l.take l.length)).Nodup) : (namesD l).Nodup := by rwa [List.take_length] at h
theorem seen_step (l : List Dir) (k j : Nat) (hk : k < l.length) (hj : j < k) (hne : l[k].1 ≠ (l[j]'(by omega)).1) (h : (findD (l.take j) l[k].1).isSome = false) : (findD (l.take (j + 1)) l[k].1).isSome = false := by
  rw [findD_none] at h ⊢
  rw [namesD_take l j (by omega), List.mem_append]
  intro hm
  rcases hm with hm | hm
  · exact h hm
  · simp only [List.mem_singleton] at hm; exact hne hm
theorem seen_hit (l : List Dir) (k j : Nat) (hk : k < l.length) (hj : j < k) (he : l[k].1 = (l[j]'(by omega)).1) : ¬ (namesD l).Nodup := by
  refine dup_at l k hk ?_
  rw [findD_some]
  unfold namesD
  refine List.mem_map.2 ⟨l[j]'(by omega), ?_, he.symm⟩
  rw [List.mem_take_iff_getElem]
  exact ⟨j, by omega, rfl⟩
/-- What the second loop has found after k directives. -/
structure StsAt (l : List Dir) (k : Nat) (found : Bool) (n : Nat) (sub : Bool) : Prop where
  f : found = (findD (l.take k) ageN).isSome
  ok : found = true → secR (dirOf (findD (l.take k) ageN)).2.1 = (n, true)
  no : found = false → n = 0
  s : sub = (findD (l.take k) subN).isSome
  sv : (dirOf (findD (l.take k) subN)).2.2 = false
theorem ne_names : ageN ≠ subN := by decide
theorem find_step (l : List Dir) (k : Nat) (h : k < l.length) (hn : (namesD l).Nodup) (n : Bs) : findD (l.take (k + 1)) n = if l[k].1 = n then some l[k] else findD (l.take k) n := by
  rw [List.take_succ_eq_append_getElem h, findD_snoc]
  by_cases he : l[k].1 = n
  · have hf : (findD (l.take k) n).isSome = false := by
      cases hb : (findD (l.take k) n).isSome
      · rfl
      · exact absurd hn (dup_at l k h (by rw [he]; exact hb))
    rw [hf, if_neg (by simp), if_pos he, if_pos he]
  · rw [if_neg he, if_neg he]
    cases hb : findD (l.take k) n <;> simp
theorem find_full (l : List Dir) (k : Nat) (h : k < l.length) (hn : (namesD l).Nodup) (n : Bs) (he : l[k].1 = n) : findD l n = some l[k] := by
  have hs := find_step l k h hn n
  rw [if_pos he] at hs
  have e : findD (l.take (k + 1) ++ l.drop (k + 1)) n = some l[k] := by
    unfold findD at hs ⊢
    rw [List.find?_append, hs]; rfl
  rwa [List.take_append_drop] at e
theorem StsAt.start (l : List Dir) : StsAt l 0 false 0 false := ⟨rfl, (fun h => Bool.noConfusion h), fun _ => rfl, rfl, rfl⟩
theorem StsAt.age {l : List Dir} {k : Nat} {found : Bool} {n : Nat} {sub : Bool} (h : StsAt l k found n sub) (hk : k < l.length) (hn : (namesD l).Nodup) (he : l[k].1 = ageN) (m : Nat) (hm : secR l[k].2.1 = (m, true)) : StsAt l (k + 1) true m sub := by
  have e1 := find_step l k hk hn ageN
  have e2 := find_step l k hk hn subN
  rw [if_pos he] at e1
  rw [if_neg (by rw [he]; exact ne_names)] at e2
  exact ⟨by rw [e1]; rfl, fun _ => by rw [e1]; exact hm, (fun h => Bool.noConfusion h), by rw [e2]; exact h.s, by rw [e2]; exact h.sv⟩
theorem StsAt.sub' {l : List Dir} {k : Nat} {found : Bool} {n : Nat} {sub : Bool} (h : StsAt l k found n sub) (hk : k < l.length) (hn : (namesD l).Nodup) (he : l[k].1 = subN) (hv : l[k].2.2 = false) : StsAt l (k + 1) found n true := by
  have e1 := find_step l k hk hn ageN
  have e2 := find_step l k hk hn subN
  rw [if_pos he] at e2
  rw [if_neg (by rw [he]; exact fun e => ne_names e.symm)] at e1
  exact ⟨by rw [e1]; exact h.f, fun hf => by rw [e1]; exact h.ok hf, h.no, by rw [e2]; rfl, by rw [e2]; exact hv⟩
theorem StsAt.other {l : List Dir} {k : Nat} {found : Bool} {n : Nat} {sub : Bool} (h : StsAt l k found n sub) (hk : k < l.length) (hn : (namesD l).Nodup) (h1 : l[k].1 ≠ ageN) (h2 : l[k].1 ≠ subN) : StsAt l (k + 1) found n sub := by
  have e1 := find_step l k hk hn ageN
  have e2 := find_step l k hk hn subN
  rw [if_neg h1] at e1
  rw [if_neg h2] at e2
  exact ⟨by rw [e1]; exact h.f, fun hf => by rw [e1]; exact h.ok hf, h.no, by rw [e2]; exact h.s, by rw [e2]; exact h.sv⟩
theorem StsAt.fin {l : List Dir} {k : Nat} {found : Bool} {n : Nat} {sub : Bool} (h : StsAt l k found n sub) (hk : k = l.length) (hn : (namesD l).Nodup) : stsL l = if found = true then (((n : Int), sub), 0) else ((0, false), 18) := by
  obtain ⟨f, ok, no, s, sv⟩ := h
  subst hk
  rw [List.take_length] at f ok s sv
  rw [stsL_ok l hn, ← f, ← s, sv]
  cases found
  · rfl
  · rw [ok rfl]; rfl
theorem sts_age_bad (l : List Dir) (k : Nat) (hk : k < l.length) (hn : (namesD l).Nodup) (he : l[k].1 = ageN) (hm : (secR l[k].2.1).2 = false) : stsL l = ((0, false), 6) := by
  rw [stsL_ok l hn, find_full l k hk hn ageN he]
  show stsB true (secR l[k].2.1).2 _ _ _ = _
  rw [hm]
  unfold stsB
  rw [if_pos (.inl ⟨rfl, rfl⟩)]
theorem sts_sub_bad (l : List Dir) (k : Nat) (hk : k < l.length) (hn : (namesD l).Nodup) (he : l[k].1 = subN) (hv : l[k].2.2 = true) : stsL l = ((0, false), 6) := by
  rw [stsL_ok l hn, find_full l k hk hn subN he]
  unfold stsB
  rw [if_pos (.inr hv)]


theorem ls_age (z : Bs) (h : z ≠ ageN) : ¬ (mk z).toList = (ByteArray.mk #[109, 97, 120, 45, 97, 103, 101]).toList := by rw [toList_mk', toList_un]; exact h
theorem ls_sub (z : Bs) (h : z ≠ subN) : ¬ (mk z).toList = (ByteArray.mk #[105, 110, 99, 108, 117, 100, 101, 115, 117, 98, 100, 111, 109, 97, 105, 110, 115]).toList := by rw [toList_mk', toList_un]; exact h
theorem ls_ne : ¬ (ByteArray.mk #[105, 110, 99, 108, 117, 100, 101, 115, 117, 98, 100, 111, 109, 97, 105, 110, 115]).toList = (ByteArray.mk #[109, 97, 120, 45, 97, 103, 101]).toList := by rw [toList_un, toList_un]; decide
theorem beq_no {a b : List UInt8} (h : ¬ a = b) : (a == b) = false := by simpa using h

set_option maxHeartbeats 4000000 in
theorem r19_parse (s : ByteArray) (w : World) (hs : s.size ≤ 100000000) : Calls Try.prog 29 #[.string s] w fun e w' => e = .returned (.tuple #[polV (stsP (un s)).1, .int .i64 (stsP (un s)).2]) ∧ Below w.heap.size w w' := by
  have hbd := Lib.hid (parseD_bound (un s))
  by_cases he : (parseD (un s)).2 = 0
  · have hP : Hid (stsP (un s) = stsL (parseD (un s)).1) := Lib.hid (by unfold stsP stsR; rw [if_pos he])
    go_enter Try.func29, Try.ntmps29
    go_wp2_with fail
    refine (r18_parse s _ hs).mono ?_; rintro e w1 ⟨v1, rfl, hown1, hb1⟩
    rw [he]
    have r1 := (Blk2.new w 36 (.int .i64 0) (.bool false)).below hb1
    have B1 := (((Below.refl w.heap.size w).alloc (Nat.le_refl _) _).trans (hb1.mono (by simp)))
    have hd1 := Dirs.owned hown1
    generalize (parseD (un s)).1 = L at *
    have hL32 := hbd.out.1
    clear hb1 hown1 he
    obtain ⟨ao, cap, rfl, hc1, hc2, hc⟩ := hd1.open
    unfold maxLen at hc2
    have HC := Lib.hid hc
    have HD := Lib.hid hbd.out.2
    clear hc hd1 hbd
    go_wp2_with fail
    go_loopw [6] (fun iv wr => ∃ k : Nat, iv = .int .i64 k ∧ k ≤ L.length ∧ Hid ((namesD (L.take k)).Nodup) ∧ Below w1.heap.size w1 wr) (fun iv _ => L.length - (intOf iv).toNat)
    case atStart => exact ⟨0, rfl, by omega, Lib.hid (by simp [namesD]), Below.refl _ _⟩
    case round =>
      obtain ⟨k, rfl, hk, hnd, hnx⟩ := hrel
      have hsz := hnx.size
      by_cases hlt : k < L.length
      · have hstep := Lib.hid (nodup_step L k hlt hnd.out)
        have hhit := Lib.hid (fun j hj => seen_hit L k j hlt hj)
        have hseen := Lib.hid (fun j hj => seen_step L k j hlt hj)
        obtain ⟨b, off, rfl, hb1, hcell⟩ := HC.out (by omega)
        have c0 := (hcell k hlt).1
        have HCL := Lib.hid hcell
        obtain ⟨x, hx⟩ : ∃ x, x = L[k].1 := ⟨_, rfl⟩
        rw [← hx] at c0
        have HX := Lib.hid hx
        have hl0 : 0 < L.length := by omega
        clear hcell hx
        go_wp2_with fail
        go_loopw [7] (fun jv wq => ∃ j : Nat, jv = .int .i64 j ∧ j ≤ k ∧ Hid ((findD (L.take j) x).isSome = false) ∧ Below w1.heap.size w1 wq) (fun jv _ => k - (intOf jv).toNat)
        case atStart => exact ⟨0, rfl, by omega, Lib.hid rfl, hnx⟩
        case round =>
          obtain ⟨j, rfl, hj, hf, hnq⟩ := hrel
          by_cases hjk : j < k
          · have d0 := (hnq.cell (p := ⟨b, off + k * 3, none⟩) hb1).trans c0
            have d1 := (hnq.cell (p := ⟨b, off + j * 3, none⟩) hb1).trans (HCL.out j (by omega)).1
            obtain ⟨y, hy⟩ : ∃ y, y = (L[j]'(by omega)).1 := ⟨_, rfl⟩
            rw [← hy] at d1
            have hjl : j < L.length := by omega
            by_cases hxy : x = y
            · have hfin := Lib.hid (hP.out.trans (stsL_dup L (hhit.out j hjk (by rw [← HX.out, ← hy]; exact hxy))))
              have r2 := r1.below hnq
              have f0 := r2.f0; have f1 := r2.f1
              have p0 := r2.c0; have p1 := r2.c1
              subst hxy
              clear hy
              go_wp2_with fail
              go_quiet (fail)
              go_wp2_with fail
              refine bodyPost_ret (results_ct rfl _ _ w.heap.size 36 _ _ rfl (((r2.drewN _).set0 _).set1 _) Try.underlying36 rfl polSize') rfl ?_
              exact ⟨by rw [hfin.out]; rfl, ((below_drewN (B1.trans (hnq.mono B1.size)) _).setCell (by simp) _).setCell (by simp) _⟩
            · have hst := Lib.hid (hseen.out j hjk (by rw [← HX.out, ← hy]; exact hxy) (by rw [← HX.out]; exact hf.out))
              rw [← HX.out] at hst
              have hxy1 : ¬ (mk x).toList = (mk y).toList := by rw [toList_mk', toList_mk']; exact hxy
              have hxy2 := beq_no hxy1
              clear hy hxy
              go_wp2_with fail
              go_quiet (fail)
              go_wp2_with fail
              go_roundw
              case rel => exact ⟨j + 1, by go_num, by omega, hst, by first | exact hnq | exact below_drewN hnq _⟩
              case measure => simp [intOf]; omega
          · obtain rfl : j = k := by omega
            go_wp2_with fail
            go_roundw
            case rel => exact ⟨j + 1, by go_num, by omega, Lib.hid (hstep.out (by rw [← HX.out]; exact hf.out)), hnq⟩
            case measure => simp [intOf]; omega
      · obtain rfl : k = L.length := by omega
        have hnL := Lib.hid (take_nodup L hnd.out)
        have r3 := r1.below hnx
        have hne : w.heap.size ≠ wr.heap.size := by have := r3.lt; omega
        have p3 := Blk2.new wr 36 (.int .i64 0) (.bool false)
        have hn3 := hnx.alloc hnx.size (.cells #[.int .i64 0, .bool false] 36)
        have hgl : w1.heap.size ≤ wr.heap.size := hnx.size
        go_wp2_with fail
        generalize wr.alloc (.cells #[.int .i64 0, .bool false] 36) = W3 at *
        generalize wr.heap.size = g at *
        clear hnx hnd r3 hsz
        go_loopw [9, 10] (fun fv iv wq => ∃ (k : Nat) (found : Bool) (n : Nat) (sub : Bool), fv = .bool found ∧ iv = .int .i64 k ∧ k ≤ L.length ∧ Hid (StsAt L k found n sub) ∧ Blk2 wq g 36 (.int .i64 (n : Int)) (.bool sub) ∧ Below w1.heap.size w1 wq) (fun _ iv _ => L.length - (intOf iv).toNat)
        case atStart => exact ⟨0, false, 0, false, rfl, rfl, by omega, Lib.hid (StsAt.start L), p3, hn3⟩
        case round =>
          obtain ⟨k, found, n, sub, rfl, rfl, hk, hat, hpb, hnq⟩ := hrel
          have r4 := r1.below hnq
          have f0 := r4.f0; have f1 := r4.f1
          have p0 := r4.c0; have p1 := r4.c1
          have q0 := hpb.c0; have q1 := hpb.c1; have e0 := hpb.f0; have e1 := hpb.f1
          by_cases hlt : k < L.length
          · obtain ⟨b, off, rfl, hb1, hcell⟩ := HC.out (by omega)
            obtain ⟨x0, x1, x2⟩ := hcell k hlt
            have c0 := (hnq.cell (p := ⟨b, off + k * 3, none⟩) hb1).trans x0
            have c1 := (hnq.cell (p := ⟨b, off + k * 3 + 1, none⟩) hb1).trans x1
            have c2 := (hnq.cell (p := ⟨b, off + k * 3 + 2, none⟩) hb1).trans x2
            have hszd := HD.out L[k] (List.getElem_mem hlt)
            have sA := Lib.hid (fun (h : L[k].1 = ageN) (m : Nat) (hm : secR L[k].2.1 = (m, true)) => hat.out.age hlt hnL.out h m hm)
            have sS := Lib.hid (fun (h : L[k].1 = subN) (hv : L[k].2.2 = false) => hat.out.sub' hlt hnL.out h hv)
            have sO := Lib.hid (fun (h1 : L[k].1 ≠ ageN) (h2 : L[k].1 ≠ subN) => hat.out.other hlt hnL.out h1 h2)
            have bA := Lib.hid (sts_age_bad L k hlt hnL.out)
            have bS := Lib.hid (sts_sub_bad L k hlt hnL.out)
            clear hcell x0 x1 x2 hat
            obtain ⟨x, hx⟩ : ∃ x, x = L[k] := ⟨_, rfl⟩
            rw [← hx] at c0 c1 c2 hszd sA sS sO bA bS
            clear hx
            obtain ⟨nm, z, t⟩ := x
            simp only at c0 c1 c2 hszd sA sS sO bA bS
            have hzz : (mk z).size ≤ 4096 := by rw [size_mk]; exact hszd.2
            have hgb : g ≠ w.heap.size := fun e => hne e.symm
            clear hszd
            by_cases hA : nm = ageN
            · have hsp : Hid (∀ W : World, Calls Try.prog 47 #[.string (mk z)] W fun e w' => e = .returned (.tuple #[.int .i64 (secR z).1, .bool (secR z).2]) ∧ W = w') := Lib.hid fun W => by
                have := r4_parse (mk z) W (by omega)
                rw [un_mk] at this
                exact this
              obtain ⟨m, hm⟩ : ∃ m, (secR z).1 = m := ⟨_, rfl⟩
              have c0' : wr.cell? ⟨b, off + k * 3, none⟩ = some (.string ⟨#[109, 97, 120, 45, 97, 103, 101]⟩) := by rw [c0, hA]; rfl
              clear c0
              cases hok : (secR z).2
              · have hfin := Lib.hid (hP.out.trans (bA.out hA hok))
                rw [hm, hok] at hsp
                clear hA hm hok
                go_wp2_with fail
                refine (hsp.out _).mono ?_; rintro e w' ⟨rfl, rfl⟩
                go_wp2_with fail
                (try rw [Exit.noGoto_ret])
                (try simp only [Exit.inBlock, Exit.then])
                refine bodyPost_ret (results_ct rfl _ _ w.heap.size 36 _ _ rfl ((r4.set0 _).set1 _) Try.underlying36 rfl polSize') rfl ?_
                exact ⟨by rw [hfin.out]; rfl, ((B1.trans (hnq.mono B1.size)).setCell (by simp) _).setCell (by simp) _⟩
              · have hst := Lib.hid (sA.out hA m (Prod.ext hm hok))
                rw [hm, hok] at hsp
                clear hA hm hok
                go_wp2_with fail
                refine (hsp.out _).mono ?_; rintro e w' ⟨rfl, rfl⟩
                go_wp2_with fail
                go_roundw
                case rel => exact ⟨k + 1, true, m, sub, rfl, by go_num, by omega, hst, hpb.set0 _, hnq.setCell hgl _⟩
                case measure => simp [intOf]; omega
            · by_cases hS : nm = subN
              · have c0' : wr.cell? ⟨b, off + k * 3, none⟩ = some (.string ⟨#[105, 110, 99, 108, 117, 100, 101, 115, 117, 98, 100, 111, 109, 97, 105, 110, 115]⟩) := by rw [c0, hS]; rfl
                have l1 := ls_ne
                have l2 := beq_no ls_ne
                clear c0
                cases t
                · have hst := Lib.hid (sS.out hS rfl)
                  clear hA hS
                  go_wp2_with fail
                  go_roundw
                  case rel => exact ⟨k + 1, found, n, true, rfl, by go_num, by omega, hst, hpb.set1 _, hnq.setCell hgl _⟩
                  case measure => simp [intOf]; omega
                · have hfin := Lib.hid (hP.out.trans (bS.out hS rfl))
                  clear hA hS
                  go_wp2_with fail
                  (try rw [Exit.noGoto_ret])
                  (try simp only [Exit.inBlock, Exit.then])
                  refine bodyPost_ret (results_ct rfl _ _ w.heap.size 36 _ _ rfl ((r4.set0 _).set1 _) Try.underlying36 rfl polSize') rfl ?_
                  exact ⟨by rw [hfin.out]; rfl, ((B1.trans (hnq.mono B1.size)).setCell (by simp) _).setCell (by simp) _⟩
              · have hst := Lib.hid (sO.out hA hS)
                have l1 := ls_age nm hA
                have l2 := beq_no l1
                have l3 := ls_sub nm hS
                have l4 := beq_no l3
                have l5 : ¬ (mk nm).toList = [109, 97, 120, 45, 97, 103, 101] := by rw [toList_mk']; exact hA
                have l6 := beq_no l5
                have l7 : ¬ (mk nm).toList = [105, 110, 99, 108, 117, 100, 101, 115, 117, 98, 100, 111, 109, 97, 105, 110, 115] := by rw [toList_mk']; exact hS
                have l8 := beq_no l7
                clear hA hS
                go_wp2_with fail
                go_roundw
                case rel => exact ⟨k + 1, found, n, sub, rfl, by go_num, by omega, hst, hpb, hnq⟩
                case measure => simp [intOf]; omega
          · have hke : k = L.length := by omega
            have hfin := Lib.hid (hP.out.trans (hat.out.fin hke hnL.out))
            have hkn : ¬ ((k : Int) < (L.length : Int)) := by omega
            clear hke hat
            cases found
            · go_wp2_with fail
              (try rw [Exit.noGoto_ret])
              (try simp only [Exit.inBlock, Exit.then])
              refine bodyPost_ret (results_ct rfl _ _ w.heap.size 36 _ _ rfl ((r4.set0 _).set1 _) Try.underlying36 rfl polSize') rfl ?_
              exact ⟨by rw [hfin.out]; rfl, ((B1.trans (hnq.mono B1.size)).setCell (by simp) _).setCell (by simp) _⟩
            · go_wp2_with fail
              (try rw [Exit.noGoto_ret])
              (try simp only [Exit.inBlock, Exit.then])
              refine bodyPost_ret (results_ct rfl _ _ w.heap.size 36 _ _ rfl ((r4.set0 _).set1 _) Try.underlying36 rfl polSize') rfl ?_
              exact ⟨by rw [hfin.out]; rfl, ((B1.trans (hnq.mono B1.size)).setCell (by simp) _).setCell (by simp) _⟩
  · have hP : Hid (stsP (un s) = ((0, false), (parseD (un s)).2)) := Lib.hid (by unfold stsP stsR; rw [if_neg he])
    go_enter Try.func29, Try.ntmps29
    go_wp2_with fail
    refine (r18_parse s _ hs).mono ?_; rintro e w1 ⟨v1, rfl, hown1, hb1⟩
    have r1 := (Blk2.new w 36 (.int .i64 0) (.bool false)).below hb1
    have B1 := (((Below.refl w.heap.size w).alloc (Nat.le_refl _) _).trans (hb1.mono (by simp)))
    obtain ⟨z, hz⟩ : ∃ z, z = (parseD (un s)).2 := ⟨_, rfl⟩
    rw [← hz] at hP he ⊢
    clear hz hb1 hown1
    have c0 := r1.c0; have c1 := r1.c1; have f0 := r1.f0; have f1 := r1.f1
    go_wp2_with fail
    refine bodyPost_ret (results_ct rfl _ _ w.heap.size 36 _ _ rfl ((r1.set0 _).set1 _) Try.underlying36 rfl polSize') rfl ?_
    exact ⟨by rw [hP.out]; rfl, (B1.setCell (by simp) _).setCell (by simp) _⟩
end Go.Proofs.Ytjdkmidajhbefaa
