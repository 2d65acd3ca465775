/- The walks of Put and Get of a table for one pin. Conditions: texts are of bounded length; the library's tables stand.
   The walk of Get of a table with one pin. Conditions: texts are of bounded length.
   The walk of Expired of the layer seconds. Conditions: none.
   The walks of Get of no preload list and of the coverage of a name. Conditions: texts are of bounded length; the table is nil or holds one pin, the list is nil.
   The walks of Covers and Supers of the program's hosts: an iterator over the superdomains. Conditions: lengths are bounded; the library's tables stand. -/
import Derived.Test.YtjbciamhhfcdoaaGreatDoorSub38
import Derived.Test.YtjbciamhhfcdoaaGreatDoorRows
import Derived.Test.YtjbciamhhfcdoaaGreatDoorSub01
import Derived.Test.YtjbciamhhfcdoaaGreatDoorSub20
import Derived.Test.YtjbciamhhfcdoaaGreatDoorSub21
namespace Go.Proofs.YtjbciamhhfcdoaaGreatDoor
open Go.RowKit Hs
set_option linter.unusedSimpArgs false
set_option linter.unusedVariables false
theorem infoPinZ : (Tryz.prog.info? 23).map (fun i => (i.zero, i.size, i.bytes)) = some (some (.agg #[.string ⟨#[]⟩, .bool false, .int .i64 0]), 3, 32) := by kernel_rfl
set_option maxRecDepth 20000 in
set_option maxHeartbeats 4000000 in
theorem pt_insert0 (p : PinP) (g : Nat) (w : World) (hg : BlkL w g 23 (pcells p)) : Calls Tryz.prog 34 #[.slice none 0 0, .int .i64 0, .slice (some ⟨g, 0, none⟩) 1 1] w fun e w' => ∃ v, e = .returned v ∧ w'.ownsRow w.heap.size 23 3 v 1 (pcells p) ∧ Below w.heap.size w w' := by
  obtain ⟨iP0, iP⟩ := info_parts infoPinZ
  have hnil : w.ownsRow w.heap.size 23 3 (.slice none 0 0) 0 [] := World.ownsRow_nil _ _ _ _
  have hcell : ∀ j v, (pcells p)[j]? = some v → w.cell? ((⟨g, 0, none⟩ : Addr).add j) = some v := fun j v hj => by
    have hadd : (⟨g, 0, none⟩ : Addr).add j = ⟨g, j, none⟩ := by unfold Addr.add; split <;> simp_all
    rw [hadd]
    exact hg.c j v hj
  go_enter Tryz.func34, Tryz.ntmps34
  go_wp2_with (at_builtin; refine wpList_append_own _ rfl (.tmp 23) (.tmp 24) 45 rfl w.heap.size 23 iP0 (.agg #[.string ⟨#[]⟩, .bool false, .int .i64 0]) 3 32 Tryz.underlying45 iP.1 iP.2.1 iP.2.2.1 iP.2.2.2 rfl (by decide) _ _ _ rfl hnil ⟨g, 0, none⟩ 1 1 (pcells p) rfl rfl hcell (pc_one p) (by unfold maxLen; omega) (by omega) (by omega) ?_; intro v1 w1 hown1 hgrow1 hnil1)
  all_goals (try (exfalso; omega))
  go_ret
  exact ⟨_, rfl, hown1, (Below.refl _ w).grown hgrow1 (Nat.le_refl _) (fun k hk => by cases hk)⟩
theorem pt_len0 (t : Nat) (w : World) (ht : BlkL w t 78 [.slice none 0 0, .int .i64 1]) : Calls Tryz.prog 32 #[.pointer (some ⟨t, 0, none⟩)] w fun e w' => e = .returned (.int .i64 0) ∧ w = w' := by
  have c0 := ht.c 0 _ rfl
  go_enter Tryz.func32, Tryz.ntmps32
  go_wp2
  go_ret
  exact ⟨rfl, rfl⟩
theorem pt_cap0 (t : Nat) (w : World) (ht : BlkL w t 78 [.slice none 0 0, .int .i64 1]) : Calls Tryz.prog 33 #[.pointer (some ⟨t, 0, none⟩)] w fun e w' => e = .returned (.int .i64 1) ∧ w = w' := by
  have c0 := ht.c 1 _ rfl
  go_enter Tryz.func33, Tryz.ntmps33
  go_wp2
  go_ret
  exact ⟨rfl, rfl⟩
theorem tab1_of {w : World} {t base : Nat} {p : PinP} {a : Option Addr} {cap : Nat} (ht : BlkL w t 78 [.slice none 0 0, .int .i64 1]) (ho : w.ownsRow base 23 3 (.slice a 1 cap) 1 (pcells p)) (hb : t < base) : ∃ g, Tab1 (w.setCell ⟨t, 0, none⟩ (.slice a 1 cap)) t g p := by
  have hr := ho.2
  rcases hr with ⟨h, _⟩ | ⟨g, cap', cur, hv, hbg, hg, hn, hm, hs, htk⟩
  · cases h
  · injection hv with e1 e2 e3
    subst e1 e3
    refine ⟨g, cap, hn, hm, ht.set 0 (by simp) _, fun j v hj => ?_, ?_, by simpa using ht.lt⟩
    · have h1 := ho.cells (g := g) rfl j v hj
      have hadd : (⟨g, 0, none⟩ : Addr).add j = ⟨g, j, none⟩ := by unfold Addr.add; split <;> simp_all
      rw [hadd] at h1
      rw [World.cell?_of_block (Below.heap_setCell w ⟨t, 0, none⟩ _ g (fun e => by have : g = t := e; omega))]
      exact h1
    · have := (Array.getElem?_eq_some_iff.1 hg).1
      simpa using this
set_option maxRecDepth 20000 in
set_option maxHeartbeats 4000000 in
theorem pt_put0 (t : Nat) (p : PinP) (w : World) (hB : Base w) (ht : BlkL w t 78 [.slice none 0 0, .int .i64 1]) (hn : p.host.length ≤ 100000) (base : Nat) (hbt : base ≤ t) : Calls Tryz.prog 10 #[.pointer (some ⟨t, 0, none⟩), .agg (pcells p).toArray] w fun e w' => ((pinOk p = false ∧ e = .returned (.int .i64 1)) ∨ (pinOk p = true ∧ e = .returned (.int .i64 0) ∧ ∃ g, Tab1 w' t g p)) ∧ Below base w w' := by
  have htw := ht.lt
  obtain ⟨W0, hW0⟩ : ∃ W0, W0 = w.alloc (.cells (pcells p).toArray 23) := ⟨_, rfl⟩
  have hbA : Below w.heap.size w W0 := by rw [hW0]; exact (Below.refl _ w).alloc (Nat.le_refl _) _
  have hb0 : BlkL W0 w.heap.size 23 (pcells p) := by rw [hW0]; exact BlkL.new w _ _
  have HW0 : Hid (w.alloc (.cells (pcells p).toArray 23) = W0) := Lib.hid hW0.symm
  have hsz : W0.heap.size = w.heap.size + 1 := by rw [hW0]; simp
  have ht0 := ht.below htw hbA
  have hv := pin_valid p W0 (hB.below hbA) hn
  obtain ⟨ok, hok⟩ : ∃ ok, ok = pinOk p := ⟨_, rfl⟩
  rw [← hok] at hv ⊢
  have HV := Lib.hid hv
  have HB0 := Lib.hid hb0
  have HBA := Lib.hid (hbA.mono (show base ≤ w.heap.size by omega))
  have HT0 := Lib.hid ht0
  clear hW0 hbA hv hok hb0 ht0 ht
  go_enter Tryz.func10, Tryz.ntmps10
  go_upto_region 1 with fail
  rw [HW0.out]
  clear HW0
  go_wp2_with (refine wpList_load_row rfl 23 (.tmp 3) rfl w.heap.size rfl 23 _ _ _ HB0.out Tryz.underlying23 rfl infoPin ?_)
  refine HV.out.mono ?_; rintro e w1 ⟨rfl, hb1⟩
  have hs1 := hb1.size
  have hb2 := HB0.out.below (by omega) hb1
  have ht2 := HT0.out.below (by omega) hb1
  have HA1 := Lib.hid (HBA.out.trans (hb1.mono (by omega)))
  clear hb1 HV HB0 HT0 HBA
  cases ok
  · go_wp2
    go_ret
    first
      | exact ⟨.inl ⟨rfl, rfl⟩, HA1.out⟩
      | exact ⟨rfl, HA1.out⟩
  · have c0 := hb2.c 0 _ rfl
    have HF := Lib.hid (pt_find0 t p.host w1 ht2 hn)
    go_wp2_with fail
    refine HF.out.mono ?_; rintro e w2 ⟨rfl, hb3⟩
    have hs3 := hb3.size
    have hb4 := hb2.below (by omega) hb3
    have ht4 := ht2.below (by omega) hb3
    have HA3 := Lib.hid (HA1.out.trans (hb3.mono (by omega)))
    have HL := Lib.hid (pt_len0 t w2 ht4)
    have HC := Lib.hid (pt_cap0 t w2 ht4)
    clear hb3 HF hb2 ht2 HA1 c0
    go_wp2_with fail
    refine HL.out.mono ?_; rintro e w3 ⟨rfl, rfl⟩
    go_wp2_with fail
    refine HC.out.mono ?_; rintro e w3 ⟨rfl, rfl⟩
    have c0 := hb4.c 0 _ rfl
    have c1 := hb4.c 1 _ rfl
    have c2 := hb4.c 2 _ rfl
    have t0 := ht4.c 0 _ rfl
    have f0 := ht4.f 0
    go_upto_region 4 with fail
    all_goals (try (exfalso; omega))
    have t0a := (ht4.alloc (.cells #[.string (mk p.host), .bool p.sub, .int .i64 p.expiry] 23)).c 0 _ rfl
    have HINS := Lib.hid (fun g W h => pt_insert0 p g W h)
    go_region_with (go_at_call 34; refine (HINS.out _ _ ?_).mono ?_; exact BlkL.new _ _ _; rintro e w5 ⟨v5, rfl, hown5, hb5⟩; obtain ⟨a5, cap5, rfl⟩ := own_slice hown5; have hs5 := hb5.size; have ht5 := (ht4.drew.alloc (.cells #[.string (mk p.host), .bool p.sub, .int .i64 p.expiry] 23)).below (by simp; omega) hb5; have t5 := ht5.c 0 _ rfl; have f5 := ht5.f 0; have HT5 := Lib.hid ht5; have HB5 := Lib.hid hb5; have HO5 := Lib.hid hown5; clear ht5 hb5 hown5)
    all_goals
      go_wp2
      go_ret
      have hbs : base ≤ (w2.alloc (.cells #[.string (mk p.host), .bool p.sub, .int .i64 p.expiry] 23)).heap.size := by simp; omega
      have hts : t < (w2.alloc (.cells #[.string (mk p.host), .bool p.sub, .int .i64 p.expiry] 23)).heap.size := by simp; omega
      have hA6 : Below base w (w2.alloc (.cells #[.string (mk p.host), .bool p.sub, .int .i64 p.expiry] 23)).drew := below_drewN (HA3.out.alloc (by omega) _) 1
      have hA7 := (hA6.trans (HB5.out.mono hbs)).trans (below_setC w5 t 0 (.slice a5 1 cap5) hbt)
      have htab := tab1_of HT5.out HO5.out hts
      first
        | exact ⟨.inr ⟨rfl, rfl, htab⟩, hA7⟩
        | exact ⟨⟨rfl, htab⟩, hA7⟩
end Go.Proofs.YtjbciamhhfcdoaaGreatDoor
namespace Go.Proofs.YtjbciamhhfcdoaaGreatDoor
open Go.RowKit Hs
set_option linter.unusedSimpArgs false
set_option linter.unusedVariables false
theorem Tab1.below {w w' : World} {t g b : Nat} {p : PinP} (h : Tab1 w t g p) (hb : Below b w w') (ht : t < b) (hg : g < b) : Tab1 w' t g p := by
  obtain ⟨cap, h1, h2, h3, h4, h5, h6⟩ := h
  have hs := hb.size
  exact ⟨cap, h1, h2, h3.below ht hb, fun j v hj => (hb.cell (p := ⟨g, j, none⟩) hg).trans (h4 j v hj), by omega, by omega⟩
set_option maxRecDepth 20000 in
set_option maxHeartbeats 4000000 in
theorem pt_find1 (t g : Nat) (p : PinP) (x : Bs) (w : World) (ht : Tab1 w t g p) (hn : p.host.length ≤ 100000) (hx : x.length ≤ 100000) : Calls Tryz.prog 31 #[.pointer (some ⟨t, 0, none⟩), .string (mk x)] w fun e w' => (∃ i : Nat, e = .returned (.tuple #[.int .i64 (i : Int), .bool (decide (p.host = x))]) ∧ i ≤ 1 ∧ (p.host = x → i = 0)) ∧ Below w.heap.size w w' := by
  obtain ⟨cap, h1, h2, h3, h4, h5, h6⟩ := ht
  have c0 := h3.c 0 _ rfl
  have HS := Lib.hid (pt_search1 p g cap x w h5 h4 hn hx)
  obtain ⟨d, hd⟩ : ∃ d, d = decide (p.host = x) := ⟨_, rfl⟩
  simp only [← hd] at HS ⊢
  clear h3 h4 hd
  unfold maxLen at h2
  go_enter Tryz.func31, Tryz.ntmps31
  go_wp2_with fail
  refine HS.out.mono ?_; rintro e w1 ⟨⟨i, rfl, hi, hi2⟩, hb1⟩
  have HI := Lib.hid hi2
  clear hi2
  go_wp2
  go_ret2
  exact ⟨⟨i, rfl, hi, HI.out⟩, hb1⟩
set_option maxRecDepth 20000 in
set_option maxHeartbeats 4000000 in
theorem pt_get1 (t g : Nat) (p : PinP) (x : Bs) (w : World) (ht : Tab1 w t g p) (hn : p.host.length ≤ 100000) (hx : x.length ≤ 100000) : Calls Tryz.prog 115 #[.pointer (some ⟨t, 0, none⟩), .string (mk x)] w fun e w' => e = .returned (.tuple #[.agg (pcells (if p.host = x then p else ⟨[], false, 0⟩)).toArray, .bool (decide (p.host = x))]) ∧ Below w.heap.size w w' := by
  have htw := ht
  obtain ⟨_, _, _, _, _, hg5, ht6⟩ := htw
  obtain ⟨W0, hW0⟩ : ∃ W0, W0 = w.alloc (.cells #[.string ⟨#[]⟩, .bool false, .int .i64 0] 23) := ⟨_, rfl⟩
  have hbA : Below w.heap.size w W0 := by rw [hW0]; exact (Below.refl _ w).alloc (Nat.le_refl _) _
  have hb0 : BlkL W0 w.heap.size 23 (pcells ⟨[], false, 0⟩) := by rw [hW0]; exact BlkL.new w _ _
  have hsz : W0.heap.size = w.heap.size + 1 := by rw [hW0]; simp
  have HW0 := Lib.hid hW0.symm
  have ht0 := ht.below hbA ht6 hg5
  have HF := Lib.hid (pt_find1 t g p x W0 ht0 hn hx)
  have HB0 := Lib.hid hb0
  have HBA := Lib.hid hbA
  have HT0 := Lib.hid ht0
  clear hW0 hbA hb0 ht0 ht
  go_enter Tryz.func115, Tryz.ntmps115
  go_upto_region 1 with fail
  rw [HW0.out]
  clear HW0
  go_wp2_with fail
  refine HF.out.mono ?_; rintro e w1 ⟨⟨i, rfl, hi, hi2⟩, hb1⟩
  have HB1 := Lib.hid (HB0.out.below (by omega) hb1)
  have HA1 := Lib.hid (HBA.out.trans (hb1.mono (by omega)))
  have ht1 := HT0.out.below hb1 (by omega) (by omega)
  clear hb1 HF HB0 HBA HT0
  by_cases he : p.host = x
  · obtain rfl := hi2 he
    rw [decide_eq_true he]
    have HE := Lib.hid he
    obtain ⟨cap, h1, h2, h3, h4, h5, h6⟩ := ht1
    unfold maxLen at h2
    have c0 := h3.c 0 _ rfl
    have d0 := h4 0 _ rfl
    have d1 := h4 1 _ rfl
    have d2 := h4 2 _ rfl
    clear h3 h4 he hi2 hi
    go_wp2_with (refine wpList_store_row rfl 23 (.tmp 4) (.tmp 23) rfl w.heap.size (pcells p).toArray rfl rfl 23 _ HB1.out infoPin rfl (all_one_of (pc_one _)) ?_)
    all_goals (try (exfalso; omega))
    refine bodyPost_ret (results_ct rfl _ _ w.heap.size 23 _ _ rfl (HB1.out.setRow (pcells p)) Tryz.underlying23 rfl infoPin) rfl ?_
    exact ⟨rfl, below_setRow HA1.out (Nat.le_refl _) _⟩
  · rw [decide_eq_false he]
    have HE := Lib.hid he
    clear he hi2 hi
    go_wp2_with (refine wpList_store_row rfl 23 (.tmp 4) (.tmp 16) rfl w.heap.size (pcells ⟨[], false, 0⟩).toArray rfl rfl 23 _ HB1.out infoPin rfl (all_one_of (pc_one _)) ?_)
    all_goals (try (exfalso; omega))
    refine bodyPost_ret (results_ct rfl _ _ w.heap.size 23 _ _ rfl (HB1.out.setRow (pcells ⟨[], false, 0⟩)) Tryz.underlying23 rfl infoPin) rfl ?_
    exact ⟨rfl, below_setRow HA1.out (Nat.le_refl _) _⟩
end Go.Proofs.YtjbciamhhfcdoaaGreatDoor
namespace Go.Proofs.YtjbciamhhfcdoaaGreatDoor
open Go.RowKit Hs
set_option linter.unusedSimpArgs false
set_option linter.unusedVariables false
theorem s_expired (a b : Int) (w : World) : Calls Tryz.prog 116 #[.int .i64 a, .int .i64 b] w fun e w' => e = .returned (.bool (decide (a ≤ b))) ∧ w = w' := by
  go_enter Tryz.func116, Tryz.ntmps116
  go_wp2
  go_ret
  exact ⟨rfl, rfl⟩
end Go.Proofs.YtjbciamhhfcdoaaGreatDoor
namespace Go.Proofs.YtjbciamhhfcdoaaGreatDoor
open Go.RowKit Hs
set_option linter.unusedSimpArgs false
set_option linter.unusedVariables false
def ecells (e : EntP) : List Value := [.string (mk e.host), .bool e.sub]
def vcells (c : CovP) : List Value := [.int .i64 (c.source : Int), .string (mk c.name), .bool c.exact]
theorem infoEnt : (Tryz.prog.info? 87).map (·.size) = some 2 := by kernel_rfl
theorem infoCov : (Tryz.prog.info? 67).map (·.size) = some 3 := by kernel_rfl
theorem ec_one (p : EntP) : ∀ v ∈ ecells p, v.oneCell' = true := by
  intro v hv
  simp [ecells] at hv
  rcases hv with rfl | rfl <;> rfl
theorem vc_one (p : CovP) : ∀ v ∈ vcells p, v.oneCell' = true := by
  intro v hv
  simp [vcells] at hv
  rcases hv with rfl | rfl | rfl <;> rfl
set_option maxRecDepth 20000 in
set_option maxHeartbeats 4000000 in
theorem pl_get_nil (x : Bs) (w : World) : Calls Tryz.prog 117 #[.pointer none, .string (mk x)] w fun e w' => e = .returned (.tuple #[.agg #[.string ⟨#[]⟩, .bool false], .bool false]) ∧ Below w.heap.size w w' := by
  obtain ⟨W0, hW0⟩ : ∃ W0, W0 = w.alloc (.cells #[.string ⟨#[]⟩, .bool false] 87) := ⟨_, rfl⟩
  have hbA : Below w.heap.size w W0 := by rw [hW0]; exact (Below.refl _ w).alloc (Nat.le_refl _) _
  have hb0 : BlkL W0 w.heap.size 87 (ecells ⟨[], false⟩) := by rw [hW0]; exact BlkL.new w _ _
  have HW0 := Lib.hid hW0.symm
  have HB0 := Lib.hid hb0
  have HBA := Lib.hid hbA
  clear hW0 hbA hb0
  go_enter Tryz.func117, Tryz.ntmps117
  go_upto_region 1 with fail
  rw [HW0.out]
  clear HW0
  go_wp2_with (refine wpList_store_row rfl 87 (.tmp 4) (.tmp 10) rfl w.heap.size (ecells ⟨[], false⟩).toArray rfl rfl 87 _ HB0.out infoEnt rfl (all_one_of (ec_one _)) ?_)
  all_goals (try (exfalso; omega))
  refine bodyPost_ret (results_ct rfl _ _ w.heap.size 87 _ _ rfl (HB0.out.setRow (ecells ⟨[], false⟩)) Tryz.underlying87 rfl infoEnt) rfl ?_
  exact ⟨rfl, below_setRow HBA.out (Nat.le_refl _) _⟩
/-- The table that a pointer denotes: none, or one pin. -/
def TabV (w : World) (v : Value) (T : List PinP) : Prop := (v = .pointer none ∧ T = []) ∨ (∃ t g p, v = .pointer (some ⟨t, 0, none⟩) ∧ T = [p] ∧ p.host.length ≤ 100000 ∧ Tab1 w t g p)
theorem TabV.below {w w' : World} {v : Value} {T : List PinP} (h : TabV w v T) (hb : Below w.heap.size w w') : TabV w' v T := by
  rcases h with h | ⟨t, g, p, h1, h2, h3, h4⟩
  · exact .inl h
  · have h5 := h4
    obtain ⟨_, _, _, _, _, hg, ht⟩ := h5
    exact .inr ⟨t, g, p, h1, h2, h3, h4.below hb ht hg⟩
/-- Get of a table: the pin, and whether there is one. -/
def getP (T : List PinP) (x : Bs) : PinP × Bool := match T.find? (fun p => decide (p.host = x)) with
  | some p => (p, true)
  | none => (⟨[], false, 0⟩, false)
theorem pt_get (v : Value) (T : List PinP) (x : Bs) (w : World) (ht : TabV w v T) (hx : x.length ≤ 100000) : Calls Tryz.prog 115 #[v, .string (mk x)] w fun e w' => e = .returned (.tuple #[.agg (pcells (getP T x).1).toArray, .bool (getP T x).2]) ∧ Below w.heap.size w w' := by
  rcases ht with ⟨rfl, rfl⟩ | ⟨t, g, p, rfl, rfl, hn, h4⟩
  · exact pt_get_nil x w
  · have h := pt_get1 t g p x w h4 hn hx
    refine h.mono ?_
    rintro e w' ⟨rfl, hb⟩
    refine ⟨?_, hb⟩
    unfold getP
    by_cases hp : p.host = x
    · rw [List.find?_cons_of_pos (by simpa using hp), if_pos hp, decide_eq_true hp]
    · rw [List.find?_cons_of_neg (by simpa using hp), if_neg hp, decide_eq_false hp]
      rfl
theorem covAt_nil (now : Int) (T : List PinP) (x : Bs) (exact : Bool) : covAt now T [] x exact = if ((getP T x).2 && (!(decide ((getP T x).1.expiry ≤ now)) && (exact || (getP T x).1.sub))) = true then some ⟨1, x, exact⟩ else none := by
  unfold covAt getP covAt.covL
  cases T.find? (fun p => decide (p.host = x)) with
  | none => simp
  | some p => simp
set_option maxRecDepth 20000 in
set_option maxHeartbeats 4000000 in
theorem cov_at (now : Int) (v : Value) (T : List PinP) (x : Bs) (exact : Bool) (w : World) (ht : TabV w v T) (hx : x.length ≤ 100000) : Calls Tryz.prog 74 #[.int .i64 now, v, .pointer none, .string (mk x), .bool exact] w fun e w' => e = .returned (.tuple #[.agg (vcells ((covAt now T [] x exact).getD cov0)).toArray, .bool (covAt now T [] x exact).isSome]) ∧ Below w.heap.size w w' := by
  obtain ⟨W0, hW0⟩ : ∃ W0, W0 = w.alloc (.cells #[.int .i64 0, .string ⟨#[]⟩, .bool false] 67) := ⟨_, rfl⟩
  have hbA : Below w.heap.size w W0 := by rw [hW0]; exact (Below.refl _ w).alloc (Nat.le_refl _) _
  have hr0 : BlkL W0 w.heap.size 67 (vcells cov0) := by rw [hW0]; exact BlkL.new w _ _
  have hsz : W0.heap.size = w.heap.size + 1 := by rw [hW0]; simp
  have HW0 := Lib.hid hW0.symm
  have HG := Lib.hid (pt_get v T x W0 (ht.below hbA) hx)
  have hdef := covAt_nil now T x exact
  obtain ⟨⟨p, ok⟩, hp⟩ : ∃ p, p = getP T x := ⟨_, rfl⟩
  rw [← hp] at HG hdef
  simp only at HG hdef
  have HDEF := Lib.hid hdef
  have HR0 := Lib.hid hr0
  have HBA := Lib.hid hbA
  clear hW0 hbA hr0 hp hdef ht
  go_enter Tryz.func74, Tryz.ntmps74
  go_upto_region 1 with fail
  rw [HW0.out]
  clear HW0
  go_wp2_with fail
  refine HG.out.mono ?_; rintro e w1 ⟨rfl, hb1⟩
  have hs1 := hb1.size
  have HR1 := Lib.hid (HR0.out.below (by omega) hb1)
  have HA1 := Lib.hid (HBA.out.trans (hb1.mono (by omega)))
  clear hb1 HG HR0 HBA
  have HN := Lib.hid (heap_alloc_new w1 (.cells (pcells ⟨[], false, 0⟩).toArray 23))
  have hY := (BlkL.new w1 23 (pcells ⟨[], false, 0⟩)).setRow (pcells p)
  have hR2 := (HR1.out.alloc (.cells (pcells ⟨[], false, 0⟩).toArray 23)).setRow_other (show w.heap.size ≠ w1.heap.size by omega) (pcells p).toArray
  have hA2 := below_setRow (HA1.out.alloc (by omega) (.cells (pcells ⟨[], false, 0⟩).toArray 23)) (show w.heap.size ≤ w1.heap.size by omega) (pcells p).toArray
  obtain ⟨W2, hW2⟩ : ∃ W2, W2 = (w1.alloc (.cells (pcells ⟨[], false, 0⟩).toArray 23)).setRow w1.heap.size (pcells p).toArray := ⟨_, rfl⟩
  rw [← hW2] at hY hR2 hA2
  have hs2 : W2.heap.size = w1.heap.size + 1 := by rw [hW2]; simp [World.setRow]
  have HW2 : Hid ((w1.alloc (.cells #[.string ⟨#[]⟩, .bool false, .int .i64 0] 23)).setRow w1.heap.size (pcells p).toArray = W2) := Lib.hid hW2.symm
  clear hW2
  have c1 := hY.c 1 _ rfl
  have c2 := hY.c 2 _ rfl
  go_upto_region 2 with (refine wpList_store_row rfl 23 (.tmp 12) (.tmp 20) rfl w1.heap.size (pcells p).toArray rfl rfl 23 _ HN.out infoPin rfl (all_one_of (pc_one _)) ?_)
  all_goals (try (exfalso; omega))
  rw [HW2.out]
  clear HW2 HN
  obtain ⟨ph, ps, pe⟩ := p
  have hex := fun W => s_expired pe now W
  simp only at HDEF c1 c2
  obtain ⟨E, hE⟩ : ∃ E, E = decide (pe ≤ now) := ⟨_, rfl⟩
  rw [← hE] at HDEF
  simp only [← hE] at hex
  have HEX := Lib.hid hex
  have HPG := Lib.hid (fun W => pl_get_nil x W)
  clear hex hE
  cases ok
  · have hfin : Hid (covAt now T [] x exact = none) := Lib.hid (by rw [HDEF.out]; rfl)
    go_wp2_with fail
    all_goals (try (exfalso; omega))
    refine (HPG.out _).mono ?_; rintro e w9 ⟨rfl, hb9⟩
    have hs9 := hb9.size
    have HR9 := Lib.hid (hR2.below (by omega) hb9)
    have HA9 := Lib.hid (hA2.trans (hb9.mono (by omega)))
    have HN9 := Lib.hid (heap_alloc_new w9 (.cells (ecells ⟨[], false⟩).toArray 87))
    have hY9 := (BlkL.new w9 87 (ecells ⟨[], false⟩)).setRow (ecells ⟨[], false⟩)
    have HR10 := Lib.hid ((HR9.out.alloc (.cells (ecells ⟨[], false⟩).toArray 87)).setRow_other (show w.heap.size ≠ w9.heap.size by omega) (ecells ⟨[], false⟩).toArray)
    have HA10 := Lib.hid (below_setRow (HA9.out.alloc (by omega) (.cells (ecells ⟨[], false⟩).toArray 87)) (show w.heap.size ≤ w9.heap.size by omega) (ecells ⟨[], false⟩).toArray)
    clear hb9
    go_wp2_with (first
      | refine wpList_store_row rfl 87 (.tmp 14) (.tmp 44) rfl w9.heap.size (ecells ⟨[], false⟩).toArray rfl rfl 87 _ HN9.out infoEnt rfl (all_one_of (ec_one _)) ?_
      | refine wpList_store_row rfl 67 (.tmp 10) (.tmp 57) rfl w.heap.size (vcells cov0).toArray rfl rfl 67 _ HR10.out infoCov rfl (all_one_of (vc_one _)) ?_)
    all_goals (try (exfalso; omega))
    refine bodyPost_ret (results_ct rfl _ _ w.heap.size 67 _ _ rfl (HR10.out.setRow (vcells cov0)) Tryz.underlying67 rfl infoCov) rfl ?_
    rw [hfin.out]
    exact ⟨rfl, below_setRow HA10.out (Nat.le_refl _) _⟩
  · cases E
    · cases exact
      · cases ps
        · go_wp2_with fail
          all_goals (try (exfalso; omega))
          refine (HEX.out _).mono ?_; rintro e w8 ⟨rfl, rfl⟩
          have hfin : Hid (covAt now T [] x false = none) := Lib.hid (by rw [HDEF.out]; rfl)
          go_wp2_with fail
          all_goals (try (exfalso; omega))
          refine (HPG.out _).mono ?_; rintro e w9 ⟨rfl, hb9⟩
          have hs9 := hb9.size
          have HR9 := Lib.hid (hR2.below (by omega) hb9)
          have HA9 := Lib.hid (hA2.trans (hb9.mono (by omega)))
          have HN9 := Lib.hid (heap_alloc_new w9 (.cells (ecells ⟨[], false⟩).toArray 87))
          have hY9 := (BlkL.new w9 87 (ecells ⟨[], false⟩)).setRow (ecells ⟨[], false⟩)
          have HR10 := Lib.hid ((HR9.out.alloc (.cells (ecells ⟨[], false⟩).toArray 87)).setRow_other (show w.heap.size ≠ w9.heap.size by omega) (ecells ⟨[], false⟩).toArray)
          have HA10 := Lib.hid (below_setRow (HA9.out.alloc (by omega) (.cells (ecells ⟨[], false⟩).toArray 87)) (show w.heap.size ≤ w9.heap.size by omega) (ecells ⟨[], false⟩).toArray)
          clear hb9
          go_wp2_with (first
            | refine wpList_store_row rfl 87 (.tmp 14) (.tmp 44) rfl w9.heap.size (ecells ⟨[], false⟩).toArray rfl rfl 87 _ HN9.out infoEnt rfl (all_one_of (ec_one _)) ?_
            | refine wpList_store_row rfl 67 (.tmp 10) (.tmp 57) rfl w.heap.size (vcells cov0).toArray rfl rfl 67 _ HR10.out infoCov rfl (all_one_of (vc_one _)) ?_)
          all_goals (try (exfalso; omega))
          refine bodyPost_ret (results_ct rfl _ _ w.heap.size 67 _ _ rfl (HR10.out.setRow (vcells cov0)) Tryz.underlying67 rfl infoCov) rfl ?_
          rw [hfin.out]
          exact ⟨rfl, below_setRow HA10.out (Nat.le_refl _) _⟩
        · go_wp2_with fail
          all_goals (try (exfalso; omega))
          refine (HEX.out _).mono ?_; rintro e w8 ⟨rfl, rfl⟩
          have hfin : Hid (covAt now T [] x false = some ⟨1, x, false⟩) := Lib.hid (by rw [HDEF.out]; rfl)
          have HR9 := Lib.hid hR2
          go_wp2_with (first
            | refine wpList_store_row rfl 67 (.tmp 10) (.tmp 39) rfl w.heap.size (vcells ⟨1, x, false⟩).toArray rfl rfl 67 _ HR9.out infoCov rfl (all_one_of (vc_one _)) ?_)
          all_goals (try (exfalso; omega))
          refine bodyPost_ret (results_ct rfl _ _ w.heap.size 67 _ _ rfl (HR9.out.setRow (vcells ⟨1, x, false⟩)) Tryz.underlying67 rfl infoCov) rfl ?_
          rw [hfin.out]
          exact ⟨rfl, below_setRow hA2 (Nat.le_refl _) _⟩
      · go_wp2_with fail
        all_goals (try (exfalso; omega))
        refine (HEX.out _).mono ?_; rintro e w8 ⟨rfl, rfl⟩
        have hfin : Hid (covAt now T [] x true = some ⟨1, x, true⟩) := Lib.hid (by rw [HDEF.out]; rfl)
        have HR9 := Lib.hid hR2
        go_wp2_with (first
          | refine wpList_store_row rfl 67 (.tmp 10) (.tmp 39) rfl w.heap.size (vcells ⟨1, x, true⟩).toArray rfl rfl 67 _ HR9.out infoCov rfl (all_one_of (vc_one _)) ?_)
        all_goals (try (exfalso; omega))
        refine bodyPost_ret (results_ct rfl _ _ w.heap.size 67 _ _ rfl (HR9.out.setRow (vcells ⟨1, x, true⟩)) Tryz.underlying67 rfl infoCov) rfl ?_
        rw [hfin.out]
        exact ⟨rfl, below_setRow hA2 (Nat.le_refl _) _⟩
    · go_wp2_with fail
      all_goals (try (exfalso; omega))
      refine (HEX.out _).mono ?_; rintro e w8 ⟨rfl, rfl⟩
      have hfin : Hid (covAt now T [] x exact = none) := Lib.hid (by rw [HDEF.out]; rfl)
      go_wp2_with fail
      all_goals (try (exfalso; omega))
      refine (HPG.out _).mono ?_; rintro e w9 ⟨rfl, hb9⟩
      have hs9 := hb9.size
      have HR9 := Lib.hid (hR2.below (by omega) hb9)
      have HA9 := Lib.hid (hA2.trans (hb9.mono (by omega)))
      have HN9 := Lib.hid (heap_alloc_new w9 (.cells (ecells ⟨[], false⟩).toArray 87))
      have hY9 := (BlkL.new w9 87 (ecells ⟨[], false⟩)).setRow (ecells ⟨[], false⟩)
      have HR10 := Lib.hid ((HR9.out.alloc (.cells (ecells ⟨[], false⟩).toArray 87)).setRow_other (show w.heap.size ≠ w9.heap.size by omega) (ecells ⟨[], false⟩).toArray)
      have HA10 := Lib.hid (below_setRow (HA9.out.alloc (by omega) (.cells (ecells ⟨[], false⟩).toArray 87)) (show w.heap.size ≤ w9.heap.size by omega) (ecells ⟨[], false⟩).toArray)
      clear hb9
      go_wp2_with (first
        | refine wpList_store_row rfl 87 (.tmp 14) (.tmp 44) rfl w9.heap.size (ecells ⟨[], false⟩).toArray rfl rfl 87 _ HN9.out infoEnt rfl (all_one_of (ec_one _)) ?_
        | refine wpList_store_row rfl 67 (.tmp 10) (.tmp 57) rfl w.heap.size (vcells cov0).toArray rfl rfl 67 _ HR10.out infoCov rfl (all_one_of (vc_one _)) ?_)
      all_goals (try (exfalso; omega))
      refine bodyPost_ret (results_ct rfl _ _ w.heap.size 67 _ _ rfl (HR10.out.setRow (vcells cov0)) Tryz.underlying67 rfl infoCov) rfl ?_
      rw [hfin.out]
      exact ⟨rfl, below_setRow HA10.out (Nat.le_refl _) _⟩
end Go.Proofs.YtjbciamhhfcdoaaGreatDoor
namespace Hs
open Go
/-- What Supers yields. -/
def supV (l : Bs) : List Bs := if nameV l = true then supers l else []
theorem cutC_at (c : UInt8) (a r : Bs) (h : ∀ b ∈ a, b ≠ c) : cutC c (a ++ c :: r) = (a, r, true) := by
  unfold cutC
  rw [index_at c r a h, if_neg (by omega)]
  have e1 : (a ++ c :: r).take ((a.length : Int)).toNat = a := List.take_left
  have e2 : (a ++ c :: r).drop ((a.length : Int).toNat + 1) = r := by rw [List.drop_append]; simp
  rw [e1, e2]
theorem cutC_no (c : UInt8) (a : Bs) (h : ∀ b ∈ a, b ≠ c) : cutC c a = (a, [], false) := by
  unfold cutC
  rw [index_no c a h, if_pos (by omega)]
theorem hasSuffix_sup (s n : Bs) : Lib.hasSuffix n (46 :: s) = decide (s ∈ supers n) := by
  unfold Lib.hasSuffix
  rw [Bool.eq_iff_iff, decide_eq_true_eq, List.isSuffixOf_iff_suffix, mem_supers]
end Hs
namespace Go.Proofs.YtjbciamhhfcdoaaGreatDoor
open Go.RowKit Go.Shelf Hs
set_option linter.unusedSimpArgs false
set_option linter.unusedVariables false
set_option maxRecDepth 20000 in
set_option maxHeartbeats 4000000 in
theorem h_covers (s n : ByteArray) (w : World) (hB : Base w) (hs : s.size ≤ 100000) (hn : n.size ≤ 100000) : Calls Tryz.prog 140 #[.string s, .string n] w fun e w' => e = .returned (.bool (coversV (un s) (un n))) ∧ Below w.heap.size w w' := by
  have hdef : coversV (un s) (un n) = (nameV (un s) && nameV (un n) && (decide (un s = un n) || decide (un s ∈ supers (un n)))) := rfl
  have HS := Lib.hid (h_validName s w hB hs)
  have HN := Lib.hid (fun W hb => h_validName n W hb hn)
  have hq : (s.toList == n.toList) = decide (un s = un n) := by
    rw [toList_un, toList_un]
    by_cases h : un s = un n <;> simp [h]
  have hsf := fun W => Tryz.strings_HasSuffix n (⟨#[46]⟩ ++ s) W (by omega)
  have e2 : Lib.hasSuffix n.data.toList ((⟨#[46]⟩ : ByteArray) ++ s).data.toList = decide (un s ∈ supers (un n)) := by
    rw [← hasSuffix_sup]
    show Lib.hasSuffix (un n) (un (⟨#[46]⟩ ++ s)) = _
    rw [un_append]
    rfl
  rw [e2] at hsf
  have HSF := Lib.hid hsf
  obtain ⟨a, ha⟩ : ∃ a, a = nameV (un s) := ⟨_, rfl⟩
  obtain ⟨b, hb⟩ : ∃ b, b = nameV (un n) := ⟨_, rfl⟩
  obtain ⟨c, hc⟩ : ∃ c, c = decide (un s = un n) := ⟨_, rfl⟩
  obtain ⟨d, hd⟩ : ∃ d, d = decide (un s ∈ supers (un n)) := ⟨_, rfl⟩
  rw [← ha, ← hb, ← hc, ← hd] at hdef
  rw [← ha] at HS
  simp only [← hb] at HN
  rw [← hc] at hq
  simp only [← hd] at HSF
  have HDEF := Lib.hid hdef
  have HBB := Lib.hid hB
  clear ha hb hc hd hdef e2 hsf hB
  go_enter Tryz.func140, Tryz.ntmps140
  go_wp2_with fail
  refine HS.out.mono ?_; rintro e w1 ⟨rfl, hb1⟩
  have HB1 := Lib.hid hb1
  clear hb1 HS
  cases a
  · go_wp2
    all_goals (try (exfalso; omega))
    go_ret
    rw [HDEF.out]
    exact ⟨rfl, HB1.out⟩
  · go_wp2_with fail
    all_goals (try (exfalso; omega))
    refine (HN.out _ (HBB.out.below HB1.out)).mono ?_; rintro e w2 ⟨rfl, hb2⟩
    have HB2 := Lib.hid (HB1.out.trans (hb2.mono HB1.out.size))
    clear hb2 HN
    cases b
    · go_wp2
      all_goals (try (exfalso; omega))
      go_ret
      rw [HDEF.out]
      exact ⟨rfl, HB2.out⟩
    · cases c
      · go_wp2_with fail
        all_goals (try (exfalso; omega))
        refine (HSF.out _).mono ?_; rintro e w3 ⟨rfl, rfl⟩
        go_wp2
        all_goals (try (exfalso; omega))
        go_ret
        rw [HDEF.out]
        exact ⟨rfl, HB2.out⟩
      · go_wp2
        all_goals (try (exfalso; omega))
        go_ret
        rw [HDEF.out]
        exact ⟨rfl, HB2.out⟩
theorem f_supers (s : ByteArray) (w : World) : Calls Tryz.prog 75 #[.string s] w fun e w' => e = .returned (.func (.func 118) #[] #[.pointer (some ⟨w.heap.size, 0, none⟩)]) ∧ w' = w.alloc (.cells #[.string s] 9) := by
  go_enter Tryz.func75, Tryz.ntmps75
  go_wp2
  go_ret
  exact ⟨rfl, rfl⟩
end Go.Proofs.YtjbciamhhfcdoaaGreatDoor
