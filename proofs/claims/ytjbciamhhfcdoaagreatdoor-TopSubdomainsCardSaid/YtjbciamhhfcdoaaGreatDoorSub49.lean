/- The walk of Build of the layer context at one frame, a secure page without policies. Conditions: the library's tables stand.
   Plain examples of the layer mixed: a script is blocked, an image upgraded. No program in sight. Conditions: none.
   The walk of the law's own example: a script in a secure page is blocked, an image upgraded. Conditions: the library's tables stand.
   The walk of digit of the reference of ipv4. Conditions: none. -/
import Derived.Test.YtjbciamhhfcdoaaGreatDoorSub47
import Derived.Test.YtjbciamhhfcdoaaGreatDoorSub48
import Derived.Test.YtjbciamhhfcdoaaGreatDoorSub21
import Derived.Test.YtjbciamhhfcdoaaGreatDoorSub30
import Derived.Test.YtjbciamhhfcdoaaGreatDoorSub20
import Derived.Test.YtjbciamhhfcdoaaGreatDoorSub16
namespace Hs
open Go
def bB : Bs := [98, 46, 99, 111, 109]
def bPage : Bs := [104, 116, 116, 112, 115, 58, 47, 47, 98, 46, 99, 111, 109, 47]
theorem name_b : nameV bB = true := by decide
theorem url_page : urlV bPage = some (domU bHttps bB) := by
  unfold urlV
  rw [if_neg (by decide)]
  exact parse_domain bHttps name_b (by decide) (by decide) (by decide) (by decide)
theorem trust_page : trustV (domU bHttps bB) = true := by
  unfold trustV
  rw [https_valid name_b]
  rfl
theorem okT_page : okT bPage := by unfold okT; decide
theorem text_page : textU (domU bHttps bB) = bPage := textU_dom bHttps name_b (by decide)
end Hs
namespace Go.Proofs.YtjbciamhhfcdoaaGreatDoor
open Go.RowKit Hs
set_option linter.unusedSimpArgs false
set_option linter.unusedVariables false
theorem domU_w (s n : Bs) : HostW (domU s n).host := ⟨rfl, (by decide : ∀ x ∈ zer8, x < 65536), (by decide : (0 : Nat) < 4294967296)⟩
theorem domU_b (s n : Bs) (hs : s.length ≤ 20000) (hn : n.length ≤ 20000) : UrlB (domU s n) := ⟨hs, by simp [domU], hn, by simp [domU], .inl rfl⟩
theorem csp_nil (w : World) : Calls Tryz.prog 46 #[.slice none 0 0] w fun e w' => ∃ a c, e = .returned (.tuple #[.agg #[.bool false, .bool false, .slice a 0 c], .int .i64 0]) ∧ Below w.heap.size w w' := by
  refine (csp_merge (.slice none 0 0) [] w ⟨rfl, none, 0, rfl, Nat.le_refl _, by simp [maxLen], .inl rfl⟩ (by simp) (by simp)).mono ?_
  rintro e w' ⟨u, rfl, ho, hb⟩
  obtain ⟨a, c, rfl⟩ := own_slice ho
  exact ⟨a, c, rfl, hb⟩
set_option maxRecDepth 20000 in
set_option maxHeartbeats 8000000 in
theorem c_build (g cap : Nat) (w : World) (hB : Base6 w) (h0 : w.cell? ⟨g, 0, none⟩ = some (.string (mk bPage))) (h1 : w.cell? ⟨g, 1, none⟩ = some (.slice none 0 0)) (hg : g < w.heap.size) :
    Calls Tryz.prog 18 #[.slice (some ⟨g, 0, none⟩) 1 cap] w fun e w' => e = .returned (.tuple #[.agg (xcells ⟨true, true, false, false, []⟩ (.slice none 0 0)).toArray, .int .i64 0]) ∧ Below w.heap.size w w' := by
  obtain ⟨z, hz⟩ : ∃ z, z = w.heap.size := ⟨_, rfl⟩
  obtain ⟨W0, hW0⟩ : ∃ W0, W0 = ((w.alloc (.cells #[.bool false, .bool false, .bool false, .bool false, .slice none 0 0] 41)).alloc (.cells #[.bool true, .bool false, .bool false, .bool false, .slice none 0 0] 41)).alloc (.cells #[.string (mk bPage), .slice none 0 0] 76) := ⟨_, rfl⟩
  have hbA : Below z w W0 := by rw [hW0, hz]; exact (((Below.refl _ w).alloc (Nat.le_refl _) _).alloc (by simp) _).alloc (by simp; omega) _
  have hbA' : Below w.heap.size w W0 := hz ▸ hbA
  have b0 : BlkL W0 z 41 [.bool false, .bool false, .bool false, .bool false, .slice none 0 0] := by rw [hW0, hz]; exact ((BlkL.new w _ [.bool false, .bool false, .bool false, .bool false, .slice none 0 0]).alloc _).alloc _
  have b1 : BlkL W0 (z + 1) 41 [.bool true, .bool false, .bool false, .bool false, .slice none 0 0] := by
    rw [hW0, hz]
    have := (BlkL.new (w.alloc (.cells #[.bool false, .bool false, .bool false, .bool false, .slice none 0 0] 41)) 41 [.bool true, .bool false, .bool false, .bool false, .slice none 0 0]).alloc (.cells #[.string (mk bPage), .slice none 0 0] 76)
    simp only [World.size_alloc] at this
    exact this
  have b2 : BlkL W0 (z + 2) 76 [.string (mk bPage), .slice none 0 0] := by
    rw [hW0, hz]
    have := BlkL.new ((w.alloc (.cells #[.bool false, .bool false, .bool false, .bool false, .slice none 0 0] 41)).alloc (.cells #[.bool true, .bool false, .bool false, .bool false, .slice none 0 0] 41)) 76 [.string (mk bPage), .slice none 0 0]
    simp only [World.size_alloc] at this
    exact this
  have HW0 := Lib.hid hW0.symm
  have hsz : W0.heap.size = z + 3 := by rw [hW0, hz]; simp
  have HBA := Lib.hid hbA
  have HZ := Lib.hid hz
  have hB0 : Base6 W0 := hB.below hbA'
  have hpar := u_Parse (mk bPage) W0 hB0.1 (by rw [size_mk]; simp [bPage]) (by rw [un_mk]; exact okT_page)
  rw [un_mk, url_page] at hpar
  have HPAR := Lib.hid hpar
  have HI0 := Lib.hid (infoUrlOf (u := domU bHttps bB) (domU_w _ _).1)
  have HSZ0 := Lib.hid (show (ucells url0).toArray.size = (ucells (domU bHttps bB)).toArray.size from rfl)
  have OT := Lib.hid (fun (W1 : World) (h1 : Below W0.heap.size W0 W1) => o_trust (domU bHttps bB) W1 (hB0.below h1) (domU_w _ _) (domU_b _ _ (by simp [bHttps]) (by simp [bB])) (by rw [text_page]; exact okT_page))
  rw [trust_page] at OT
  have HSP := Lib.hid (fun W => u_special (mk bHttps) W)
  rw [un_mk, show decide (0 < portD bHttps) = true from rfl] at HSP
  have HCN := Lib.hid csp_nil
  have HSO := Lib.hid Tryz.slices_Sort_string_none
  have HCO := Lib.hid Tryz.slices_Compact_string_empty
  clear hW0 hbA hbA' hB hB0 hpar hz
  go_enter Tryz.func18, Tryz.ntmps18
  go_wp2_with fail
  refine wp_loop_rounds 2 ?_
  rw [rounds_succ]
  go_wp2_with fail
  all_goals (try (exfalso; omega))
  rw [HW0.out, ← HZ.out]
  clear HW0
  rw [show z + 1 + 1 = z + 2 from rfl]
  refine HPAR.out.mono ?_; rintro e w1 ⟨⟨u1, ec, rfl, hcase⟩, hb1⟩
  obtain ⟨rfl, hue⟩ : ec = 0 ∧ some (domU bHttps bB) = some u1 := by
    rcases hcase with h | ⟨_, _, h⟩
    · exact h
    · cases h
  obtain rfl : domU bHttps bB = u1 := by injection hue
  clear hcase hue HPAR
  have hs1 := hb1.size
  have B0 := Lib.hid (b0.below (by omega) hb1)
  have B1 := Lib.hid (b1.below (by omega) hb1)
  have B2 := Lib.hid (b2.below (by omega) hb1)
  have HA1 := Lib.hid (HBA.out.trans (hb1.mono (by omega)))
  have HN := Lib.hid (heap_alloc_new w1 (.cells (ucells url0).toArray 62))
  have hY := (BlkL.new w1 62 (ucells url0)).setRow (ucells (domU bHttps bB))
  have c0' := (B0.out.alloc (.cells (ucells url0).toArray 62)).setRow_other (show z ≠ w1.heap.size by omega) (ucells (domU bHttps bB)).toArray
  have c1' := (B1.out.alloc (.cells (ucells url0).toArray 62)).setRow_other (show z + 1 ≠ w1.heap.size by omega) (ucells (domU bHttps bB)).toArray
  have c2' := (B2.out.alloc (.cells (ucells url0).toArray 62)).setRow_other (show z + 2 ≠ w1.heap.size by omega) (ucells (domU bHttps bB)).toArray
  have hA2 := below_setRow (HA1.out.alloc (by omega) (.cells (ucells url0).toArray 62)) (show z ≤ w1.heap.size by omega) (ucells (domU bHttps bB)).toArray
  have hA2' := below_setRow (hb1.alloc hs1 (.cells (ucells url0).toArray 62)) hs1 (ucells (domU bHttps bB)).toArray
  obtain ⟨W2, hW2⟩ : ∃ W2, W2 = (w1.alloc (.cells (ucells url0).toArray 62)).setRow w1.heap.size (ucells (domU bHttps bB)).toArray := ⟨_, rfl⟩
  rw [← hW2] at hY c0' c1' c2' hA2 hA2'
  have hs2 : W2.heap.size = w1.heap.size + 1 := by rw [hW2]; simp [World.setRow]
  have HW2 : Hid ((w1.alloc (.cells #[.string ⟨#[]⟩, .string ⟨#[]⟩, .int .i64 0, .string ⟨#[]⟩, .int .u32 0, .int .u16 0, .int .u16 0, .int .u16 0, .int .u16 0, .int .u16 0, .int .u16 0, .int .u16 0, .int .u16 0, .int .i64 0, .string ⟨#[]⟩] 62)).setRow w1.heap.size (ucells (domU bHttps bB)).toArray = W2) := Lib.hid hW2.symm
  have HY := Lib.hid hY
  have C0 := Lib.hid c0'
  have C1 := Lib.hid c1'
  have HA2 := Lib.hid hA2
  have HA2' := Lib.hid hA2'
  have f1 := c2'.c 1 _ rfl
  clear b0 b1 b2 HBA hb1 hW2 B0 B1 B2 HA1 hA2 hA2' hY c0' c1' c2'
  go_upto_region 9 with (refine wpList_store_row rfl 62 (.tmp 8) (.tmp 31) rfl w1.heap.size (ucells (domU bHttps bB)).toArray rfl rfl 62 _ HN.out HI0.out HSZ0.out (all_one_of (uc_one _)) ?_)
  all_goals (try (exfalso; omega))
  rw [HW2.out]
  clear HW2 HN
  go_wp2_with fail
  all_goals (try (exfalso; omega))
  refine (HCN.out _).mono ?_; rintro e w3 ⟨xa, xc, rfl, hb3⟩
  have hs3 := hb3.size
  have hY3 := HY.out.below (by omega) hb3
  have C0b := C0.out.below (by omega) hb3
  have C1b := C1.out.below (by omega) hb3
  have HA3 := Lib.hid (HA2.out.trans (hb3.mono (by omega)))
  have HA3' := Lib.hid (HA2'.out.trans (hb3.mono (by omega)))
  clear hb3 HY C0 C1 HA2 HA2' f1
  have e4 : ((mk bHttps).toList == ([97, 98, 111, 117, 116] : Bs)) = false := by rw [toList_mk']; decide
  have y0 := (hY3.alloc (.cells #[.bool false, .bool false, .slice xa 0 xc] 98)).c 0 _ (show (ucells (domU bHttps bB))[0]? = some (.string (mk bHttps)) from rfl)
  have y1 := (hY3.alloc (.cells #[.bool false, .bool false, .slice xa 0 xc] 98)).c 1 _ (show (ucells (domU bHttps bB))[1]? = some (.string (mk [])) from rfl)
  have y2 := (hY3.alloc (.cells #[.bool false, .bool false, .slice xa 0 xc] 98)).c 2 _ (show (ucells (domU bHttps bB))[2]? = some (.int .i64 ((1 : Nat) : Int)) from rfl)
  have y3 := (hY3.alloc (.cells #[.bool false, .bool false, .slice xa 0 xc] 98)).c 3 _ (show (ucells (domU bHttps bB))[3]? = some (.string (mk bB)) from rfl)
  have y4 := (hY3.alloc (.cells #[.bool false, .bool false, .slice xa 0 xc] 98)).c 4 _ (show (ucells (domU bHttps bB))[4]? = some (.int .u32 ((0 : Nat) : Int)) from rfl)
  have y5 := (hY3.alloc (.cells #[.bool false, .bool false, .slice xa 0 xc] 98)).c 5 _ (show (ucells (domU bHttps bB))[5]? = some (.int .u16 ((0 : Nat) : Int)) from rfl)
  have y6 := (hY3.alloc (.cells #[.bool false, .bool false, .slice xa 0 xc] 98)).c 6 _ (show (ucells (domU bHttps bB))[6]? = some (.int .u16 ((0 : Nat) : Int)) from rfl)
  have y7 := (hY3.alloc (.cells #[.bool false, .bool false, .slice xa 0 xc] 98)).c 7 _ (show (ucells (domU bHttps bB))[7]? = some (.int .u16 ((0 : Nat) : Int)) from rfl)
  have y8 := (hY3.alloc (.cells #[.bool false, .bool false, .slice xa 0 xc] 98)).c 8 _ (show (ucells (domU bHttps bB))[8]? = some (.int .u16 ((0 : Nat) : Int)) from rfl)
  have y9 := (hY3.alloc (.cells #[.bool false, .bool false, .slice xa 0 xc] 98)).c 9 _ (show (ucells (domU bHttps bB))[9]? = some (.int .u16 ((0 : Nat) : Int)) from rfl)
  have y10 := (hY3.alloc (.cells #[.bool false, .bool false, .slice xa 0 xc] 98)).c 10 _ (show (ucells (domU bHttps bB))[10]? = some (.int .u16 ((0 : Nat) : Int)) from rfl)
  have y11 := (hY3.alloc (.cells #[.bool false, .bool false, .slice xa 0 xc] 98)).c 11 _ (show (ucells (domU bHttps bB))[11]? = some (.int .u16 ((0 : Nat) : Int)) from rfl)
  have y12 := (hY3.alloc (.cells #[.bool false, .bool false, .slice xa 0 xc] 98)).c 12 _ (show (ucells (domU bHttps bB))[12]? = some (.int .u16 ((0 : Nat) : Int)) from rfl)
  have y13 := (hY3.alloc (.cells #[.bool false, .bool false, .slice xa 0 xc] 98)).c 13 _ (show (ucells (domU bHttps bB))[13]? = some (.int .i64 (-1)) from rfl)
  have y14 := (hY3.alloc (.cells #[.bool false, .bool false, .slice xa 0 xc] 98)).c 14 _ (show (ucells (domU bHttps bB))[14]? = some (.string (mk [47])) from rfl)
  have HY4 := Lib.hid (hY3.alloc (.cells #[.bool false, .bool false, .slice xa 0 xc] 98))
  have C0c := Lib.hid (C0b.alloc (.cells #[.bool false, .bool false, .slice xa 0 xc] 98))
  have C1c := Lib.hid (C1b.alloc (.cells #[.bool false, .bool false, .slice xa 0 xc] 98))
  have HN4 := Lib.hid (BlkL.new w3 98 [.bool false, .bool false, .slice xa 0 xc])
  have HA4 := Lib.hid (HA3.out.alloc (by omega) (.cells #[.bool false, .bool false, .slice xa 0 xc] 98))
  have HA4' := Lib.hid (HA3'.out.alloc (by omega) (.cells #[.bool false, .bool false, .slice xa 0 xc] 98))
  have HOT4 := Lib.hid (OT.out _ HA4'.out)
  have hs4 : (w3.alloc (.cells #[.bool false, .bool false, .slice xa 0 xc] 98)).heap.size = w3.heap.size + 1 := by simp
  clear hY3 C0b C1b OT HA3 HA3'
  go_wp2_with fail
  all_goals (try (exfalso; omega))
  refine (HSP.out _).mono ?_; rintro e w4 ⟨rfl, rfl⟩
  go_wp2_with fail
  all_goals (try (exfalso; omega))
  refine HOT4.out.mono ?_; rintro e w5 ⟨rfl, hb5⟩
  have hs5 := hb5.size
  have N5 := HN4.out.below (by omega) hb5
  have HD0 := Lib.hid (C0c.out.below (by omega) hb5)
  have D1 := C1c.out.below (by omega) hb5
  have HD1 := Lib.hid D1
  have HA5 := Lib.hid (HA4.out.trans (hb5.mono (by omega)))
  clear hb5 HOT4 HY4 C0c C1c HN4 HA4 HA4' y0 y1 y2 y3 y4 y5 y6 y7 y8 y9 y10 y11 y12 y13 y14
  have k0 := D1.c 0 _ rfl
  have k1 := D1.c 1 _ rfl
  have k2 := D1.c 2 _ rfl
  have k3 := D1.c 3 _ rfl
  have k4 := D1.c 4 _ rfl
  have m0 := D1.f 0
  have m1 := D1.f 1
  have m2 := D1.f 2
  have m3 := D1.f 3
  have m4 := D1.f 4
  have n0 := N5.c 0 _ rfl
  have n1 := N5.c 1 _ rfl
  clear D1 N5
  go_wp2_with fail
  all_goals (try (exfalso; omega))
  have hv1 : BlkL ((((w5.setCell ⟨z + 1, 0, none⟩ (.bool true)).setCell ⟨z + 1, 1, none⟩ (.bool true)).setCell ⟨z + 1, 2, none⟩ (.bool false)).setCell ⟨z + 1, 3, none⟩ (.bool false)) (z + 1) 41 [.bool true, .bool true, .bool false, .bool false, .slice none 0 0] := (((HD1.out.set 0 (by simp) (.bool true)).set 1 (by simp) (.bool true)).set 2 (by simp) (.bool false)).set 3 (by simp) (.bool false)
  have hv0 : BlkL ((((w5.setCell ⟨z + 1, 0, none⟩ (.bool true)).setCell ⟨z + 1, 1, none⟩ (.bool true)).setCell ⟨z + 1, 2, none⟩ (.bool false)).setCell ⟨z + 1, 3, none⟩ (.bool false)) z 41 [.bool false, .bool false, .bool false, .bool false, .slice none 0 0] := (((HD0.out.other (by omega) _ _).other (by omega) _ _).other (by omega) _ _).other (by omega) _ _
  have hvA : Below z w ((((w5.setCell ⟨z + 1, 0, none⟩ (.bool true)).setCell ⟨z + 1, 1, none⟩ (.bool true)).setCell ⟨z + 1, 2, none⟩ (.bool false)).setCell ⟨z + 1, 3, none⟩ (.bool false)) := (((HA5.out.trans (below_setB _ _ _ _ (by omega))).trans (below_setB _ _ _ _ (by omega))).trans (below_setB _ _ _ _ (by omega))).trans (below_setB _ _ _ _ (by omega))
  have HV0 := Lib.hid hv0
  have HVA := Lib.hid hvA
  clear hv0 hvA HD0 HD1 HA5 k0 k1 k2 k3 k4 m0 m1 m2 m3 m4 n0 n1
  generalize (((w5.setCell ⟨z + 1, 0, none⟩ (.bool true)).setCell ⟨z + 1, 1, none⟩ (.bool true)).setCell ⟨z + 1, 2, none⟩ (.bool false)).setCell ⟨z + 1, 3, none⟩ (.bool false) = V4 at *
  have k0 := hv1.c 0 _ rfl
  have k1 := hv1.c 1 _ rfl
  have k2 := hv1.c 2 _ rfl
  have k3 := hv1.c 3 _ rfl
  have k4 := hv1.c 4 _ rfl
  have m4 := hv1.f 4
  have o0 := HV0.out.c 0 _ rfl
  have o1 := HV0.out.c 1 _ rfl
  have o2 := HV0.out.c 2 _ rfl
  have o3 := HV0.out.c 3 _ rfl
  have o4 := HV0.out.c 4 _ rfl
  have p0 := HV0.out.f 0
  have p1 := HV0.out.f 1
  have p2 := HV0.out.f 2
  have p3 := HV0.out.f 3
  have p4 := HV0.out.f 4
  have HV1 := Lib.hid hv1
  clear hv1
  rw [rounds_succ]
  go_wp2_with fail
  all_goals (try (exfalso; omega))
  refine (HSO.out _ _ _).mono ?_; rintro e w6 ⟨rfl, rfl⟩
  go_wp2_with fail
  all_goals (try (exfalso; omega))
  refine (HCO.out _ _ _).mono ?_; rintro e w6 ⟨rfl, rfl⟩
  go_wp2_with fail
  all_goals (try (exfalso; omega))
  have hr := (((((HV0.out.other (show z ≠ z + 1 by omega) 4 (.slice none 0 0)).set 0 (by simp) (.bool true)).set 1 (by simp) (.bool true)).set 2 (by simp) (.bool false)).set 3 (by simp) (.bool false)).set 4 (by simp) (.slice none 0 0)
  have hra := (((((HVA.out.trans (below_setB _ (z + 1) 4 (.slice none 0 0) (by omega))).trans (below_setB _ z 0 (.bool true) (Nat.le_refl _))).trans (below_setB _ z 1 (.bool true) (Nat.le_refl _))).trans (below_setB _ z 2 (.bool false) (Nat.le_refl _))).trans (below_setB _ z 3 (.bool false) (Nat.le_refl _))).trans (below_setB _ z 4 (.slice none 0 0) (Nat.le_refl _))
  refine bodyPost_ret (results_ct rfl _ _ z 41 _ _ rfl hr Tryz.underlying41 rfl infoCtx) rfl ?_
  exact ⟨rfl, HZ.out ▸ hra⟩
end Go.Proofs.YtjbciamhhfcdoaaGreatDoor
namespace Hs
open Go
def bA : Bs := [97, 46, 99, 111, 109]
def bImg : Bs := [104, 116, 116, 112, 58, 47, 47, 97, 46, 99, 111, 109, 47]
def bImgs : Bs := [104, 116, 116, 112, 115, 58, 47, 47, 97, 46, 99, 111, 109, 47]
theorem name_a : nameV bA = true := by decide
theorem url_img : urlV bImg = some (domU bHttp bA) := by
  unfold urlV
  rw [if_neg (by decide)]
  exact parse_domain bHttp name_a (by decide) (by decide) (by decide) (by decide)
theorem okT_img : okT bImg := by unfold okT; decide
theorem okT_imgs : okT bImgs := by unfold okT; decide
theorem text_img : textU (domU bHttp bA) = bImg := textU_dom bHttp name_a (by decide)
theorem text_imgs : textU (domU bHttps bA) = bImgs := textU_dom bHttps name_a (by decide)
theorem trust_img : trustV (domU bHttp bA) = false := by
  unfold trustV
  rw [http_valid name_a]
  decide
theorem format_imgs : formatU (domU bHttps bA) = bImgs := by
  unfold formatU
  rw [if_pos (https_valid name_a), text_imgs]
theorem cov_img : covV 0 [] [] (domU bHttp bA).host = cov0 := by decide
theorem rule_img : ruleV (domU bHttp bA) 9 false ⟨true, true, false, false, []⟩ (covV 0 [] [] (domU bHttp bA).host) = ⟨2, 4, bImgs⟩ := by
  rw [cov_img]
  unfold ruleV
  rw [if_neg (by decide), trust_img, if_neg (by decide), if_neg (by decide), if_neg (by decide), if_pos (by decide), up_dom, format_imgs]
theorem rule_script : ruleV (domU bHttp bA) 15 false ⟨true, true, false, false, []⟩ (covV 0 [] [] (domU bHttp bA).host) = ⟨3, 5, []⟩ := by
  rw [cov_img]
  unfold ruleV
  rw [if_neg (by decide), trust_img, if_neg (by decide), if_neg (by decide), if_neg (by decide), if_neg (by decide)]
end Hs
namespace Go.Proofs.YtjbciamhhfcdoaaGreatDoor
open Go.RowKit Hs
set_option linter.unusedSimpArgs false
set_option linter.unusedVariables false
def ctxA : CtxP := ⟨true, true, false, false, []⟩
theorem dec_img (w : World) (hB : Base6 w) : Calls Tryz.prog 11 #[.agg (rcells bImg 9 false).toArray, .agg (xcells ctxA (.slice none 0 0)).toArray, .int .i64 0, .pointer none, .pointer none] w fun e w' => e = .returned (.tuple #[.agg (decells ⟨2, 4, bImgs⟩).toArray, .int .i64 0]) ∧ Below w.heap.size w w' := by
  have h := m_decide bImg 9 false ctxA (.slice none 0 0) 0 (.pointer none) [] (domU bHttp bA) w hB (by decide) okT_img url_img (domU_w _ _) (domU_b _ _ (by decide) (by decide)) (by rw [text_img]; exact okT_img) (by rw [up_dom]; exact domU_w _ _) (by rw [up_dom]; exact domU_b _ _ (by decide) (by decide)) (by rw [up_dom, text_imgs]; exact okT_imgs) rfl (http_valid name_a) (by decide) (.inl ⟨rfl, rfl⟩)
  rw [show ruleV (domU bHttp bA) 9 false ctxA (covV 0 [] [] (domU bHttp bA).host) = ⟨2, 4, bImgs⟩ from rule_img] at h
  exact h
theorem dec_script (w : World) (hB : Base6 w) : Calls Tryz.prog 11 #[.agg (rcells bImg 15 false).toArray, .agg (xcells ctxA (.slice none 0 0)).toArray, .int .i64 0, .pointer none, .pointer none] w fun e w' => e = .returned (.tuple #[.agg (decells ⟨3, 5, []⟩).toArray, .int .i64 0]) ∧ Below w.heap.size w w' := by
  have h := m_decide bImg 15 false ctxA (.slice none 0 0) 0 (.pointer none) [] (domU bHttp bA) w hB (by decide) okT_img url_img (domU_w _ _) (domU_b _ _ (by decide) (by decide)) (by rw [text_img]; exact okT_img) (by rw [up_dom]; exact domU_w _ _) (by rw [up_dom]; exact domU_b _ _ (by decide) (by decide)) (by rw [up_dom, text_imgs]; exact okT_imgs) rfl (http_valid name_a) (by decide) (.inl ⟨rfl, rfl⟩)
  rw [show ruleV (domU bHttp bA) 15 false ctxA (covV 0 [] [] (domU bHttp bA).host) = ⟨3, 5, []⟩ from rule_script] at h
  exact h
theorem dec_img2 (w : World) (hB : Base6 w) : Calls Tryz.prog 11 #[.agg #[.string ⟨#[104, 116, 116, 112, 58, 47, 47, 97, 46, 99, 111, 109, 47]⟩, .int .i64 9, .bool false], .agg #[.bool true, .bool true, .bool false, .bool false, .slice none 0 0], .int .i64 0, .pointer none, .pointer none] w fun e w' => e = .returned (.tuple #[.agg #[.int .i64 2, .int .i64 4, .string ⟨#[104, 116, 116, 112, 115, 58, 47, 47, 97, 46, 99, 111, 109, 47]⟩], .int .i64 0]) ∧ Below w.heap.size w w' := dec_img w hB
theorem dec_script2 (w : World) (hB : Base6 w) : Calls Tryz.prog 11 #[.agg #[.string ⟨#[104, 116, 116, 112, 58, 47, 47, 97, 46, 99, 111, 109, 47]⟩, .int .i64 15, .bool false], .agg #[.bool true, .bool true, .bool false, .bool false, .slice none 0 0], .int .i64 0, .pointer none, .pointer none] w fun e w' => e = .returned (.tuple #[.agg #[.int .i64 3, .int .i64 5, .string ⟨#[]⟩], .int .i64 0]) ∧ Below w.heap.size w w' := dec_script w hB
theorem c_build2 (g cap : Nat) (w : World) (hB : Base6 w) (h0 : w.cell? ⟨g, 0, none⟩ = some (.string ⟨#[104, 116, 116, 112, 115, 58, 47, 47, 98, 46, 99, 111, 109, 47]⟩)) (h1 : w.cell? ⟨g, 1, none⟩ = some (.slice none 0 0)) (hg : g < w.heap.size) :
    Calls Tryz.prog 18 #[.slice (some ⟨g, 0, none⟩) 1 cap] w fun e w' => e = .returned (.tuple #[.agg #[.bool true, .bool true, .bool false, .bool false, .slice none 0 0], .int .i64 0]) ∧ Below w.heap.size w w' := c_build g cap w hB h0 h1 hg
set_option maxRecDepth 20000 in
set_option maxHeartbeats 8000000 in
theorem t_awake (w : World) (hB : Base6 w) : Calls Tryz.prog 8 #[] w fun e w' => e = .returned (.bool true) ∧ Below w.heap.size w w' := by
  have HDS := Lib.hid dec_script2
  have HDI := Lib.hid dec_img2
  have hb0 := (Below.refl _ w).alloc (Nat.le_refl _) (.cells #[.string ⟨#[104, 116, 116, 112, 115, 58, 47, 47, 98, 46, 99, 111, 109, 47]⟩, .slice none 0 0] 76)
  have hN := BlkL.new w 76 [.string ⟨#[104, 116, 116, 112, 115, 58, 47, 47, 98, 46, 99, 111, 109, 47]⟩, .slice none 0 0]
  have HBU := Lib.hid (c_build2 w.heap.size 1 _ (hB.below hb0) (hN.c 0 _ rfl) (hN.c 1 _ rfl) (by simp))
  have HB0 := Lib.hid hb0
  have HBB := Lib.hid hB
  clear hB hb0 hN
  go_enter Tryz.func8, Tryz.ntmps8
  go_wp2_with fail
  all_goals (try (exfalso; omega))
  refine HBU.out.mono ?_; rintro e w1 ⟨rfl, hb1⟩
  have hx1 := (BlkL.new w1 41 [.bool true, .bool true, .bool false, .bool false, .slice none 0 0])
  have hB1 := HB0.out.trans (hb1.mono HB0.out.size)
  have hB2 := hB1.alloc hB1.size (.cells #[.bool true, .bool true, .bool false, .bool false, .slice none 0 0] 41)
  have HA2 := Lib.hid hB2
  have HX2 := Lib.hid hx1
  clear hb1 hB1 hB2 HB0 HBU hx1
  go_wp2_with fail
  all_goals (try (exfalso; omega))
  refine (HDS.out _ (HBB.out.below HA2.out)).mono ?_; rintro e w2 ⟨rfl, hb2⟩
  have hs2 : w1.heap.size + 1 ≤ w2.heap.size := by have := hb2.size; simpa using this
  have X3 := (HX2.out.below (by simp) hb2).alloc (.cells #[.int .i64 3, .int .i64 5, .string ⟨#[]⟩] 34)
  have x0 := X3.c 0 _ rfl
  have x1 := X3.c 1 _ rfl
  have x2 := X3.c 2 _ rfl
  have x3 := X3.c 3 _ rfl
  have x4 := X3.c 4 _ rfl
  have hA3 := HA2.out.trans (hb2.mono HA2.out.size)
  have hA4 := hA3.alloc hA3.size (.cells #[.int .i64 3, .int .i64 5, .string ⟨#[]⟩] 34)
  have HN4 := Lib.hid (BlkL.new w2 34 [.int .i64 3, .int .i64 5, .string ⟨#[]⟩])
  have HA4 := Lib.hid hA4
  clear hb2 hA3 hA4 HX2 HA2 HDS X3
  go_wp2_with fail
  all_goals (try (exfalso; omega))
  refine (HDI.out _ (HBB.out.below HA4.out)).mono ?_; rintro e w3 ⟨rfl, hb3⟩
  have hs3 : w2.heap.size + 1 ≤ w3.heap.size := by have := hb3.size; simpa using this
  have N5 := (HN4.out.below (by simp) hb3).alloc (.cells #[.int .i64 2, .int .i64 4, .string ⟨#[104, 116, 116, 112, 115, 58, 47, 47, 97, 46, 99, 111, 109, 47]⟩] 34)
  have n0 := N5.c 0 _ rfl
  have M5 := BlkL.new w3 34 [.int .i64 2, .int .i64 4, .string ⟨#[104, 116, 116, 112, 115, 58, 47, 47, 97, 46, 99, 111, 109, 47]⟩]
  have p2 := M5.c 2 _ rfl
  have HA5 := Lib.hid ((HA4.out.trans (hb3.mono HA4.out.size)).alloc (HA4.out.trans (hb3.mono HA4.out.size)).size (.cells #[.int .i64 2, .int .i64 4, .string ⟨#[104, 116, 116, 112, 115, 58, 47, 47, 97, 46, 99, 111, 109, 47]⟩] 34))
  clear hb3 HDI HN4 HA4 N5 M5 x0 x1 x2 x3 x4
  go_wp2
  all_goals (try (exfalso; omega))
  go_ret
  exact ⟨rfl, HA5.out⟩
end Go.Proofs.YtjbciamhhfcdoaaGreatDoor
namespace Go.Proofs.YtjbciamhhfcdoaaGreatDoor
open Go.RowKit Hs
set_option linter.unusedSimpArgs false
set_option linter.unusedVariables false

theorem r10_digit (b : UInt8) (z : Int) (hz : z = (b.toNat : Int)) (w : World) : Calls Tryz.prog 99 #[.int .u8 z] w fun e w' => e = .returned (.int .i64 (digV b)) ∧ w = w' := by
  subst hz
  have hx := b.toNat_lt
  have hdc := dig_cases b
  obtain ⟨q, hq⟩ : ∃ q, q = digV b := ⟨_, rfl⟩
  rw [← hq] at hdc ⊢
  clear hq
  rcases hdc with ⟨h1, h2, h3⟩ | ⟨h1, h2, h3⟩ | ⟨h1, h2, h3⟩ | ⟨h1, h2, h3, h4⟩
  all_goals
    go_enter Tryz.func99, Tryz.ntmps99
    go_wp2
    all_goals (try (exfalso; omega))
    all_goals
      go_ret
      exact ⟨ret_int (by omega), rfl⟩
end Go.Proofs.YtjbciamhhfcdoaaGreatDoor
