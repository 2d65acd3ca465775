/- The walk of the law Ipv6RoundTrip (layer 11): it returns true; memory that existed is unchanged. Conditions: the library's tables stand. -/
import Derived.Test.YtblcgicgbindlaaDoorLaw11
import Derived.Test.YtblcgicgbindlaaDoorPlainIpv6S
namespace Go.Proofs.YtblcgicgbindlaaDoor
open Go.RowKit Hs
set_option linter.unusedSimpArgs false
set_option linter.unusedVariables false

set_option maxRecDepth 20000 in
set_option maxHeartbeats 4000000 in
theorem roundTrip_walk11 (a b : List Nat) (w : World) (hB : Base6 w) (ha8 : a.length = 8) (ha : ∀ x ∈ a, x < 65536) (hb8 : b.length = 8) (hb : ∀ x ∈ b, x < 65536) : Calls Tryd.prog 8 #[.agg ((a.map Int.ofNat).map (Value.int .u16)).toArray, .agg ((b.map Int.ofNat).map (Value.int .u16)).toArray] w fun e w' => e = .returned (.bool true) ∧ Below w.heap.size w w' := by
  rw [agg_groups, agg_groups]
  have AW := Lib.hid (fun W h => law11_awake W h)
  have hlen := fmt6_len a ⟨ha8, ha⟩
  have C1 := fun W h => i6_format a W h ha8 ha
  have c2 := fun W h => i6_parse (mk (fmt6 a)) W h (by rw [size_mk]; omega)
  simp only [un_mk, parse6_fmt a ⟨ha8, ha⟩] at c2
  have C3 := fun W h => i6_format b W h hb8 hb
  have hinj := fun h => fmt6_inj ⟨ha8, ha⟩ ⟨hb8, hb⟩ h
  have hT : ∃ T, T = mk (fmt6 a) := ⟨_, rfl⟩
  have hU : ∃ T, T = mk (fmt6 b) := ⟨_, rfl⟩
  have hs1 : a ≠ b → ((mk (fmt6 a)).toList == (mk (fmt6 b)).toList) = false := fun hab => by rw [toList_mk', toList_mk']; exact beq_false_of_ne (fun h => hab (hinj h))
  obtain ⟨T, hT⟩ := hT
  obtain ⟨U, hU⟩ := hU
  rw [← hT, ← hU] at hs1
  have hs2 : a = b → T = U := fun e => by rw [hT, hU, e]
  simp only [← hT] at C1 c2
  simp only [← hU] at C3
  have eq1 := fun W => arr8_eq a a ha8 ha8 W
  simp only [decide_eq_true rfl] at eq1
  have eq2 := fun W => arr8_eq a b ha8 hb8 W
  have hba : Below w.heap.size w ((w.alloc (.cells (gcells a).toArray 39)).alloc (.cells (gcells b).toArray 39)) := ((Below.refl _ w).alloc (Nat.le_refl _) _).alloc (by simp) _
  have blka : BlkN ((w.alloc (.cells (gcells a).toArray 39)).alloc (.cells (gcells b).toArray 39)) w.heap.size 39 (gcells a).toArray := (BlkN.new w _ _).alloc _
  have blkb : BlkN ((w.alloc (.cells (gcells a).toArray 39)).alloc (.cells (gcells b).toArray 39)) (w.heap.size + 1) 39 (gcells b).toArray := by
    have := BlkN.new (w.alloc (.cells (gcells a).toArray 39)) 39 (gcells b).toArray
    simpa using this
  clear hT hU hlen hinj ha hb
  obtain ⟨a0, a1, a2, a3, a4, a5, a6, a7, rfl⟩ := eight ha8
  obtain ⟨b0, b1, b2, b3, b4, b5, b6, b7, rfl⟩ := eight hb8
  have ea : (gcells [a0, a1, a2, a3, a4, a5, a6, a7]).toArray = #[.int .u16 (a0 : Int), .int .u16 (a1 : Int), .int .u16 (a2 : Int), .int .u16 (a3 : Int), .int .u16 (a4 : Int), .int .u16 (a5 : Int), .int .u16 (a6 : Int), .int .u16 (a7 : Int)] := rfl
  have eb : (gcells [b0, b1, b2, b3, b4, b5, b6, b7]).toArray = #[.int .u16 (b0 : Int), .int .u16 (b1 : Int), .int .u16 (b2 : Int), .int .u16 (b3 : Int), .int .u16 (b4 : Int), .int .u16 (b5 : Int), .int .u16 (b6 : Int), .int .u16 (b7 : Int)] := rfl
  have er : (res6 (some [a0, a1, a2, a3, a4, a5, a6, a7])) = ([a0, a1, a2, a3, a4, a5, a6, a7], true) := rfl
  obtain ⟨W1, hW1⟩ : ∃ W1, W1 = (w.alloc (.cells (gcells [a0, a1, a2, a3, a4, a5, a6, a7]).toArray 39)).alloc (.cells (gcells [b0, b1, b2, b3, b4, b5, b6, b7]).toArray 39) := ⟨_, rfl⟩
  rw [← hW1] at hba blka blkb
  have HW1 := Lib.hid hW1.symm
  simp only [er] at c2
  simp only [ea] at C1 c2 eq1 eq2
  simp only [eb] at C3 eq2
  have H1 := Lib.hid C1; have H2 := Lib.hid c2; have H3 := Lib.hid C3
  have B1 := hB.below hba
  have HA := Lib.hid hba; have HBA := Lib.hid blka; have HBB := Lib.hid blkb
  have HS1 := Lib.hid hs1; have HS2 := Lib.hid hs2
  clear hba blka blkb hW1 hB C1 c2 C3 ha8 hb8 er hs1 hs2
  rw [ea, eb] at HW1 ⊢
  clear ea eb
  have p0 : W1.cell? ⟨w.heap.size, 0, none⟩ = some (.int .u16 (a0 : Int)) := HBA.out.at 0 (by simp)
  have p1 : W1.cell? ⟨w.heap.size, 1, none⟩ = some (.int .u16 (a1 : Int)) := HBA.out.at 1 (by simp)
  have p2 : W1.cell? ⟨w.heap.size, 2, none⟩ = some (.int .u16 (a2 : Int)) := HBA.out.at 2 (by simp)
  have p3 : W1.cell? ⟨w.heap.size, 3, none⟩ = some (.int .u16 (a3 : Int)) := HBA.out.at 3 (by simp)
  have p4 : W1.cell? ⟨w.heap.size, 4, none⟩ = some (.int .u16 (a4 : Int)) := HBA.out.at 4 (by simp)
  have p5 : W1.cell? ⟨w.heap.size, 5, none⟩ = some (.int .u16 (a5 : Int)) := HBA.out.at 5 (by simp)
  have p6 : W1.cell? ⟨w.heap.size, 6, none⟩ = some (.int .u16 (a6 : Int)) := HBA.out.at 6 (by simp)
  have p7 : W1.cell? ⟨w.heap.size, 7, none⟩ = some (.int .u16 (a7 : Int)) := HBA.out.at 7 (by simp)
  go_enter Tryd.func8, Tryd.ntmps8
  go_wp2_with (rw [HW1.out])
  refine (H1.out _ B1).mono ?_; rintro e w2 ⟨rfl, hb2⟩
  have B2 := B1.below hb2
  have ba2 := HBA.out.below HBA.out.lt hb2
  have bb2 := HBB.out.below HBB.out.lt hb2
  have hl2 := HA.out.trans (hb2.mono HA.out.size)
  clear p0 p1 p2 p3 p4 p5 p6 p7 B1 hb2
  go_wp2_with fail
  refine (H2.out _ B2.1).mono ?_; rintro e w3 ⟨rfl, hb3⟩
  obtain ⟨W3, hW3⟩ : ∃ W3, W3 = w3.alloc (.cells #[.int .u16 (a0 : Int), .int .u16 (a1 : Int), .int .u16 (a2 : Int), .int .u16 (a3 : Int), .int .u16 (a4 : Int), .int .u16 (a5 : Int), .int .u16 (a6 : Int), .int .u16 (a7 : Int)] 39) := ⟨_, rfl⟩
  have ba3 : BlkN W3 w.heap.size 39 (gcells [a0, a1, a2, a3, a4, a5, a6, a7]).toArray := by rw [hW3]; exact (ba2.below ba2.lt hb3).alloc _
  have bb3 : BlkN W3 (w.heap.size + 1) 39 (gcells [b0, b1, b2, b3, b4, b5, b6, b7]).toArray := by rw [hW3]; exact (bb2.below bb2.lt hb3).alloc _
  have bc3 : BlkN W3 w3.heap.size 39 (gcells [a0, a1, a2, a3, a4, a5, a6, a7]).toArray := by rw [hW3]; exact BlkN.new _ _ _
  have hl3 := hl2.trans (hb3.mono hl2.size)
  have hl4 : Below w.heap.size w W3 := by rw [hW3]; exact hl3.alloc hl3.size _
  have B3 : Base6 W3 := by
    rw [hW3]
    exact (B2.below hb3).below ((Below.refl _ w3).alloc (Nat.le_refl _) _)
  have HC := Lib.hid (And.intro ba3 (And.intro bb3 bc3))
  have HF : Hid (∀ x : Later W3, _) := Lib.hid (fun x : Later W3 => H3.out x.1 (B3.below x.2))
  have HW : Hid (∀ x : Later W3, _) := Lib.hid (fun x : Later W3 => AW.out x.1 (B3.below x.2))
  have HW3 := Lib.hid hW3
  clear ba2 bb2 hl2 ba3 bb3 bc3 hl3 hb3 hW3 B2
  go_wp2_with fail
  rw [← HW3.out]
  have qa0 : ∀ x : Later W3, x.1.cell? ⟨w.heap.size, 0, none⟩ = some (.int .u16 (a0 : Int)) := HC.out.1.later 0 (by simp)
  have qa1 : ∀ x : Later W3, x.1.cell? ⟨w.heap.size, 1, none⟩ = some (.int .u16 (a1 : Int)) := HC.out.1.later 1 (by simp)
  have qa2 : ∀ x : Later W3, x.1.cell? ⟨w.heap.size, 2, none⟩ = some (.int .u16 (a2 : Int)) := HC.out.1.later 2 (by simp)
  have qa3 : ∀ x : Later W3, x.1.cell? ⟨w.heap.size, 3, none⟩ = some (.int .u16 (a3 : Int)) := HC.out.1.later 3 (by simp)
  have qa4 : ∀ x : Later W3, x.1.cell? ⟨w.heap.size, 4, none⟩ = some (.int .u16 (a4 : Int)) := HC.out.1.later 4 (by simp)
  have qa5 : ∀ x : Later W3, x.1.cell? ⟨w.heap.size, 5, none⟩ = some (.int .u16 (a5 : Int)) := HC.out.1.later 5 (by simp)
  have qa6 : ∀ x : Later W3, x.1.cell? ⟨w.heap.size, 6, none⟩ = some (.int .u16 (a6 : Int)) := HC.out.1.later 6 (by simp)
  have qa7 : ∀ x : Later W3, x.1.cell? ⟨w.heap.size, 7, none⟩ = some (.int .u16 (a7 : Int)) := HC.out.1.later 7 (by simp)
  have qb0 : ∀ x : Later W3, x.1.cell? ⟨w.heap.size + 1, 0, none⟩ = some (.int .u16 (b0 : Int)) := HC.out.2.1.later 0 (by simp)
  have qb1 : ∀ x : Later W3, x.1.cell? ⟨w.heap.size + 1, 1, none⟩ = some (.int .u16 (b1 : Int)) := HC.out.2.1.later 1 (by simp)
  have qb2 : ∀ x : Later W3, x.1.cell? ⟨w.heap.size + 1, 2, none⟩ = some (.int .u16 (b2 : Int)) := HC.out.2.1.later 2 (by simp)
  have qb3 : ∀ x : Later W3, x.1.cell? ⟨w.heap.size + 1, 3, none⟩ = some (.int .u16 (b3 : Int)) := HC.out.2.1.later 3 (by simp)
  have qb4 : ∀ x : Later W3, x.1.cell? ⟨w.heap.size + 1, 4, none⟩ = some (.int .u16 (b4 : Int)) := HC.out.2.1.later 4 (by simp)
  have qb5 : ∀ x : Later W3, x.1.cell? ⟨w.heap.size + 1, 5, none⟩ = some (.int .u16 (b5 : Int)) := HC.out.2.1.later 5 (by simp)
  have qb6 : ∀ x : Later W3, x.1.cell? ⟨w.heap.size + 1, 6, none⟩ = some (.int .u16 (b6 : Int)) := HC.out.2.1.later 6 (by simp)
  have qb7 : ∀ x : Later W3, x.1.cell? ⟨w.heap.size + 1, 7, none⟩ = some (.int .u16 (b7 : Int)) := HC.out.2.1.later 7 (by simp)
  have qc0 : ∀ x : Later W3, x.1.cell? ⟨w3.heap.size, 0, none⟩ = some (.int .u16 (a0 : Int)) := HC.out.2.2.later 0 (by simp)
  have qc1 : ∀ x : Later W3, x.1.cell? ⟨w3.heap.size, 1, none⟩ = some (.int .u16 (a1 : Int)) := HC.out.2.2.later 1 (by simp)
  have qc2 : ∀ x : Later W3, x.1.cell? ⟨w3.heap.size, 2, none⟩ = some (.int .u16 (a2 : Int)) := HC.out.2.2.later 2 (by simp)
  have qc3 : ∀ x : Later W3, x.1.cell? ⟨w3.heap.size, 3, none⟩ = some (.int .u16 (a3 : Int)) := HC.out.2.2.later 3 (by simp)
  have qc4 : ∀ x : Later W3, x.1.cell? ⟨w3.heap.size, 4, none⟩ = some (.int .u16 (a4 : Int)) := HC.out.2.2.later 4 (by simp)
  have qc5 : ∀ x : Later W3, x.1.cell? ⟨w3.heap.size, 5, none⟩ = some (.int .u16 (a5 : Int)) := HC.out.2.2.later 5 (by simp)
  have qc6 : ∀ x : Later W3, x.1.cell? ⟨w3.heap.size, 6, none⟩ = some (.int .u16 (a6 : Int)) := HC.out.2.2.later 6 (by simp)
  have qc7 : ∀ x : Later W3, x.1.cell? ⟨w3.heap.size, 7, none⟩ = some (.int .u16 (a7 : Int)) := HC.out.2.2.later 7 (by simp)
  by_cases hab : [a0, a1, a2, a3, a4, a5, a6, a7] = [b0, b1, b2, b3, b4, b5, b6, b7]
  · have hTU := HS2.out hab
    simp only [List.cons.injEq, and_true] at hab
    obtain ⟨rfl, rfl, rfl, rfl, rfl, rfl, rfl, rfl⟩ := hab
    subst hTU
    clear HS1 HS2 eq2
    refine wp_region_later W3 (by kernel_rfl) (by kernel_rfl) (Below.refl _ _) ?_
    repeat (go_big_quiet_step (fail))
    go_big_quiet_step (exact Calls.later (HF.out _))
    repeat (go_big_quiet_step (fail))
    go_big_quiet_step (exact Calls.later (HW.out _))
    repeat (go_big_quiet_step (fail))
    refine wpQuiet_nil ?_
    intro _ hw'
    obtain ⟨⟨w5, hb5⟩, rfl⟩ := hw'
    go_wp2_with fail
    go_ret
    exact ⟨rfl, hl4.trans (hb5.mono hl4.size)⟩
  · have hs := HS1.out hab
    simp only [decide_eq_false hab] at eq2
    refine wp_region_later W3 (by kernel_rfl) (by kernel_rfl) (Below.refl _ _) ?_
    repeat (go_big_quiet_step (fail))
    go_big_quiet_step (exact Calls.later (HF.out _))
    repeat (go_big_quiet_step (fail))
    go_big_quiet_step (exact Calls.later (HW.out _))
    repeat (go_big_quiet_step (fail))
    refine wpQuiet_nil ?_
    intro _ hw'
    obtain ⟨⟨w5, hb5⟩, rfl⟩ := hw'
    go_wp2_with fail
    go_ret
    exact ⟨rfl, hl4.trans (hb5.mono hl4.size)⟩
end Go.Proofs.YtblcgicgbindlaaDoor
