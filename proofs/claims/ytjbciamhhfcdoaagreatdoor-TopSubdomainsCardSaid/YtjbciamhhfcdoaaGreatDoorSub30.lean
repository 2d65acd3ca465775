/- Texts that the walks of hosts and URLs cover so far: ASCII without percent signs. Conditions: none.
   What Parse of hosts calls, in the form of its walk: canonical labels, the parts of a name in their own block, the join. Conditions: texts are ASCII and of bounded length; the library's variable stands.
   The walk of Parse of the program's hosts. Conditions: the text is ASCII without percent signs and of bounded length; the library's tables stand. -/
import Derived.Test.YtjbciamhhfcdoaaGreatDoorSub21
import Derived.Test.YtjbciamhhfcdoaaGreatDoorSub25
import Derived.Test.YtjbciamhhfcdoaaGreatDoorSub26
import Derived.Test.YtjbciamhhfcdoaaGreatDoorSub20
import Derived.Test.YtjbciamhhfcdoaaGreatDoorSub27
import Derived.Test.YtjbciamhhfcdoaaGreatDoorSub28
import Derived.Test.YtjbciamhhfcdoaaGreatDoorSub29
namespace Hs
open Go
set_option linter.unusedVariables false
set_option linter.unusedSimpArgs false
def okT (l : Bs) : Prop := ∀ b ∈ l, b.toNat < 128 ∧ b ≠ 37
theorem okT_sub {a b : Bs} (h : okT b) (hs : ∀ x ∈ a, x ∈ b) : okT a := fun x hx => h x (hs x hx)
theorem okT_take {l : Bs} (h : okT l) (k : Nat) : okT (l.take k) := okT_sub h fun x hx => List.mem_of_mem_take hx
theorem okT_drop {l : Bs} (h : okT l) (k : Nat) : okT (l.drop k) := okT_sub h fun x hx => List.mem_of_mem_drop hx
theorem dropDot_mem (l : Bs) : ∀ x ∈ dropDot l, x ∈ l := by
  intro x hx
  unfold dropDot Lib.trimSuffix at hx
  split at hx
  · exact List.mem_of_mem_take hx
  · exact hx
theorem dropDot_len (l : Bs) : (dropDot l).length ≤ l.length := by
  unfold dropDot Lib.trimSuffix
  split
  · rw [List.length_take]; omega
  · omega
theorem okT_label {l t : Bs} (h : okT l) (ht : pctV l = some t) : ∀ x ∈ splitD 46 (dropDot t), ascB x = true := by
  rw [pctV_id l (fun b hb => (h b hb).2)] at ht
  cases ht
  intro x hx
  unfold ascB
  rw [List.all_eq_true]
  intro b hb
  exact decide_eq_true (h b (dropDot_mem _ b (splitD_mem 46 _ x hx b hb))).1
theorem toAsciiV_len {x y : Bs} (h : toAsciiV x = some y) : y.length ≤ 63 := by
  unfold toAsciiV at h
  split at h
  · unfold toAsciiA at h
    split at h
    · cases h
    · split at h
      · rename_i h2
        cases h
        exact (labelV_len h2).2
      · cases h
  · exact (labelV_len (toAsciiU_len h)).2
theorem labsV_step {x y : Bs} {r d : List Bs} {o : Option (List Bs)} (hs : o = (labsV (x :: r)).map (d ++ ·)) (h : toAsciiV x = some y) : o = (labsV r).map ((d ++ [y]) ++ ·) := by
  rw [hs, labsV, h]
  simp only
  cases labsV r <;> simp
theorem labsV_fail {x : Bs} {r d : List Bs} {o : Option (List Bs)} (hs : o = (labsV (x :: r)).map (d ++ ·)) (h : toAsciiV x = none) : o = none := by
  rw [hs, labsV, h]
  rfl
theorem joinD_le (c : UInt8) : ∀ L : List Bs, (∀ y ∈ L, y.length ≤ 63) → (joinD c L).length ≤ 64 * L.length
  | [], _ => by simp [joinD]
  | [p], h => by have := h p (List.mem_cons_self ..); show p.length ≤ _; simp; omega
  | p :: q :: r, h => by
    have ih := joinD_le c (q :: r) (fun y hy => h y (List.mem_cons_of_mem _ hy))
    have := h p (List.mem_cons_self ..)
    show (p ++ c :: joinD c (q :: r)).length ≤ _
    simp only [List.length_append, List.length_cons] at ih ⊢
    omega
theorem numF_lt (F : Nat) : ∀ (ps : List Bs) (v j r : Nat), ps ≠ [] → v < 256 ^ j → numF F ps v = some r → r < 256 ^ (j + ps.length - 1) * 2 ^ F
  | [], v, j, r, h, _, _ => absurd rfl h
  | [p], v, j, r, _, hv, h => by
    unfold numF at h
    split at h
    · rename_i hc
      cases h
      have h1 : v + 1 ≤ 256 ^ j := hv
      have h2 := Nat.mul_le_mul_right (2 ^ F) h1
      rw [Nat.add_mul, Nat.one_mul] at h2
      have e : j + [p].length - 1 = j := by simp
      rw [e]
      omega
    · cases h
  | p :: q :: t, v, j, r, _, hv, h => by
    unfold numF at h
    split at h
    · rename_i hc
      have hv2 : v * 256 + (numP p).1 < 256 ^ (j + 1) := by
        rw [Nat.pow_succ]
        have := Nat.mul_le_mul_right 256 (show v + 1 ≤ 256 ^ j from hv)
        omega
      have := numF_lt F (q :: t) _ (j + 1) r (by simp) hv2 h
      have e : j + 1 + (q :: t).length - 1 = j + (p :: q :: t).length - 1 := by simp; omega
      rw [e] at this
      exact this
    · cases h
theorem numsV_lt (l : Bs) : (numsV l).1 < 4294967296 := by
  unfold numsV
  split
  · rename_i h
    refine optV_lt (fun v hv => ?_)
    have hp := partsD_pos l
    have := numF_lt _ (partsD l) 0 0 v (List.length_pos_iff.1 hp) (by simp) hv
    have h4 : (partsD l).length = 1 ∨ (partsD l).length = 2 ∨ (partsD l).length = 3 ∨ (partsD l).length = 4 := by omega
    rcases h4 with h4 | h4 | h4 | h4 <;> rw [h4] at this <;> simpa using this
  · decide
theorem splitD_count (c : UInt8) : ∀ l : Bs, (splitD c l).length ≤ l.length + 1
  | [] => by simp [splitD]
  | b :: r => by
    have ih := splitD_count c r
    rw [splitD]
    split
    · simp; omega
    · cases hs : splitD c r with
      | nil => simp
      | cons x t => rw [hs] at ih; simp at ih ⊢; omega
end Hs
namespace Go.Proofs.YtjbciamhhfcdoaaGreatDoor
open Go.RowKit Hs
set_option linter.unusedSimpArgs false
set_option linter.unusedVariables false
theorem h_label (s : ByteArray) (w : World) (hs : s.size ≤ 100000000) (ha : ascB (un s) = true) : Calls Tryz.prog 212 #[.string s] w fun e w' => (∃ t c, e = .returned (.tuple #[.string t, .int .i64 c]) ∧ ((c = 0 ∧ toAsciiV (un s) = some (un t)) ∨ (c ≠ 0 ∧ t = ⟨#[]⟩ ∧ toAsciiV (un s) = none))) ∧ Below w.heap.size w w' := by
  rw [toAsciiV_asc ha]
  exact py_toASCII_ascii s w hs ha
/-- The parts of a text, in a block of the call's own. -/
theorem lib_splitBlk (s : ByteArray) (w : World) (hB : Base w) (hs : s.size ≤ 100000000) : Calls Tryz.prog 179 #[.string s, .string ⟨#[46]⟩] w fun e w' => e = .returned (.slice (some ⟨w.heap.size, 0, none⟩) (splitD 46 (un s)).length (splitD 46 (un s)).length) ∧ w' = w.alloc (.cells (scells (splitD 46 (un s))).toArray 9) := by
  obtain ⟨_, ⟨m, hm⟩, _⟩ := hB
  refine (Tryz.strings_Split s ⟨#[46]⟩ m w (by omega) hm (by decide)).mono ?_
  rintro e w' ⟨rfl, rfl⟩
  have hlen := Lib.splitB_all (⟨#[46]⟩ : ByteArray) (by decide) 0 (Lib.countB s ⟨#[46]⟩) s rfl
  have hmap : (Lib.splitB (⟨#[46]⟩ : ByteArray) 0 (Lib.countB s ⟨#[46]⟩) s).map un = splitD 46 (un s) := (Lib.splitB_data _ 0 _ s).trans (split_one 46 (un s))
  have h2 : (splitD 46 (un s)).length = Lib.countB s ⟨#[46]⟩ + 1 := by rw [← hmap, List.length_map, hlen]
  have h3 : scells (splitD 46 (un s)) = (Lib.splitB (⟨#[46]⟩ : ByteArray) 0 (Lib.countB s ⟨#[46]⟩) s).map Value.string := by
    rw [← hmap]
    unfold scells
    rw [List.map_map]
    apply List.map_congr_left
    intro x _
    simp [Function.comp, mk_un]
  rw [h2, h3]
  exact ⟨rfl, rfl⟩
theorem lib_join46 (v : Value) (L : List Bs) (w : World) (hst : Strs w v L) (hl : (joinD 46 L).length ≤ 1000000) (hn : L.length ≤ 1000000) : Calls Tryz.prog 194 #[v, .string ⟨#[46]⟩] w fun e w' => e = .returned (.string (mk (joinD 46 L))) ∧ Below w.heap.size w w' := by
  obtain ⟨a, cap, rfl, h1, h2, hc⟩ := hst.open
  cases L with
  | nil =>
    refine (Tryz.strings_Join_none a cap ⟨#[46]⟩ w).mono ?_
    rintro e w' ⟨rfl, rfl⟩
    exact ⟨rfl, Below.refl _ _⟩
  | cons x r =>
    obtain ⟨b, off, rfl, hb, hcell⟩ := hc (by simp)
    have hx : ((x :: r).map mk).length = (x :: r).length := by simp
    have hm : (((x :: r).map mk).map (·.data.toList)) = x :: r := by
      rw [List.map_map]
      conv => rhs; rw [← List.map_id (x :: r)]
      apply List.map_congr_left
      intro y _
      exact un_mk y
    have hj : Lib.join (((x :: r).map mk).map (·.data.toList)) (⟨#[46]⟩ : ByteArray).data.toList = joinD 46 (x :: r) := by
      rw [hm]; exact intercalate_joinD 46 (x :: r)
    have := Tryz.strings_Join b off cap ((x :: r).map mk) ⟨#[46]⟩ w (by
      intro j y hy
      have hjl : j < (x :: r).length := by have := (List.getElem?_eq_some_iff.1 hy).1; simpa using this
      rw [List.getElem?_map, List.getElem?_eq_getElem hjl] at hy
      have hy := Option.some.inj hy
      rw [← hy]
      exact hcell j hjl) hb (by rw [hx]; omega) (by rw [hx]; exact h1) (by rw [hj]; omega)
    rw [hj, hx] at this
    exact this
/-- A block of strings is a slice of them. -/
theorem strs_blk {w : World} {g : Nat} {T : TypeId} {L : List Bs} (h : BlkL w g T (scells L)) (hn : L.length ≤ 1000000) : Strs w (.slice (some ⟨g, 0, none⟩) L.length L.length) L := by
  refine ⟨by simp [scells], _, _, rfl, Nat.le_refl _, by unfold maxLen; omega, .inr ⟨g, 0, rfl, h.lt, fun j u hj => ?_⟩⟩
  rw [Nat.zero_add]
  exact h.c j u hj
theorem below_setC (w : World) {b : Nat} (g k : Nat) (v : Value) (hb : b ≤ g) : Below b w (w.setCell ⟨g, k, none⟩ v) := ⟨rfl, rfl, rfl, by simp, fun j hj => Below.heap_setCell w ⟨g, k, none⟩ v j (fun e => by have : j = g := e; omega)⟩
theorem addrV_w {l : Bs} {h : HostP} (e : addrV l = some h) : HostW h := by
  unfold addrV at e
  split at e
  · cases hp : parse6 ((l.take (l.length - 1)).drop 1) with
    | none => rw [hp] at e; cases e
    | some v =>
      rw [hp] at e
      cases e
      have := parse6_addr hp
      exact ⟨this.1, this.2, (by omega : (0 : Nat) < 4294967296)⟩
  · cases e
theorem zer8_w (k : Nat) (n : Bs) (v : Nat) (hv : v < 4294967296) : HostW ⟨k, n, v, zer8⟩ := ⟨rfl, (by decide : ∀ x ∈ zer8, x < 65536), hv⟩
theorem hostV_w {l : Bs} {h : HostP} (e : hostV l = some h) : HostW h := by
  unfold hostV at e
  split at e
  · cases e
  · split at e
    · exact addrV_w e
    · split at e
      · cases e
      · unfold plainV at e
        split at e
        · split at e
          · cases e; exact zer8_w _ _ _ (numsV_lt _)
          · cases e
        · unfold domV at e
          split at e
          · cases e
          · unfold domL at e
            split at e
            · cases e
            · split at e
              · cases e
              · cases e; exact zer8_w _ _ _ (by omega)
end Go.Proofs.YtjbciamhhfcdoaaGreatDoor
namespace Go.Proofs.YtjbciamhhfcdoaaGreatDoor
open Go.RowKit Hs
set_option linter.unusedSimpArgs false
set_option linter.unusedVariables false
/-- What Parse of hosts hands back. -/
def HostRes (o : Option HostP) (base : Nat) (w : World) (e : Ending) (w' : World) : Prop := (∃ h c, e = .returned (.tuple #[.agg (hcells h).toArray, .int .i64 c]) ∧ ((c = 0 ∧ o = some h) ∨ (c ≠ 0 ∧ h = host0 ∧ o = none))) ∧ Below base w w'
theorem hostV_big {l : Bs} (h : 1024 < l.length) : hostV l = none := if_pos h
theorem hostV_addr {l : Bs} (h : ¬ 1024 < l.length) (hb : l.head? = some 91) : hostV l = addrV l := by unfold hostV; rw [if_neg h, if_pos hb]
theorem hostV_dec {l : Bs} (h : ¬ 1024 < l.length) (hb : l.head? ≠ some 91) : hostV l = match pctV l with
    | none => none
    | some t => plainV (dropDot t) := by unfold hostV; rw [if_neg h, if_neg hb]; rfl
set_option maxRecDepth 20000 in
set_option maxHeartbeats 4000000 in
theorem h_parse1 (s : ByteArray) (w : World) (hB : Base w) (h1 : 1024 < s.size) (hs : s.size ≤ 1000000) : Calls Tryz.prog 174 #[.string s] w (HostRes (hostV (un s)) w.heap.size w) := by
  have hfin := Lib.hid (hostV_big (l := un s) (by rw [length_un]; exact h1))
  have HS0 := Lib.hid (heap_alloc_new w (.cells (hcells host0).toArray 60))
  have g1 : decide ((1024 : Int) < (s.size : Int)) = true := decide_eq_true (by omega)
  go_enter Tryz.func174, Tryz.ntmps174
  go_wp2_with (first
    | refine wpList_store_row rfl 60 (.tmp 2) (.tmp 18) rfl w.heap.size (hcells host0).toArray rfl rfl 60 _ HS0.out infoHost rfl (all_one_of (hc_one host0)) ?_)
  all_goals (try (exfalso; omega))
  refine bodyPost_ret (results_ct rfl _ _ w.heap.size 60 _ _ rfl ((BlkL.new w 60 (hcells host0)).setRow (hcells host0)) Tryz.underlying60 rfl infoHost) rfl ?_
  exact ⟨⟨host0, 3, rfl, .inr ⟨by decide, rfl, hfin.out⟩⟩, below_setRow ((Below.refl _ w).alloc (Nat.le_refl _) _) (Nat.le_refl _) _⟩
set_option maxRecDepth 20000 in
set_option maxHeartbeats 4000000 in
theorem h_parse2 (s : ByteArray) (w : World) (hB : Base w) (h1 : s.size ≤ 1024) (hb : (un s).head? = some 91) : Calls Tryz.prog 174 #[.string s] w (HostRes (hostV (un s)) w.heap.size w) := by
  have hfin := Lib.hid (hostV_addr (l := un s) (by rw [length_un]; omega) hb)
  have hbA : Below w.heap.size w (w.alloc (.cells (hcells host0).toArray 60)) := (Below.refl _ w).alloc (Nat.le_refl _) _
  have hr0 : BlkL (w.alloc (.cells (hcells host0).toArray 60)) w.heap.size 60 (hcells host0) := BlkL.new w _ _
  have hsz0 : w.heap.size + 1 ≤ (w.alloc (.cells (hcells host0).toArray 60)).heap.size := by simp
  obtain ⟨W0, hW0⟩ : ∃ W0, W0 = w.alloc (.cells (hcells host0).toArray 60) := ⟨_, rfl⟩
  rw [← hW0] at hbA hr0 hsz0
  have HW0 := Lib.hid ((alloc_host w).trans hW0.symm)
  have B0 := hB.below hbA
  have HR0 := Lib.hid hr0
  clear hW0 hr0
  have hp := lib_hasPrefix s 91 W0
  rw [hb] at hp
  have HP := Lib.hid hp
  have HA := Lib.hid (h_address s W0 B0 (by omega) hb)
  clear hp hb hB
  go_enter Tryz.func174, Tryz.ntmps174
  go_wp2_with fail
  all_goals (try (exfalso; omega))
  rw [HW0.out]
  refine HP.out.mono ?_; rintro e w1 ⟨rfl, rfl⟩
  go_wp2_with fail
  all_goals (try (exfalso; omega))
  refine HA.out.mono ?_; rintro e w1 ⟨⟨h, c, rfl, hres⟩, hb1⟩
  have hw : HostW h := by
    rcases hres with ⟨_, h2⟩ | ⟨_, h2, _⟩
    · exact addrV_w h2
    · rw [h2]; exact host0_w
  have hi := infoHostOf hw.1
  have HR1 := Lib.hid (HR0.out.below (by omega) hb1)
  have HALL := Lib.hid (hbA.trans (hb1.mono (by omega)))
  have HRES := Lib.hid hres
  have HI := Lib.hid hi
  have HSZ := Lib.hid (show (hcells host0).toArray.size = (hcells h).toArray.size by rw [List.size_toArray, List.size_toArray, hc_len hw.1]; rfl)
  clear hb1 hbA hres hw hi HP HA HW0 HR0 B0
  go_wp2_with (first
    | refine wpList_store_row rfl 60 (.tmp 2) (.tmp 24) rfl w.heap.size (hcells h).toArray rfl rfl 60 _ HR1.out HI.out HSZ.out (all_one_of (hc_one h)) ?_)
  all_goals (try (exfalso; omega))
  refine bodyPost_ret (results_ct rfl _ _ w.heap.size 60 _ _ rfl (HR1.out.setRow (hcells h)) Tryz.underlying60 rfl HI.out) rfl ?_
  refine ⟨⟨h, c, rfl, ?_⟩, below_setRow HALL.out (Nat.le_refl _) _⟩
  rw [hfin.out]
  exact HRES.out
end Go.Proofs.YtjbciamhhfcdoaaGreatDoor
