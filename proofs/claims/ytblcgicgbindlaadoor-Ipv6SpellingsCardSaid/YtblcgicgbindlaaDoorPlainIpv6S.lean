/- Plain law of layer 11: spellings of an address are read as this address. No program in sight. Conditions: none. -/
import Derived.Test.YtblcgicgbindlaaDoorPlainIpv6C
namespace Hs
open Go
set_option linter.unusedVariables false
set_option linter.unusedSimpArgs false

/-- A letter in upper case, if the flag says so. -/
def capB (up : Bool) (b : UInt8) : UInt8 := if up = true ∧ 97 ≤ b.toNat ∧ b.toNat ≤ 122 then b - 32 else b
theorem digV_cap (up : Bool) (d : Nat) (h : d < 16) : digV (capB up (hexC d)) = d := by
  have : ∀ (up : Bool) (d : Fin 16), digV (capB up (hexC d.1)) = d.1 := by decide
  exact this up ⟨d, h⟩
theorem valB_cap (up : Bool) : ∀ (l : Bs) (n : Nat), (∀ x ∈ l, ∃ d, d < 16 ∧ x = hexC d) → valB 16 (l.map (capB up)) n = valB 16 l n
  | [], n, _ => rfl
  | b :: r, n, h => by
    obtain ⟨d, hd, rfl⟩ := h b (by simp)
    rw [List.map_cons, valB, valB, digV_cap up d hd, digV_hexC d hd]
    exact valB_cap up r _ (fun x hx => h x (List.mem_cons_of_mem _ hx))
theorem valB_zeros : ∀ (j : Nat), valB 16 (List.replicate j 48) 0 = 0
  | 0 => rfl
  | j + 1 => by
    rw [List.replicate_succ, valB]
    have : 0 * 16 + digV 48 = 0 := by decide
    rw [this]; exact valB_zeros j
/-- A group with leading zeros and letters of either case. -/
def grpT (zs : Nat) (up : Bool) (g : Nat) : Bs := List.replicate (min zs (4 - (hexT g).length)) 48 ++ (hexT g).map (capB up)
theorem hexT_mem (g : Nat) : ∀ x ∈ hexT g, ∃ d, d < 16 ∧ x = hexC d := digs_mem 16 (by decide) (by decide) (g + 1) g (by omega)
theorem grpT_dig (zs : Nat) (up : Bool) (g : Nat) : ∀ x ∈ grpT zs up g, digV x < 16 := by
  intro x hx
  rcases List.mem_append.1 hx with hx | hx
  · have := List.eq_of_mem_replicate hx
    subst this; decide
  · obtain ⟨y, hy, rfl⟩ := List.mem_map.1 hx
    obtain ⟨d, hd, rfl⟩ := hexT_mem g y hy
    rw [digV_cap up d hd]; exact hd
theorem grpT_len (zs : Nat) (up : Bool) (g : Nat) (h : g < 65536) : 1 ≤ (grpT zs up g).length ∧ (grpT zs up g).length ≤ 4 := by
  have h1 := hexT_len g h
  have h2 : 0 < (hexT g).length := List.length_pos_iff.2 (hexT_solid g).1
  unfold grpT
  simp
  omega
theorem grpV_grpT (zs : Nat) (up : Bool) (g : Nat) (h : g < 65536) : grpV (grpT zs up g) = some g := by
  have hl := grpT_len zs up g h
  have ha : allB 16 (grpT zs up g) = true := by
    unfold allB
    rw [List.all_eq_true]
    exact fun x hx => decide_eq_true (grpT_dig zs up g x hx)
  unfold grpV
  rw [if_pos ⟨hl.1, hl.2, ha⟩]
  unfold grpT
  rw [valB_append, valB_zeros, valB_cap up _ _ (hexT_mem g)]
  exact congrArg some (valB_digs 16 (by decide) (by decide) (g + 1) g (by omega))
theorem grpT_solid (zs : Nat) (up : Bool) (g : Nat) (h : g < 65536) : grpT zs up g ≠ [] ∧ ∀ x ∈ grpT zs up g, x ≠ 58 := by
  refine ⟨List.length_pos_iff.1 (grpT_len zs up g h).1, ?_⟩
  rintro x hx rfl
  have := grpT_dig zs up g 58 hx
  rw [digV58] at this
  omega
theorem fmtV_solid (v : Nat) : fmtV v ≠ [] ∧ ∀ x ∈ fmtV v, x ≠ 58 := by
  have h58 : ∀ n, ∀ x ∈ Lib.decDigits n, x ≠ 58 := by
    rintro n x hx rfl
    exact absurd (List.all_eq_true.1 (decDigits_all n) 58 hx) (by decide)
  refine ⟨?_, ?_⟩
  · unfold fmtV
    intro e
    have := congrArg List.length e
    simp at this
  · intro x hx
    unfold fmtV at hx
    rcases List.mem_append.1 hx with hx | hx
    · exact h58 _ x hx
    · rcases List.mem_cons.1 hx with rfl | hx
      · decide
      · rcases List.mem_append.1 hx with hx | hx
        · exact h58 _ x hx
        · rcases List.mem_cons.1 hx with rfl | hx
          · decide
          · rcases List.mem_append.1 hx with hx | hx
            · exact h58 _ x hx
            · rcases List.mem_cons.1 hx with rfl | hx
              · decide
              · exact h58 _ x hx
theorem grpV_fmtV (v : Nat) : grpV (fmtV v) = none := by
  unfold grpV
  rw [if_neg]
  rintro ⟨_, _, ha⟩
  have h46 : (46 : UInt8) ∈ fmtV v := by unfold fmtV; simp
  have := List.all_eq_true.1 ha 46 h46
  rw [digV46] at this
  exact absurd this (by decide)
theorem grpsA_map (last : Bool) (zs : Nat) (up : Bool) (t : List Bs) : ∀ (l acc : List Nat), (∀ x ∈ l, x < 65536) → grpsA last (l.map (grpT zs up) ++ t) acc = grpsA last t (acc ++ l)
  | [], acc, _ => by simp
  | g :: l, acc, h => by
    rw [List.map_cons, List.cons_append, grpsA, grpV_grpT zs up g (h g (by simp))]
    simp only
    rw [grpsA_map last zs up t l _ (fun x hx => h x (List.mem_cons_of_mem _ hx))]
    simp
theorem grpsA_v4 (v : Nat) (hv : v < 4294967296) (acc : List Nat) : grpsA true [fmtV v] acc = some (acc ++ [v / 65536, v % 65536]) := by
  rw [grpsA, grpV_fmtV]
  simp only
  rw [parse_fmt v hv]
  simp
/-- The parts of a spelling. -/
def partsS (zs : Nat) (up dotted : Bool) (l : List Nat) : List Bs :=
  if dotted then (l.take 6).map (grpT zs up) ++ [fmtV ((l[6]?.getD 0) * 65536 + l[7]?.getD 0)] else l.map (grpT zs up)
/-- A spelling: n groups from a place on are left out. -/
def spell6 (zs : Nat) (up dotted : Bool) (l : List Nat) (fr n : Nat) : Bs :=
  if n = 0 then joinD 58 (partsS zs up dotted l) else joinD 58 ((partsS zs up dotted l).take fr) ++ 58 :: 58 :: joinD 58 ((partsS zs up dotted l).drop (fr + n))
theorem partsS_solid (zs : Nat) (up dotted : Bool) (l : List Nat) (h : ∀ x ∈ l, x < 65536) : Solid (partsS zs up dotted l) := by
  intro a ha
  unfold partsS at ha
  split at ha
  · rcases List.mem_append.1 ha with ha | ha
    · obtain ⟨g, hg, rfl⟩ := List.mem_map.1 ha
      exact grpT_solid zs up g (h g (List.mem_of_mem_take hg))
    · simp at ha; subst ha; exact fmtV_solid _
  · obtain ⟨g, hg, rfl⟩ := List.mem_map.1 ha
    exact grpT_solid zs up g (h g hg)
theorem eight {l : List Nat} (h : l.length = 8) : ∃ a b c d e f g k, l = [a, b, c, d, e, f, g, k] := by
  match l, h with
  | [a, b, c, d, e, f, g, k], _ => exact ⟨a, b, c, d, e, f, g, k, rfl⟩
theorem partsS_drop (zs : Nat) (up dotted : Bool) (l : List Nat) (h : Addr6 l) (j : Nat) (hj : dotted = true → j ≤ 6) (acc : List Nat) : grpsA true ((partsS zs up dotted l).drop j) acc = some (acc ++ l.drop j) := by
  cases dotted
  · show grpsA true ((l.map (grpT zs up)).drop j) acc = _
    rw [← List.map_drop]
    have := grpsA_map true zs up [] (l.drop j) acc (fun x hx => h.2 x (List.mem_of_mem_drop hx))
    rw [List.append_nil] at this
    rw [this]; rfl
  · have hj6 := hj rfl
    have h8 := h.1
    have hl6 : ((l.take 6).map (grpT zs up)).length = 6 := by simp; omega
    show grpsA true (((l.take 6).map (grpT zs up) ++ [fmtV _]).drop j) acc = _
    rw [List.drop_append_of_le_length (by omega), ← List.map_drop, grpsA_map true zs up _ _ acc (fun x hx => h.2 x (List.mem_of_mem_take (List.mem_of_mem_drop hx)))]
    obtain ⟨a, b, c, d, e, f, g, k, rfl⟩ := eight h8
    have hg := h.2 g (by simp)
    have hk := h.2 k (by simp)
    rw [grpsA_v4 _ (by simp; omega)]
    have e1 : ([a, b, c, d, e, f, g, k][6]?.getD 0 * 65536 + [a, b, c, d, e, f, g, k][7]?.getD 0) = g * 65536 + k := rfl
    rw [e1]
    have e2 : (g * 65536 + k) / 65536 = g := by omega
    have e3 : (g * 65536 + k) % 65536 = k := by omega
    rw [e2, e3]
    congr 1
    rw [List.append_assoc]
    congr 1
    have e4 : [a, b, c, d, e, f, g, k] = [a, b, c, d, e, f] ++ [g, k] := rfl
    rw [e4, List.drop_append_of_le_length (by simpa using hj6)]
    rfl
theorem partsS_take (zs : Nat) (up dotted : Bool) (l : List Nat) (h : Addr6 l) (j : Nat) (hj : dotted = true → j ≤ 6) : (partsS zs up dotted l).take j = (l.take j).map (grpT zs up) := by
  cases dotted
  · show (l.map (grpT zs up)).take j = _
    rw [List.map_take]
  · have hj6 := hj rfl
    have h8 := h.1
    have hl6 : ((l.take 6).map (grpT zs up)).length = 6 := by simp; omega
    show ((l.take 6).map (grpT zs up) ++ [fmtV _]).take j = _
    rw [List.take_append_of_le_length (by omega), ← List.map_take, List.take_take, Nat.min_eq_left hj6]
theorem grpsV_parts (last : Bool) (L : List Bs) (h : Solid L) (y : List Nat) (hy : grpsA last L [] = some y) : grpsV (joinD 58 L) last = some y := by
  unfold grpsV
  cases L with
  | nil => simpa [joinD, grpsA] using hy
  | cons q L =>
    rw [if_neg (joinD_ne q L (h q (by simp)).1), split_joinD 58 _ (by simp) (fun a ha => (h a ha).2)]
    exact hy
theorem solid_take {L : List Bs} (h : Solid L) (j : Nat) : Solid (L.take j) := fun a ha => h a (List.mem_of_mem_take ha)
theorem solid_drop {L : List Bs} (h : Solid L) (j : Nat) : Solid (L.drop j) := fun a ha => h a (List.mem_of_mem_drop ha)
/-- A spelling is read as the address. -/
theorem parse6_spell (zs : Nat) (up dotted : Bool) (l : List Nat) (h : Addr6 l) (fr n : Nat) (hn : fr + n ≤ 8) (hd : dotted = true → fr + n ≤ 6) (hz : (l.drop fr).take n = List.replicate n 0) :
    parse6 (spell6 zs up dotted l fr n) = some l := by
  have hs := partsS_solid zs up dotted l h.2
  unfold spell6
  split
  · unfold parse6
    rw [cut2_none _ hs]
    simp only
    have e := partsS_drop zs up dotted l h 0 (fun _ => by omega) []
    rw [List.drop_zero, List.drop_zero] at e
    rw [grpsV_parts true _ hs _ e]
    simp [h.1]
  · rename_i hn0
    unfold parse6
    rw [cut2_join _ _ (solid_take hs fr)]
    simp only
    have e1 := grpsA_map false zs up [] (l.take fr) [] (fun x hx => h.2 x (List.mem_of_mem_take hx))
    rw [List.append_nil, ← partsS_take zs up dotted l h fr (fun e => by have := hd e; omega)] at e1
    have e2 := partsS_drop zs up dotted l h (fr + n) hd []
    rw [grpsV_parts false _ (solid_take hs fr) _ e1, grpsV_parts true _ (solid_drop hs (fr + n)) _ e2]
    simp only [List.nil_append]
    have h8 := h.1
    have hl1 : (l.take fr).length = fr := by rw [List.length_take]; omega
    have hl2 : (l.drop (fr + n)).length = 8 - (fr + n) := by rw [List.length_drop]; omega
    rw [hl1, hl2, if_pos (by omega)]
    congr 1
    have e : 8 - fr - (8 - (fr + n)) = n := by omega
    rw [e]
    exact (split_zeros l (fr, n) ⟨by simp only; omega, hz⟩).symm
/-- The first k groups from a place on set to 0. -/
def zeroed (l : List Nat) (fr k : Nat) : List Nat := l.take fr ++ (List.replicate k 0 ++ l.drop (fr + k))
theorem zeroed_addr {l : List Nat} (h : Addr6 l) {fr k : Nat} (hk : fr + k ≤ 8) : Addr6 (zeroed l fr k) := by
  have h8 := h.1
  refine ⟨by simp [zeroed]; omega, ?_⟩
  intro x hx
  rcases List.mem_append.1 hx with hx | hx
  · exact h.2 x (List.mem_of_mem_take hx)
  · rcases List.mem_append.1 hx with hx | hx
    · rw [List.mem_replicate] at hx; omega
    · exact h.2 x (List.mem_of_mem_drop hx)
theorem zeroed_zero {l : List Nat} (h : l.length = 8) {fr k : Nat} (hk : fr + k ≤ 8) : ((zeroed l fr k).drop fr).take k = List.replicate k 0 := by
  unfold zeroed
  rw [List.drop_left' (by rw [List.length_take]; omega), List.take_left' (by simp)]
theorem zeroed_none (l : List Nat) (fr : Nat) : zeroed l fr 0 = l := by simp [zeroed]
theorem set_at (A B : List Nat) (x v : Nat) : (A ++ x :: B).set A.length v = A ++ v :: B := by
  rw [List.set_append_right _ _ (Nat.le_refl _), Nat.sub_self]; rfl
theorem zeroed_step {l : List Nat} (h : l.length = 8) {fr k : Nat} (hk : fr + k < 8) : (zeroed l fr k).set (fr + k) 0 = zeroed l fr (k + 1) := by
  have hd : l.drop (fr + k) = l[fr + k]'(by omega) :: l.drop (fr + k + 1) := List.drop_eq_getElem_cons (by omega)
  have hA : (l.take fr ++ List.replicate k 0).length = fr + k := by rw [List.length_append, List.length_take, List.length_replicate]; omega
  have e1 : zeroed l fr k = (l.take fr ++ List.replicate k 0) ++ l[fr + k]'(by omega) :: l.drop (fr + k + 1) := by rw [zeroed, ← List.append_assoc, hd]
  have e2 := set_at (l.take fr ++ List.replicate k 0) (l.drop (fr + k + 1)) (l[fr + k]'(by omega)) 0
  rw [hA, ← e1] at e2
  rw [e2]
  unfold zeroed
  rw [List.replicate_succ', List.append_assoc, List.append_assoc]
  rfl
end Hs
