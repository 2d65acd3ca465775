/- Append of a slice of numbers, whatever it is (nil, empty, a row), onto a slice that the call itself owns, as a step of a region that draws its order. Conditions: lengths are bounded.
   A string divided at a byte: the plain function, its laws, and that the library's splitting at a separator of one byte is it. No program in sight. Conditions: none.
   Plain functions of the layer ipv4: digits of a base, numbers, and their laws. No program in sight. Conditions: none.
   Plain laws of parts of a name, of addresses read and written. No program in sight. Conditions: none.
   Plain functions of labels and names: what is canonical. No program in sight. Conditions: none. -/
import Derived.Test.YtjbciamhhfcdoaaGreatDoorSub04
import Derived.Laws.OwnMore
import Derived.Deep.RegionLaw
import Derived.Lib.SmallJoins
import Derived.Test.YtjbciamhhfcdoaaGreatDoorSub01
import Derived.Lib.SplitLaws
import Derived.Lib.ItoaNum
import Derived.Test.YtjbciamhhfcdoaaGreatDoorSub02
namespace Hs
open Go Go.RowKit
theorem nadd_none (b off j : Nat) : (⟨b, off, none⟩ : Addr).add j = ⟨b, off + j, none⟩ := by
  unfold Addr.add
  split
  · rename_i h; rw [h]; rfl
  · rfl
theorem ncells_one (l : List Nat) : ∀ u ∈ ncells l, u.oneCell' = true := by
  intro u hu
  unfold ncells at hu
  obtain ⟨x, _, rfl⟩ := List.mem_map.1 hu
  rfl
theorem Nums.below {w w' : World} {v : Value} {l : List Nat} (h : Nums w v l) (hb : Below w.heap.size w w') : Nums w' v l := Row.below h hb
theorem Nums.nil (w : World) : Nums w (.slice none 0 0) [] := Row.nil w 1
theorem Nums.owned {w : World} {base n : Nat} {e : TypeId} {v : Value} {l : List Nat} (h : w.ownsRow base e 1 v n (ncells l)) : Nums w v l := by
  have h1 := h.1
  rw [length_ncells] at h1
  have := Row.owned h
  rw [← (show l.length = n by omega)] at this
  exact this
/-- A part of a slice of numbers. -/
theorem Nums.part {w : World} {b off n c : Nat} {l : List Nat} (h : Nums w (.slice (some ⟨b, off, none⟩) n c) l) (i j c' : Nat) (hij : i ≤ j) (hj : j ≤ n) (hc : j - i ≤ c') (hcm : c' ≤ maxLen) :
    Nums w (.slice (some ⟨b, off + i, none⟩) (j - i) c') ((l.take j).drop i) := by
  obtain ⟨hl, a, cap, hv, hn, hm, h⟩ := h
  injection hv with h1 h2 h3
  have hln : l.length = n := h2.symm
  have hlen : ((l.take j).drop i).length = j - i := by rw [List.length_drop, List.length_take, hln, Nat.min_eq_left hj]
  refine ⟨by simp, some ⟨b, off + i, none⟩, c', by rw [hlen], by omega, hcm, ?_⟩
  rcases h with h | ⟨b2, off2, ha, hlt, hcell⟩
  · left; omega
  · rw [← h1] at ha
    injection ha with ha
    injection ha with e1 e2
    subst e1 e2
    refine .inr ⟨b, off + i, rfl, hlt, fun k u hk => ?_⟩
    rw [Nat.add_assoc]
    refine hcell (i + k) u ?_
    unfold ncells at hk ⊢
    rw [List.getElem?_map] at hk ⊢
    rw [List.getElem?_drop, List.getElem?_take] at hk
    split at hk
    · exact hk
    · cases hk
theorem Nums.kept {w w' : World} {b off n c : Nat} {l : List Nat} {row : Option Nat} (h : Nums w (.slice (some ⟨b, off, none⟩) n c) l) (hg : w.grownBy w' row) (hr : some b ≠ row) : Nums w' (.slice (some ⟨b, off, none⟩) n c) l := by
  obtain ⟨hl, a, cap, hv, hn, hm, h⟩ := h
  refine ⟨hl, a, cap, hv, hn, hm, h.imp id ?_⟩
  rintro ⟨b2, off2, ha, hlt, hc⟩
  have hb : b2 = b := by
    injection hv with h1
    rw [← h1] at ha
    injection ha with ha
    injection ha with e1
    exact e1.symm
  subst hb
  exact ⟨b2, off2, ha, by have := hg.size; omega, fun j u hj => (World.cell?_of_block (w := w) (a := ⟨b2, off2 + j, none⟩) (hg.block b2 hlt hr)).trans (hc j u hj)⟩
/-- The head of a slice of numbers, and its tail. -/
theorem Nums.head {w : World} {b n c : Nat} {l : List Nat} (h : Nums w (.slice (some ⟨b, 0, none⟩) n c) l) (j : Nat) (hj : j ≤ n) (hnc : n ≤ c) (hcm : c ≤ maxLen) : Nums w (.slice (some ⟨b, 0, none⟩) j c) (l.take j) := by
  have := h.part 0 j c (Nat.zero_le _) hj (by omega) hcm
  simpa using this
theorem Nums.tail {w : World} {b n c : Nat} {l : List Nat} (h : Nums w (.slice (some ⟨b, 0, none⟩) n c) l) (hl : l.length = n) (i : Nat) (hi : i ≤ n) (hnc : n ≤ c) (hcm : c ≤ maxLen) : Nums w (.slice (some ⟨b, i, none⟩) (n - i) (c - i)) (l.drop i) := by
  have := h.part i n (c - i) hi (Nat.le_refl _) (by omega) (by omega)
  rw [List.take_of_length_le (by omega), Nat.zero_add] at this
  exact this
theorem Nums.tail2 {w : World} {b n c : Nat} {l : List Nat} (h : Nums w (.slice (some ⟨b, 0, none⟩) n c) l) (hl : l.length = n) (i : Nat) (hi : i ≤ n) (hnc : n ≤ c) (hcm : c ≤ maxLen) : Nums w (.slice (if c = i then some ⟨b, 0, none⟩ else some ⟨b, i, none⟩) (n - i) (c - i)) (l.drop i) := by
  by_cases hc : c = i
  · rw [if_pos hc]
    have : l.drop i = [] := List.drop_of_length_le (by omega)
    rw [this, show n - i = 0 by omega, show c - i = 0 by omega]
    exact ⟨by simp, some ⟨b, 0, none⟩, 0, rfl, Nat.le_refl _, by simp [maxLen], .inl rfl⟩
  · rw [if_neg hc]
    exact h.tail hl i hi hnc hcm
/-- An empty slice of the call's own. -/
theorem own_empty (w : World) (base : Nat) (hb : base ≤ w.heap.size) (e : TypeId) : (w.alloc (.cells #[] e)).ownsRow base e 1 (.slice (some ⟨w.heap.size, 0, none⟩) 0 0) 0 [] :=
  ⟨rfl, .inr ⟨w.heap.size, 0, #[], rfl, hb, heap_alloc_new w _, Nat.le_refl _, by simp [maxLen], rfl, rfl⟩⟩
/-- One number in a block of its own. -/
theorem num_lit (w : World) (x : Nat) (e : TypeId) : Nums (w.alloc (.cells #[.int .i64 (x : Int)] e)) (.slice (some ⟨w.heap.size, 0, none⟩) 1 1) [x] := by
  refine ⟨by simp, some ⟨w.heap.size, 0, none⟩, 1, by simp, by simp, by simp [maxLen], .inr ⟨w.heap.size, 0, rfl, by simp, fun j u hj => ?_⟩⟩
  rw [Nat.zero_add, World.cell?_alloc_mark]
  simpa [ncells] using hj
theorem num_lit2 (w : World) (x y : Nat) (e : TypeId) : Nums (w.alloc (.cells #[.int .i64 ((x : Int) + (y : Int))] e)) (.slice (some ⟨w.heap.size, 0, none⟩) 1 1) [x + y] := by
  rw [← Int.natCast_add]
  exact num_lit w (x + y) e
theorem own_emptyA (w : World) (e : TypeId) : (w.alloc (.cells #[] e)).drew.ownsRow w.heap.size e 1 (.slice (some ⟨w.heap.size, 0, none⟩) 0 0) 0 (ncells []) := (own_empty w w.heap.size (Nat.le_refl _) e).drew
theorem own_emptyB (w : World) (e : TypeId) (o : Obj) : ((w.alloc (.cells #[] e)).alloc o).drew.ownsRow w.heap.size e 1 (.slice (some ⟨w.heap.size, 0, none⟩) 0 0) 0 (ncells []) := ((own_empty w w.heap.size (Nat.le_refl _) e).alloc o).drew
theorem own_emptyC (w : World) (e : TypeId) (o : Obj) : ((w.alloc o).alloc (.cells #[] e)).drew.ownsRow w.heap.size e 1 (.slice (some ⟨w.heap.size + 1, 0, none⟩) 0 0) 0 (ncells []) := by
  have h := (own_empty (w.alloc o) w.heap.size (by simp) e).drew
  rw [World.size_alloc] at h
  exact h
theorem litB {w w' : World} {o : Obj} {x y n c : Nat} {e : TypeId} (hg : ((w.alloc o).alloc (.cells #[.int .i64 ((x : Int) + (y : Int))] e)).drew.grownBy w' (Value.slice (some ⟨w.heap.size, 0, none⟩) n c).ownBlock) : Nums w' (.slice (some ⟨w.heap.size + 1, 0, none⟩) 1 1) [x + y] := by
  have h := num_lit2 (w.alloc o) x y e
  rw [World.size_alloc] at h
  exact (h.below (Below.refl _ _).drew).kept hg (by simp [Value.ownBlock])
theorem litC {w w' : World} {o : Obj} {x y n c : Nat} {e : TypeId} (hg : ((w.alloc (.cells #[.int .i64 ((x : Int) + (y : Int))] e)).alloc o).drew.grownBy w' (Value.slice (some ⟨w.heap.size + 1, 0, none⟩) n c).ownBlock) : Nums w' (.slice (some ⟨w.heap.size, 0, none⟩) 1 1) [x + y] :=
  ((num_lit2 w x y e).below ((Below.refl _ _).alloc (Nat.le_refl _) _).drew).kept hg (by simp [Value.ownBlock])
theorem grow1 {w w' : World} {o : Obj} {z n c : Nat} (hg : (w.alloc o).drew.grownBy w' (Value.slice (some ⟨z, 0, none⟩) n c).ownBlock) (hz : w.heap.size ≤ z) : Below w.heap.size w w' :=
  (((Below.refl w.heap.size w).alloc (Nat.le_refl _) o).drew).grown hg (by simp) (fun k hk => by simp [Value.ownBlock] at hk; omega)
theorem grow2 {w w' : World} {o o' : Obj} {z n c : Nat} (hg : ((w.alloc o).alloc o').drew.grownBy w' (Value.slice (some ⟨z, 0, none⟩) n c).ownBlock) (hz : w.heap.size ≤ z) : Below w.heap.size w w' :=
  ((((Below.refl w.heap.size w).alloc (Nat.le_refl _) o).alloc (by simp) o').drew).grown hg (by simp; omega) (fun k hk => by simp [Value.ownBlock] at hk; omega)
/-- Behind a row's growth, from a state that holds a row of the base on. -/
theorem growB {w a b : World} {base n m : Nat} {e : TypeId} {v : Value} {xs : List Value} (hb : Below base w a) (hB : base ≤ w.heap.size) (ho : a.ownsRow base e m v n xs) (hg : a.grownBy b v.ownBlock) : Below base w b :=
  hb.grown hg (Nat.le_trans hB hb.size) (fun k hk => (ho.lt k hk).1)
theorem growA {w a b : World} {base n m : Nat} {e : TypeId} {v : Value} {xs : List Value} {o : Obj} (hb : Below base w a) (hB : base ≤ w.heap.size) (ho : a.ownsRow base e m v n xs) (hg : (a.alloc o).grownBy b v.ownBlock) : Below base w b :=
  (hb.alloc (Nat.le_trans hB hb.size) o).grown hg (by rw [World.size_alloc]; exact Nat.le_succ_of_le (Nat.le_trans hB hb.size)) (fun k hk => (ho.lt k hk).1)
end Hs
namespace Go.Proofs.YtjbciamhhfcdoaaGreatDoor
open Go.RowKit Hs
set_option linter.unusedSimpArgs false
set_option linter.unusedVariables false

theorem infoInt : (Tryz.prog.info? 3).map (fun i => (i.zero, i.size, i.bytes)) = some (some (.int .i64 0), 1, 8) := by kernel_rfl
theorem run_append_nums (w : World) (ty : TypeId) (base : Nat) (v : Value) (n : Nat) (xs : List Nat) (hown : w.ownsRow base 3 1 v n (ncells xs)) (xv : Value) (r : List Nat) (hr : Nums w xv r) (h1 : n + r.length ≤ 1000000) (hb : base ≤ w.heap.size) :
    ∃ v' w', (Builtin.append_ #[140, 140] ty #[v, xv]).run Tryz.prog w = .ok v' w' ∧ w'.ownsRow base 3 1 v' (n + r.length) (ncells (xs ++ r)) ∧ w.grownBy w' v.ownBlock := by
  obtain ⟨iN0, iN⟩ := info_parts infoInt
  obtain ⟨ar, c, rfl, hn, hm, hc⟩ := hr.open
  rcases Nat.eq_zero_or_pos r.length with h0 | hpos
  · obtain rfl : r = [] := List.eq_nil_of_length_eq_zero h0
    refine ⟨v, w, ?_, by simpa [ncells] using hown, ⟨rfl, rfl, rfl, Nat.le_refl _, fun _ _ _ => rfl⟩⟩
    rcases hown.2 with ⟨rfl, rfl⟩ | ⟨g, cap, cur, rfl, _, _, hnc, _⟩ <;> cases ar <;>
      simp [Builtin.append_, run_underlying Tryz.underlying140, sizeOf, typeInfo, iN.1, Builtin.lenOf, Builtin.firstCells, loadCells, loadCellsFrom, storeCells, *]
  · obtain ⟨b, off, rfl, hlt, hcell⟩ := hc hpos
    have hnews : ∀ j u, (ncells r)[j]? = some u → w.cell? ((⟨b, off, none⟩ : Addr).add j) = some u := by
      intro j u hj
      obtain ⟨h, e⟩ := List.getElem?_eq_some_iff.1 hj
      have hjl : j < r.length := by simpa using h
      rw [nadd_none, hcell j hjl, ← e]
      simp [ncells]
    obtain ⟨v', w', h2, h3, h4, _⟩ := run_append_own (P := Tryz.prog) w base 140 ty 3 iN0 (.int .i64 0) 1 8 Tryz.underlying140 iN.1 iN.2.1 iN.2.2.1 iN.2.2.2 rfl (by decide) v n (ncells xs) hown ⟨b, off, none⟩ r.length c (ncells r) (by simp) hnews (ncells_one r) (by unfold maxLen; omega) (by omega) hb
    exact ⟨v', w', h2, by rw [ncells_append]; exact h3, h4⟩
theorem step_append_nums {ops : Array Oper} {o : Oper} {a : Act} {w : World} {K : Act → World → Prop} {Q : Exit → Act → World → Prop} {E : Prop} (hgd : o.guard = none) (s x : Operand)
    (ho : o.op = .call { callee := .builtin .append, args := #[s, x], argTypes := #[140, 140] })
    (base : Nat) (v : Value) (n : Nat) (xs : List Nat) (hs : a.eval s = v) (hown : w.ownsRow base 3 1 v n (ncells xs)) (xv : Value) (hx : a.eval x = xv) (r : List Nat) (hr : Nums w xv r) (h1 : n + r.length ≤ 1000000) (hb : base ≤ w.heap.size)
    (h : ∀ v' w', w'.ownsRow base 3 1 v' (n + r.length) (ncells (xs ++ r)) → w.grownBy w' v.ownBlock → K (a.put o.dst v') w') : if Region.wanted o (yielded ops a.tmps) = true then Oper.wp Tryz.prog o a w K Q else E := by
  have hw : Region.wanted o (yielded ops a.tmps) = true := by simp [Region.wanted, hgd]
  rw [if_pos hw]
  obtain ⟨v', w', hrun, h2, h3⟩ := run_append_nums w o.type base v n xs hown xv r hr h1 hb
  unfold Oper.wp execOp
  simp only [ho, resolve, invoke, builtin, Sem.run_bind, Sem.run_pure, Result.andThen_ok, List.map_toArray, List.map_cons, List.map_nil, hs, hx, hrun]
  exact h v' w' h2 h3
end Go.Proofs.YtjbciamhhfcdoaaGreatDoor
namespace Hs
open Go

/-- The parts between the bytes c. -/
def splitD (c : UInt8) : Bs → List Bs
  | [] => [[]]
  | b :: r => if b = c then [] :: splitD c r else match splitD c r with
    | h :: t => (b :: h) :: t
    | [] => [[b]]
theorem splitD_ne (c : UInt8) : ∀ l : Bs, splitD c l ≠ []
  | [] => by simp [splitD]
  | b :: r => by
    unfold splitD
    split
    · simp
    · split <;> simp
theorem splitD_none (c : UInt8) : ∀ a : Bs, (∀ x ∈ a, x ≠ c) → splitD c a = [a]
  | [], _ => rfl
  | b :: r, h => by
    have ih := splitD_none c r (fun x hx => h x (List.mem_cons_of_mem _ hx))
    unfold splitD
    rw [if_neg (h b (List.mem_cons_self ..)), ih]
theorem splitD_at (c : UInt8) (r : Bs) : ∀ a : Bs, (∀ x ∈ a, x ≠ c) → splitD c (a ++ c :: r) = a :: splitD c r
  | [], _ => by simp [splitD]
  | b :: a, h => by
    have ih := splitD_at c r a (fun x hx => h x (List.mem_cons_of_mem _ hx))
    rw [List.cons_append, splitD, if_neg (h b (List.mem_cons_self ..)), ih]
theorem splitK_one (c : UInt8) : ∀ l : Bs, Lib.splitK [c] 0 (Lib.count l [c]) l = splitD c l
  | [] => by
    have h : Lib.count [] [c] = 0 := by rw [Lib.count_one]; rfl
    rw [h]; rfl
  | b :: l => by
    have ih := splitK_one c l
    by_cases hb : b = c
    · subst hb
      rw [Lib.count_cons_eq, Nat.add_comm, Lib.splitK, splitD, if_pos rfl]
      have hix : Lib.index (b :: l) [b] = 0 := by rw [Lib.index]; simp
      rw [hix, if_neg (by decide)]
      simp only [Int.toNat_zero, List.length_singleton, Nat.zero_add, List.drop_succ_cons, List.drop_zero, Nat.add_zero, List.take_zero]
      rw [ih]
    · rw [Lib.count_cons_ne b c l hb, splitD, if_neg hb]
      have hp : ([c] : Bs).isPrefixOf (b :: l) = false := by
        simp only [List.isPrefixOf, Bool.and_true]
        exact beq_eq_false_iff_ne.2 (fun e => hb e.symm)
      have hix : Lib.index (b :: l) [c] = if Lib.index l [c] == -1 then -1 else Lib.index l [c] + 1 := by rw [Lib.index, hp]; simp
      rw [← ih]
      cases hn : Lib.count l [c] with
      | zero => rfl
      | succ k =>
        have hge := Lib.index_ge l [c]
        by_cases hm : Lib.index l [c] = -1
        · rw [Lib.splitK, Lib.splitK, hix, hm]; rfl
        · have e1 : ¬ (Lib.index l [c] == -1) = true := fun e => hm (beq_iff_eq.1 e)
          have e2 : ¬ (Lib.index (b :: l) [c] == -1) = true := fun e => by have := beq_iff_eq.1 e; rw [hix, if_neg e1] at this; omega
          have e3 : (Lib.index (b :: l) [c]).toNat = (Lib.index l [c]).toNat + 1 := by rw [hix, if_neg e1]; omega
          rw [Lib.splitK, Lib.splitK, if_neg e1, if_neg e2, e3]
          simp
theorem split_one (c : UInt8) (l : Bs) : Lib.split l [c] = splitD c l := splitK_one c l
end Hs
namespace Hs
open Go

/-- The value of a digit, or 99. -/
def digV (b : UInt8) : Nat := if 48 ≤ b.toNat ∧ b.toNat ≤ 57 then b.toNat - 48 else if 97 ≤ b.toNat ∧ b.toNat ≤ 102 then b.toNat - 87 else if 65 ≤ b.toNat ∧ b.toNat ≤ 70 then b.toNat - 55 else 99
/-- The number of digits, limited at every step to 2^40. -/
def satB (base : Nat) : Bs → Nat → Nat
  | [], n => n
  | b :: r, n => satB base r (min (n * base + digV b) 1099511627776)
/-- The number of digits. -/
def valB (base : Nat) : Bs → Nat → Nat
  | [], n => n
  | b :: r, n => valB base r (n * base + digV b)
theorem satB_min (base : Nat) (h : 1 ≤ base) : ∀ (l : Bs) (v : Nat), satB base l (min v 1099511627776) = min (valB base l v) 1099511627776
  | [], v => rfl
  | b :: r, v => by
    have ih := satB_min base h r (v * base + digV b)
    rw [satB, valB, ← ih]
    congr 1
    by_cases hv : v ≤ 1099511627776
    · rw [Nat.min_eq_left hv]
    · have e1 : 1099511627776 ≤ v * base := Nat.le_trans (by omega) (Nat.le_mul_of_pos_right v h)
      have e2 : 1099511627776 ≤ 1099511627776 * base := Nat.le_mul_of_pos_right _ h
      rw [Nat.min_eq_right (by omega : 1099511627776 ≤ v)]
      omega
theorem satB_zero (base : Nat) (h : 1 ≤ base) (l : Bs) : satB base l 0 = min (valB base l 0) 1099511627776 := satB_min base h l 0
theorem satB_snoc (base : Nat) : ∀ (l : Bs) (b : UInt8) (n : Nat), satB base (l ++ [b]) n = min (satB base l n * base + digV b) 1099511627776
  | [], b, n => rfl
  | c :: l, b, n => by simp only [List.cons_append, satB]; exact satB_snoc base l b _
theorem satB_take (base : Nat) (l : Bs) (k : Nat) (h : k < l.length) : satB base (l.take (k + 1)) 0 = min (satB base (l.take k) 0 * base + digV l[k]) 1099511627776 := by
  rw [List.take_succ_eq_append_getElem h, satB_snoc]
theorem satB_le (base : Nat) (h : 1 ≤ base) (l : Bs) : satB base l 0 ≤ 1099511627776 := by rw [satB_zero base h]; omega
/-- All bytes are digits of the base. -/
def allB (base : Nat) (l : Bs) : Bool := l.all fun b => decide (digV b < base)
/-- The number that digits of a base denote. -/
def numB (base : Nat) (l : Bs) : Nat × Bool := if allB base l then (satB base l 0, true) else (0, false)
/-- A part begins like a hexadecimal number. -/
def hexP (l : Bs) : Bool := match l with
  | a :: b :: _ => decide (a = 48 ∧ (b = 120 ∨ b = 88))
  | _ => false
/-- The number that a part denotes. -/
def numP (l : Bs) : Nat × Bool :=
  if l = [] then (0, false)
  else if hexP l then numB 16 (l.drop 2)
  else if 1 < l.length ∧ l[0]? = some 48 then numB 8 (l.drop 1)
  else numB 10 l
/-- The parts of a name, a last one that is empty left out. -/
def partsD (l : Bs) : List Bs := if 1 < (splitD 46 l).length ∧ (splitD 46 l).getLast? = some [] then (splitD 46 l).dropLast else splitD 46 l
theorem numB_le (base : Nat) (h : 1 ≤ base) (l : Bs) : (numB base l).1 ≤ 1099511627776 := by
  unfold numB
  split
  · exact satB_le base h l
  · exact Nat.zero_le _
theorem numP_le (l : Bs) : (numP l).1 ≤ 1099511627776 := by
  unfold numP
  split
  · exact Nat.zero_le _
  · split
    · exact numB_le 16 (by decide) _
    · split
      · exact numB_le 8 (by decide) _
      · exact numB_le 10 (by decide) _
end Hs
namespace Hs
open Go

theorem splitD_len (c : UInt8) : ∀ (l : Bs), ∀ x ∈ splitD c l, x.length ≤ l.length
  | [], x, hx => by simp [splitD] at hx; simp [hx]
  | b :: r, x, hx => by
    have ih := splitD_len c r
    unfold splitD at hx
    split at hx
    · rcases List.mem_cons.1 hx with rfl | h
      · simp
      · have := ih x h; simp; omega
    · split at hx
      · rename_i h t he
        rcases List.mem_cons.1 hx with rfl | h2
        · have := ih h (by rw [he]; simp); simp; omega
        · have := ih x (by rw [he]; exact List.mem_cons_of_mem _ h2); simp; omega
      · simp at hx; subst hx; simp
theorem partsD_mem {l x : Bs} (h : x ∈ partsD l) : x ∈ splitD 46 l := by
  unfold partsD at h
  split at h
  · exact (List.dropLast_sublist _).subset h
  · exact h
theorem partsD_len (l : Bs) : ∀ x ∈ partsD l, x.length ≤ l.length := fun x h => splitD_len 46 l x (partsD_mem h)
theorem splitD_pos (l : Bs) : 0 < (splitD 46 l).length := List.length_pos_iff.2 (splitD_ne 46 l)
theorem partsD_pos (l : Bs) : 0 < (partsD l).length := by
  have := splitD_pos l
  unfold partsD
  split
  · rw [List.length_dropLast]; omega
  · exact this
/-- The number of a part in strict form. -/
def strN (p : Bs) : Option Nat := if (numB 10 p).2 = true ∧ (numB 10 p).1 ≤ 255 ∧ Lib.decDigits (numB 10 p).1 = p then some (numB 10 p).1 else none
theorem strN_le {p : Bs} {n : Nat} (h : strN p = some n) : n ≤ 255 := by
  unfold strN at h
  split at h
  · rename_i h2; cases h; exact h2.2.1
  · cases h
/-- The address of parts in strict form, behind a number. -/
def strF : List Bs → Nat → Option Nat
  | [], v => some v
  | p :: r, v => match strN p with
    | some n => strF r (v * 256 + n)
    | none => none
/-- A result as the program hands it back. -/
def optV : Option Nat → Nat × Bool
  | some v => (v, true)
  | none => (0, false)
/-- The address of a strict form. -/
def parseV (l : Bs) : Nat × Bool := if (splitD 46 l).length = 4 then optV (strF (splitD 46 l) 0) else (0, false)
/-- The number of parts: the last takes the free places. -/
def numF (free : Nat) : List Bs → Nat → Option Nat
  | [], v => some v
  | [p], v => if (numP p).2 = true ∧ (numP p).1 < 2 ^ free then some (v * 2 ^ free + (numP p).1) else none
  | p :: q :: r, v => if (numP p).2 = true ∧ (numP p).1 ≤ 255 then numF free (q :: r) (v * 256 + (numP p).1) else none
/-- The address that numbers denote. -/
def numsV (l : Bs) : Nat × Bool := if (partsD l).length ≤ 4 then optV (numF (8 * (5 - (partsD l).length)) (partsD l) 0) else (0, false)
/-- Whether a name is an address or not valid. -/
def numericV (l : Bs) : Bool :=
  let p := ((partsD l).getLast?).getD []
  if hexP p then (numP p).2 else (numB 10 p).2 && !p.isEmpty
/-- The text of an address. -/
def fmtV (v : Nat) : Bs := Lib.decDigits (v / 16777216 % 256) ++ 46 :: (Lib.decDigits (v / 65536 % 256) ++ 46 :: (Lib.decDigits (v / 256 % 256) ++ 46 :: Lib.decDigits (v % 256)))
end Hs
namespace Hs
open Go
set_option linter.unusedVariables false
set_option linter.unusedSimpArgs false

/-- Whether a label may consist of the prefix and l. -/
def properV (l : Bs) : Bool := match decV l with
  | none => false
  | some p => !(p.any (fun n => decide (65 ≤ n ∧ n ≤ 90))) && p.any (fun n => decide (128 ≤ n)) && decide (encV p = some l)
/-- A byte of a canonical label. -/
def labB (b : UInt8) : Bool := decide ((97 ≤ b.toNat ∧ b.toNat ≤ 122) ∨ (48 ≤ b.toNat ∧ b.toNat ≤ 57) ∨ b.toNat = 45 ∨ b.toNat = 95)
/-- A canonical label. -/
def labelV (l : Bs) : Bool := decide (1 ≤ l.length ∧ l.length ≤ 63 ∧ l.head? ≠ some 45 ∧ l.getLast? ≠ some 45) && l.all labB && (!(decide (l.take 4 = [120, 110, 45, 45])) || properV (l.drop 4))
/-- A canonical name. -/
def nameV (l : Bs) : Bool := decide (l.length ≤ 253) && !(numericV l) && (splitD 46 l).all labelV
end Hs
