/- The walk of groups of ipv6. Conditions: strings are of bounded length; the library's tables stand.
   Blocks of three cells that a walk knows whole: what their cells hold, behind calls, new blocks and stores. Conditions: none. -/
import Derived.Test.YtjbciamhhfcdoaaGreatDoorSub22
import Derived.Test.YtjbciamhhfcdoaaGreatDoorSub01
import Derived.Laws.ResultCell
import Derived.Laws.Rows
namespace Go.Proofs.YtjbciamhhfcdoaaGreatDoor
open Go.RowKit Hs
set_option linter.unusedSimpArgs false
set_option linter.unusedVariables false

theorem infoU16 : (Tryz.prog.info? 57).map (fun i => (i.zero, i.size, i.bytes)) = some (some (.int .u16 0), 1, 2) := by kernel_rfl
/-- What a call owns is unchanged by what leaves old blocks alone. -/
theorem own_later {w w' : World} {base : Nat} {e : TypeId} {size n : Nat} {v : Value} {xs : List Value} (h : w.ownsRow base e size v n xs) (hb : Below w.heap.size w w') : w'.ownsRow base e size v n xs := by
  refine ⟨h.1, ?_⟩
  rcases h.2 with h2 | ⟨g, cap, cur, hv, hbg, hg, h3⟩
  · exact .inl h2
  · exact .inr ⟨g, cap, cur, hv, hbg, (hb.block g (Array.getElem?_eq_some_iff.1 hg).1).trans hg, h3⟩
theorem own_base {w : World} {base b2 : Nat} {e : TypeId} {size n : Nat} {v : Value} {xs : List Value} (h : w.ownsRow base e size v n xs) (hb : b2 ≤ base) : w.ownsRow b2 e size v n xs := by
  refine ⟨h.1, ?_⟩
  rcases h.2 with h2 | ⟨g, cap, cur, hv, hbg, h3⟩
  · exact .inl h2
  · exact .inr ⟨g, cap, cur, hv, by omega, h3⟩
/-- Groups in memory. -/
def gcells (l : List Nat) : List Value := l.map fun (g : Nat) => .int .u16 (g : Int)
@[simp] theorem length_gcells (l : List Nat) : (gcells l).length = l.length := by simp [gcells]
theorem gcells_append (a b : List Nat) : gcells (a ++ b) = gcells a ++ gcells b := by simp [gcells]
def Grps (w : World) (v : Value) (l : List Nat) : Prop := Row w v 1 l.length (gcells l)
theorem Grps.below {w w' : World} {v : Value} {l : List Nat} (h : Grps w v l) (hb : Below w.heap.size w w') : Grps w' v l := Row.below h hb
theorem Grps.nil (w : World) : Grps w (.slice none 0 0) [] := Row.nil w 1
theorem Grps.open {w : World} {v : Value} {l : List Nat} (h : Grps w v l) : ∃ a cap, v = .slice a l.length cap ∧ l.length ≤ cap ∧ cap ≤ maxLen ∧
    ∀ (hn : 0 < l.length), ∃ b off, a = some ⟨b, off, none⟩ ∧ b < w.heap.size ∧ ∀ j (hj : j < l.length), w.cell? ⟨b, off + j, none⟩ = some (.int .u16 (l[j] : Int)) := by
  obtain ⟨hl, a, cap, rfl, hn, hm, h⟩ := h
  refine ⟨a, cap, rfl, hn, hm, fun h0 => ?_⟩
  rcases h with h | ⟨b, off, ha, hlt, hc⟩
  · omega
  · exact ⟨b, off, ha, hlt, fun j hj => hc j _ (by simp [gcells, List.getElem?_eq_getElem hj])⟩
theorem lib_split58 (s : ByteArray) (w : World) (hB : Base w) (hs : s.size ≤ 100000000) : Calls Tryz.prog 179 #[.string s, .string ⟨#[58]⟩] w fun e w' => ∃ v, e = .returned v ∧ Strs w' v (splitD 58 (un s)) ∧ Below w.heap.size w w' := by
  obtain ⟨_, ⟨m, hm⟩, _⟩ := hB
  refine (Tryz.strings_Split s ⟨#[58]⟩ m w (by omega) hm (by decide)).mono ?_
  rintro e w' ⟨rfl, rfl⟩
  have hlen := Lib.splitB_all (⟨#[58]⟩ : ByteArray) (by decide) 0 (Lib.countB s ⟨#[58]⟩) s rfl
  have hle := Lib.count_le s.data.toList [58]
  have hmap : (Lib.splitB (⟨#[58]⟩ : ByteArray) 0 (Lib.countB s ⟨#[58]⟩) s).map un = splitD 58 (un s) := (Lib.splitB_data _ 0 _ s).trans (split_one 58 (un s))
  have hl1 := length_un s
  have hst := strs_lit w (Lib.splitB (⟨#[58]⟩ : ByteArray) 0 (Lib.countB s ⟨#[58]⟩) s) 9 (by rw [hlen]; show Lib.count s.data.toList [58] + 1 ≤ maxLen; unfold maxLen; change (s.data.toList).length = s.size at hl1; omega)
  rw [hmap, hlen] at hst
  exact ⟨_, rfl, hst, (Below.refl _ w).alloc (Nat.le_refl _) _⟩
theorem splitD_count (c : UInt8) : ∀ l : Bs, (splitD c l).length ≤ l.length + 1
  | [] => by simp [splitD]
  | b :: r => by
    have ih := splitD_count c r
    unfold splitD
    split
    · simp; omega
    · split
      · rename_i h t e; rw [e] at ih; simp at ih ⊢; omega
      · simp
/-- The rest of a row of groups: a step of grpsA. -/
theorem grpsA_some {last : Bool} {x : Bs} {g : Nat} (h : grpV x = some g) (r : List Bs) (acc : List Nat) : grpsA last (x :: r) acc = grpsA last r (acc ++ [g]) := by rw [grpsA, h]
theorem grpsA_none {last : Bool} {x : Bs} (h : grpV x = none) (r : List Bs) (acc : List Nat) : grpsA last (x :: r) acc = if (parseV x).2 = true ∧ last = true ∧ r = [] then some (acc ++ [(parseV x).1 / 65536, (parseV x).1 % 65536]) else none := by rw [grpsA, h]

set_option maxHeartbeats 4000000 in
theorem i6_groups (s : ByteArray) (last : Bool) (w : World) (hB : Base w) (hs : s.size ≤ 100000) : Calls Tryz.prog 252 #[.string s, .bool last] w fun e w' => ∃ v, e = .returned (.tuple #[v, .bool (grpsV (un s) last).isSome]) ∧ w'.ownsRow w.heap.size 57 1 v ((grpsV (un s) last).getD []).length (gcells ((grpsV (un s) last).getD [])) ∧ Below w.heap.size w w' := by
  by_cases hz : s.size = 0
  · have hun : un s = [] := List.eq_nil_of_length_eq_zero (by rw [length_un]; exact hz)
    have h1 : s.toList.isEmpty = true := by rw [toList_un, hun]; rfl
    have hend : Hid (grpsV (un s) last = some []) := Lib.hid (by rw [hun]; rfl)
    clear hz hun
    go_enter Tryz.func252, Tryz.ntmps252
    go_wp2
    go_step3
    go_wp2
    (try rw [Exit.noGoto_ret])
    go_ret2
    rw [hend.out]
    exact ⟨_, rfl, World.ownsRow_nil _ _ _ _, Below.refl _ _⟩
  · have hne : un s ≠ [] := fun e => hz (by rw [← length_un, e]; rfl)
    have h1 : s.toList.isEmpty = false := by
      rw [toList_un]
      cases hu : un s with
      | nil => exact absurd hu hne
      | cons a b => rfl
    obtain ⟨iU0, iU⟩ := info_parts infoU16
    have HS := Lib.hid (lib_split58 s w hB (by omega))
    have hlen := splitD_len 58 (un s)
    have hcnt := splitD_count 58 (un s)
    have hdef : Hid (grpsV (un s) last = grpsA last (splitD 58 (un s)) []) := Lib.hid (if_neg hne)
    obtain ⟨R, hR⟩ : ∃ R, R = grpsV (un s) last := ⟨_, rfl⟩
    rw [← hR] at hdef ⊢
    obtain ⟨L, hL⟩ : ∃ L, L = splitD 58 (un s) := ⟨_, rfl⟩
    rw [← hL] at hdef HS hlen hcnt
    rw [length_un] at hlen hcnt
    have HLEN := Lib.hid hlen
    have HBS := Lib.hid hB
    clear hR hL hne hz hlen hB
    go_enter Tryz.func252, Tryz.ntmps252
    go_wp2
    go_step3
    go_wp2_with fail
    refine HS.out.mono ?_
    rintro e w1 ⟨v, rfl, hst, hb⟩
    clear HS
    have HB1 := Lib.hid (HBS.out.below hb)
    obtain ⟨a, c, rfl, hn, hm, hc⟩ := hst.open
    unfold maxLen at hm
    have HC := Lib.hid hc
    clear hc hst HBS
    obtain ⟨n, hn0⟩ : ∃ n, L.length = n := ⟨_, rfl⟩
    rw [hn0] at hn hcnt ⊢
    have HN := Lib.hid hn0
    clear hn0
    go_wp2
    go_step3
    go_wp2
    go_loopw [6, 20] (fun ov iv wr => ∃ (k : Nat) (acc : List Nat), iv = .int .i64 k ∧ k ≤ n ∧ acc.length ≤ k ∧ wr.ownsRow w1.heap.size 57 1 ov acc.length (gcells acc) ∧ Hid (R = grpsA last (L.drop k) acc) ∧ Below w1.heap.size w1 wr) (fun _ iv _ => n - (intOf iv).toNat)
    case atStart => exact ⟨0, [], rfl, by omega, by simp, World.ownsRow_nil _ _ _ _, hdef, Below.refl _ _⟩
    case round =>
      obtain ⟨k, acc, rfl, hk, hacc, hown, hst, hnx⟩ := hrel
      have hsz := hnx.size
      by_cases hlt : k < n
      · obtain ⟨b, off, rfl, hb1, hcell⟩ := HC.out (by rw [HN.out]; omega)
        have hkl : k < L.length := by rw [HN.out]; exact hlt
        have c0 := ((bcell hnx).1 b (off + k) hb1).trans (hcell k hkl)
        have hlen := HLEN.out L[k] (List.getElem_mem hkl)
        have hst2 : Hid (R = grpsA last (L[k] :: L.drop (k + 1)) acc) := Lib.hid (by rw [hst.out, List.drop_eq_getElem_cons hkl])
        obtain ⟨x, hx⟩ : ∃ x, x = L[k] := ⟨_, rfl⟩
        rw [← hx] at c0 hlen hst2
        clear hcell hst hx hkl
        have hd := fun W => i6_group (mk x) W
        simp only [un_mk] at hd
        cases hg : grpV x with
        | some g =>
          rw [hg] at hd
          have HD := Lib.hid hd
          have hnext : Hid (R = grpsA last (L.drop (k + 1)) (acc ++ [g])) := Lib.hid (by rw [hst2.out, grpsA_some hg])
          clear hd hg hst2
          go_wp2_with fail
          refine (HD.out _).mono ?_; rintro e w2 ⟨rfl, rfl⟩
          unfold optV
          go_wp2_with (first | (at_builtin; refine wpList_append_own _ rfl (.tmp 31) (.tmp 33) 171 rfl (w1.heap.size) 57 iU0 (.int .u16 0) 1 2 Tryz.underlying171 iU.1 iU.2.1 iU.2.2.1 iU.2.2.2 rfl (by decide) _ _ _ rfl (hown.alloc _) ⟨wr.heap.size, 0, none⟩ 1 1 [_] rfl rfl (cell_one_new _ _ _) (by intro u hu; simp at hu; subst hu; rfl) (by unfold maxLen; omega) (by omega) (by simp; omega) ?_; intro v1 w3 hown1 hgrow1 hnil1))
          go_roundw
          case rel =>
            refine ⟨k + 1, acc ++ [g], by go_num, by omega, by simp; omega, ?_, hnext, (hnx.alloc (by omega) _).grown hgrow1 (by simp; omega) (fun j hj => (hown.lt j hj).1)⟩
            rw [gcells_append, List.length_append]
            exact hown1
          case measure => simp [intOf]; omega
        | none =>
          rw [hg] at hd
          have HD := Lib.hid hd
          have hpx := fun W h => i4_parse (mk x) W h (by rw [size_mk]; omega)
          simp only [un_mk] at hpx
          have hpl := parseV_lt x
          have hnext : Hid (R = if (parseV x).2 = true ∧ last = true ∧ L.drop (k + 1) = [] then some (acc ++ [(parseV x).1 / 65536, (parseV x).1 % 65536]) else none) := Lib.hid (by rw [hst2.out, grpsA_none hg])
          obtain ⟨p, hp⟩ : ∃ p, p = parseV x := ⟨_, rfl⟩
          simp only [← hp] at hpx hnext hpl
          clear hd hg hst2 hp
          obtain ⟨p, ok⟩ := p
          simp only at hpx hnext hpl
          have HP := Lib.hid hpx
          clear hpx
          have HBr := Lib.hid (HB1.out.below hnx)
          have hdr : Hid (L.drop (k + 1) = [] ↔ k + 1 = n) := Lib.hid (by rw [List.drop_eq_nil_iff, HN.out]; omega)
          by_cases hgood : ok = true ∧ last = true ∧ k + 1 = n
          · obtain ⟨rfl, rfl, hkn⟩ := hgood
            have hend : Hid (R = some (acc ++ [p / 65536, p % 65536])) := Lib.hid (by rw [hnext.out, if_pos ⟨rfl, rfl, hdr.out.2 hkn⟩])
            have g1 : decide ((k : Int) < (n : Int) - 1) = false := decide_eq_false (by omega)
            have g2 : (n : Int) - 1 ≤ (k : Int) := by omega
            have hp1 : (p : Int) / 65536 < 65536 := by omega
            clear hnext hdr
            go_wp2_with fail
            refine (HD.out _).mono ?_; rintro e w2 ⟨rfl, rfl⟩
            unfold optV
            go_wp2_with fail
            refine (HP.out _ HBr.out).mono ?_; rintro e w3 ⟨rfl, hb3⟩
            have hown3 := own_later hown hb3
            have hs3 := hb3.size
            go_wp2_with (first | (at_builtin; refine wpList_append_own _ rfl (.tmp 53) (.tmp 59) 171 rfl w1.heap.size 57 iU0 (.int .u16 0) 1 2 Tryz.underlying171 iU.1 iU.2.1 iU.2.2.1 iU.2.2.2 rfl (by decide) _ _ _ rfl (hown3.alloc _) ⟨w3.heap.size, 0, none⟩ 2 2 [_, _] rfl rfl (cell_two_new _ _ _ _) (by intro u hu; simp at hu; rcases hu with rfl | rfl <;> rfl) (by unfold maxLen; omega) (by omega) (by simp; omega) ?_; intro v1 w4 hown1 hgrow1 hnil1))
            all_goals (try (exfalso; omega))
            (try rw [Exit.noGoto_ret])
            go_ret2
            rw [hend.out]
            refine ⟨_, rfl, ?_, hb.trans (((hnx.trans (hb3.mono hnx.size)).alloc (by omega) _ |>.grown hgrow1 (by simp; omega) (fun j hj => (hown3.lt j hj).1)).mono hb.size)⟩
            have e := own_base hown1 hb.size
            show World.ownsRow _ _ _ 1 _ (acc ++ [p / 65536, p % 65536]).length (gcells (acc ++ [p / 65536, p % 65536]))
            rw [gcells_append, List.length_append]
            exact e
          · have hend : Hid (R = none) := Lib.hid (by rw [hnext.out, if_neg (fun h => hgood ⟨h.1, h.2.1, hdr.out.1 h.2.2⟩)])
            have hcs : ok = false ∨ (ok = true ∧ last = false) ∨ (ok = true ∧ last = true ∧ k + 1 < n) := by
              cases ok
              · exact .inl rfl
              · cases last
                · exact .inr (.inl ⟨rfl, rfl⟩)
                · exact .inr (.inr ⟨rfl, rfl, by have : k + 1 ≠ n := fun e => hgood ⟨rfl, rfl, e⟩; omega⟩)
            clear hnext hdr hgood
            rcases hcs with rfl | ⟨rfl, rfl⟩ | ⟨rfl, rfl, hkn⟩
            all_goals
              go_wp2_with fail
              refine (HD.out _).mono ?_; rintro e w2 ⟨rfl, rfl⟩
              unfold optV
              go_wp2_with fail
              refine (HP.out _ HBr.out).mono ?_; rintro e w3 ⟨rfl, hb3⟩
              (try have g1 : decide ((k : Int) < (n : Int) - 1) = true := decide_eq_true (by omega))
              (try have g2 : (k : Int) < (n : Int) - 1 := by omega)
              go_wp2
              all_goals (try (exfalso; omega))
              (try rw [Exit.noGoto_ret])
              go_ret2
              rw [hend.out]
              exact ⟨_, rfl, World.ownsRow_nil _ _ _ _, hb.trans ((hnx.trans (hb3.mono hnx.size)).mono hb.size)⟩
      · obtain rfl : k = n := by omega
        have hend : Hid (R = some acc) := Lib.hid (by rw [hst.out, List.drop_of_length_le (by rw [HN.out]; omega)]; rfl)
        clear hst
        go_wp2
        (try rw [Exit.noGoto_ret])
        go_ret2
        rw [hend.out]
        exact ⟨_, rfl, own_base hown hb.size, hb.trans (hnx.mono hb.size)⟩
end Go.Proofs.YtjbciamhhfcdoaaGreatDoor
namespace Hs
open Go Go.RowKit
set_option linter.unusedVariables false

/-- Block g holds the cells a, b, c and is not frozen. -/
def Blk3 (w : World) (g : Nat) (T : TypeId) (a b c : Value) : Prop := w.heap[g]? = some (.cells #[a, b, c] T (0, 0))
section
variable {w w' : World} {g : Nat} {T : TypeId} {a b c : Value}
theorem Blk3.lt (h : Blk3 w g T a b c) : g < w.heap.size := (Array.getElem?_eq_some_iff.1 h).1
theorem Blk3.c0 (h : Blk3 w g T a b c) : w.cell? ⟨g, 0, none⟩ = some a := by unfold Blk3 at h; simp [World.cell?, h]
theorem Blk3.c1 (h : Blk3 w g T a b c) : w.cell? ⟨g, 1, none⟩ = some b := by unfold Blk3 at h; simp [World.cell?, h]
theorem Blk3.c2 (h : Blk3 w g T a b c) : w.cell? ⟨g, 2, none⟩ = some c := by unfold Blk3 at h; simp [World.cell?, h]
theorem Blk3.f0 (h : Blk3 w g T a b c) : w.frozen? ⟨g, 0, none⟩ = false := by unfold Blk3 at h; simp [World.frozen?, h]
theorem Blk3.f1 (h : Blk3 w g T a b c) : w.frozen? ⟨g, 1, none⟩ = false := by unfold Blk3 at h; simp [World.frozen?, h]
theorem Blk3.f2 (h : Blk3 w g T a b c) : w.frozen? ⟨g, 2, none⟩ = false := by unfold Blk3 at h; simp [World.frozen?, h]
theorem Blk3.below (h : Blk3 w g T a b c) (hb : Below w.heap.size w w') : Blk3 w' g T a b c := (hb.block g h.lt).trans h
theorem Blk3.alloc (h : Blk3 w g T a b c) (o : Obj) : Blk3 (w.alloc o) g T a b c := (Below.heap_alloc w o g h.lt).trans h
theorem Blk3.new (w : World) (T : TypeId) (a b c : Value) : Blk3 (w.alloc (.cells #[a, b, c] T)) w.heap.size T a b c := heap_alloc_new w _
theorem Blk3.other (h : Blk3 w g T a b c) {p : Nat} (hp : g ≠ p) (j : Nat) (v : Value) : Blk3 (w.setCell ⟨p, j, none⟩ v) g T a b c := (Below.heap_setCell w ⟨p, j, none⟩ v g hp).trans h
theorem Blk3.grown {row : Option Nat} (h : Blk3 w g T a b c) (hg : w.grownBy w' row) (hn : some g ≠ row) : Blk3 w' g T a b c := (hg.block g h.lt hn).trans h
theorem Blk3.drewN (h : Blk3 w g T a b c) (n : Nat) : Blk3 (w.drewN n) g T a b c := h
theorem Blk3.set0 (h : Blk3 w g T a b c) (v : Value) : Blk3 (w.setCell ⟨g, 0, none⟩ v) g T v b c := by
  have hlt := h.lt
  have h' : w.heap[g] = .cells #[a, b, c] T (0, 0) := by simpa [Blk3, Array.getElem?_eq_getElem hlt] using h
  show (w.heap.modify g _)[g]? = _
  rw [Array.getElem?_eq_getElem (by simpa using hlt), Array.getElem_modify_self, h']
  rfl
theorem Blk3.set1 (h : Blk3 w g T a b c) (v : Value) : Blk3 (w.setCell ⟨g, 1, none⟩ v) g T a v c := by
  have hlt := h.lt
  have h' : w.heap[g] = .cells #[a, b, c] T (0, 0) := by simpa [Blk3, Array.getElem?_eq_getElem hlt] using h
  show (w.heap.modify g _)[g]? = _
  rw [Array.getElem?_eq_getElem (by simpa using hlt), Array.getElem_modify_self, h']
  rfl
theorem Blk3.set2 (h : Blk3 w g T a b c) (v : Value) : Blk3 (w.setCell ⟨g, 2, none⟩ v) g T a b v := by
  have hlt := h.lt
  have h' : w.heap[g] = .cells #[a, b, c] T (0, 0) := by simpa [Blk3, Array.getElem?_eq_getElem hlt] using h
  show (w.heap.modify g _)[g]? = _
  rw [Array.getElem?_eq_getElem (by simpa using hlt), Array.getElem_modify_self, h']
  rfl
end
/-- A struct handed back beside one result, or two. -/
theorem results_ct {P : Program} {fn : Func} {p u : Tmp} {ty : TypeId} (h : fn.results = #[.cell p ty, .tmp u]) (tmps : Array Value) (w : World) (g : Nat) (t : TypeId) (cs : Array Value) (d : TypeDesc)
    (hp : tmps.getD p undef = .pointer (some ⟨g, 0, none⟩)) (hg : w.heap[g]? = some (.cells cs t (0, 0))) (hu : P.underlying ty = some d) (hd : (match d with | .struct _ | .array _ _ => true | _ => false) = true) (hi : (P.info? ty).map (·.size) = some cs.size) :
    (results fn tmps).run P w = .ok (.tuple #[.agg cs, tmps.getD u undef]) w := by
  rw [results_cell_tmp h, hp]
  simp [asAddr, run_loadVar_row w g t ty cs (0, 0) d hg hu hd hi, Result.andThen]
theorem results_ctt {P : Program} {fn : Func} {p u v : Tmp} {ty : TypeId} (h : fn.results = #[.cell p ty, .tmp u, .tmp v]) (tmps : Array Value) (w : World) (g : Nat) (t : TypeId) (cs : Array Value) (d : TypeDesc)
    (hp : tmps.getD p undef = .pointer (some ⟨g, 0, none⟩)) (hg : w.heap[g]? = some (.cells cs t (0, 0))) (hu : P.underlying ty = some d) (hd : (match d with | .struct _ | .array _ _ => true | _ => false) = true) (hi : (P.info? ty).map (·.size) = some cs.size) :
    (results fn tmps).run P w = .ok (.tuple #[.agg cs, tmps.getD u undef, tmps.getD v undef]) w := by
  have hp' : tmps[p]?.getD undef = .pointer (some ⟨g, 0, none⟩) := by simpa using hp
  simp [results, h, hp', asAddr, run_loadVar_row w g t ty cs (0, 0) d hg hu hd hi, Result.andThen]
end Hs
