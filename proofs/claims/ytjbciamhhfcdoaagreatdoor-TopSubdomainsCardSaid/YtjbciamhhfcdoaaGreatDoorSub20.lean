/- The library's functions on strings, in the words of the plain functions. Conditions: texts are of bounded length; the library's variable stands.
   The walks of comparisons of names: cmp.Compare of strings, pin.Compare. Conditions: texts are of bounded length.
   The walks of the default port of a scheme, of ports' numbers. Conditions: texts are of bounded length.
   Plain functions of the layer destination: names, the destination with a name, the category; and their laws. No program in sight. Conditions: none.
   Plain functions of pins, entries and coverage, and of decisions. No program in sight. Conditions: none. -/
import Derived.Test.YtjbciamhhfcdoaaGreatDoorSub15
import Derived.Test.YtjbciamhhfcdoaaGreatDoorSub16
import Derived.Test.YtjbciamhhfcdoaaGreatDoorSub19
import Derived.Lib.IndexMore
import Derived.Test.YtjbciamhhfcdoaaGreatDoorSub06
import Derived.WalkKit
import Derived.WalkMore
import Derived.Test.YtjbciamhhfcdoaaGreatDoorRows
import Derived.Test.YtjbciamhhfcdoaaGreatDoorSub01
namespace Hs
open Go
set_option linter.unusedVariables false
set_option linter.unusedSimpArgs false
theorem index_byte (c : UInt8) (l : Bs) : Lib.index l [c] = Lib.indexByte l c := Lib.index_one l c
/-- What is cut at a byte. -/
def cutC (c : UInt8) (l : Bs) : Bs × Bs × Bool := if Lib.indexByte l c < 0 then (l, [], false) else (l.take (Lib.indexByte l c).toNat, l.drop ((Lib.indexByte l c).toNat + 1), true)
theorem cut_byte (c : UInt8) (l : Bs) : Lib.cut l [c] = cutC c l := by
  unfold Lib.cut cutC
  rw [index_byte]
  by_cases h : Lib.indexByte l c < 0
  · rw [if_neg (by omega), if_pos h]
  · rw [if_pos (by omega), if_neg h]
    rfl
theorem hasPrefix_one (c : UInt8) (l : Bs) : Lib.hasPrefix l [c] = decide (l.head? = some c) := by
  rw [hasPrefix_eq]
  cases l with
  | nil => simp
  | cons a r => simp
theorem trimPrefix_one (c : UInt8) (l : Bs) : Lib.trimPrefix l [c] = if l.head? = some c then l.drop 1 else l := by
  rw [trimPrefix_eq]
  have : (l.take ([c] : Bs).length = [c]) ↔ l.head? = some c := by
    cases l with
    | nil => simp
    | cons a r => simp
  by_cases h : l.head? = some c
  · rw [if_pos h, if_pos (this.2 h)]; rfl
  · rw [if_neg h, if_neg (fun e => h (this.1 e))]
end Hs
namespace Go.Proofs.YtjbciamhhfcdoaaGreatDoor
open Go.RowKit Hs
set_option linter.unusedSimpArgs false
set_option linter.unusedVariables false
theorem lib_indexByte (s : ByteArray) (c : UInt8) (w : World) : Calls Tryz.prog 167 #[.string s, .int .u8 (c.toNat : Int)] w fun e w' => e = .returned (.int .i64 (Lib.indexByte (un s) c)) ∧ w = w' := by
  refine (Tryz.strings_IndexByte s (c.toNat : Int) w).mono ?_
  rintro e w' ⟨rfl, rfl⟩
  have : ((c.toNat : Int)).toNat.toUInt8 = c := by
    show UInt8.ofNat c.toNat = c
    exact UInt8.ofNat_toNat
  rw [this]
  exact ⟨rfl, rfl⟩
theorem lib_lastByte (s : ByteArray) (c : UInt8) (w : World) (hs : s.size ≤ 100000000) : Calls Tryz.prog 76 #[.string s, .int .u8 (c.toNat : Int)] w fun e w' => e = .returned (.int .i64 (lastC c (un s))) ∧ w = w' := by
  refine (Tryz.strings_LastIndexByte s (c.toNat : Int) (by omega) w).mono ?_
  rintro e w' ⟨rfl, rfl⟩
  rw [lastIndexByte_eq]
  exact ⟨rfl, rfl⟩
theorem lib_hasPrefix (s : ByteArray) (c : UInt8) (w : World) : Calls Tryz.prog 108 #[.string s, .string ⟨#[c]⟩] w fun e w' => e = .returned (.bool (decide ((un s).head? = some c))) ∧ w = w' := by
  refine (Tryz.strings_HasPrefix s ⟨#[c]⟩ w).mono ?_
  rintro e w' ⟨rfl, rfl⟩
  refine ⟨?_, rfl⟩
  rw [← hasPrefix_one]
  rfl
theorem lib_trimPrefix (s : ByteArray) (c : UInt8) (w : World) : Calls Tryz.prog 176 #[.string s, .string ⟨#[c]⟩] w fun e w' => e = .returned (.string (mk (if (un s).head? = some c then (un s).drop 1 else un s))) ∧ w = w' := by
  refine (Tryz.strings_TrimPrefix s ⟨#[c]⟩ w).mono ?_
  rintro e w' ⟨rfl, rfl⟩
  refine ⟨?_, rfl⟩
  rw [← trimPrefix_one]
  rfl
theorem lib_trimDot (s : ByteArray) (w : World) (hs : s.size ≤ 100000000) : Calls Tryz.prog 210 #[.string s, .string ⟨#[46]⟩] w fun e w' => e = .returned (.string (mk (dropDot (un s)))) ∧ w = w' := by
  refine (Tryz.strings_TrimSuffix s ⟨#[46]⟩ w (by omega)).mono ?_
  rintro e w' ⟨rfl, rfl⟩
  exact ⟨rfl, rfl⟩
theorem lib_cutC (s : ByteArray) (c : UInt8) (w : World) (hB : Base w) (hs : s.size ≤ 100000000) : Calls Tryz.prog 103 #[.string s, .string ⟨#[c]⟩] w fun e w' => e = .returned (.tuple #[.string (mk (cutC c (un s)).1), .string (mk (cutC c (un s)).2.1), .bool (cutC c (un s)).2.2]) ∧ Below w.heap.size w w' := by
  obtain ⟨_, ⟨m, hm⟩, _⟩ := hB
  refine (Tryz.strings_Cut s ⟨#[c]⟩ m w (by omega) hm).mono ?_
  rintro e w' ⟨rfl, n, rfl⟩
  have h : Lib.cut s.data.toList (⟨#[c]⟩ : ByteArray).data.toList = cutC c (un s) := cut_byte c (un s)
  rw [h]
  exact ⟨rfl, below_drewN (Below.refl _ w) n⟩
theorem lib_indexAny3 (s : ByteArray) (w : World) (hs : s.size ≤ 100000000) (ha : ∀ b ∈ un s, b.toNat < 128) : Calls Tryz.prog 107 #[.string s, .string ⟨#[47, 63, 35]⟩] w fun e w' => e = .returned (.int .i64 (Lib.indexAny (un s) [47, 63, 35])) ∧ Below w.heap.size w w' := by
  refine (Tryz.strings_IndexAny_laid s ⟨#[47, 63, 35]⟩ w (by omega) (by decide) (fun j b hb => ha b (List.mem_of_getElem? hb)) (fun j b hb => ?_)).mono ?_
  · have := List.mem_of_getElem? hb
    simp at this
    rcases this with rfl | rfl | rfl <;> decide
  · rintro e w' ⟨rfl, hb⟩
    exact ⟨rfl, hb⟩
end Go.Proofs.YtjbciamhhfcdoaaGreatDoor
namespace Hs
open Go
theorem bytes_tri : ∀ a b : Bs, (Op.bytesLess a b = true ∧ Lib.compareBytes a b = -1) ∨ (Op.bytesLess a b = false ∧ (a == b) = true ∧ Lib.compareBytes a b = 0) ∨ (Op.bytesLess a b = false ∧ (a == b) = false ∧ Lib.compareBytes a b = 1)
  | [], [] => .inr (.inl ⟨rfl, rfl, rfl⟩)
  | [], _ :: _ => .inl ⟨rfl, rfl⟩
  | _ :: _, [] => .inr (.inr ⟨rfl, rfl, rfl⟩)
  | a :: x, b :: y => by
    have ih := bytes_tri x y
    have hl : Op.bytesLess (a :: x) (b :: y) = (decide (a < b) || (a == b && Op.bytesLess x y)) := rfl
    rw [hl, Lib.compareBytes]
    by_cases h1 : a < b
    · left; rw [if_pos h1, decide_eq_true h1]; exact ⟨rfl, rfl⟩
    · rw [if_neg h1, decide_eq_false h1]
      by_cases h2 : b < a
      · have hne : a ≠ b := fun e => by subst e; exact absurd h2 (UInt8.lt_irrefl _)
        right; right
        rw [if_pos h2]
        have hb : (a == b) = false := by simpa using hne
        refine ⟨by rw [hb]; rfl, ?_, rfl⟩
        show (a == b && x == y) = false
        rw [hb]; rfl
      · have hab : a = b := UInt8.le_antisymm (UInt8.not_lt.1 h2) (UInt8.not_lt.1 h1)
        subst hab
        rw [if_neg h2]
        have hc : ((a :: x) == (a :: y)) = (x == y) := by show (a == a && x == y) = _; simp
        rw [hc]
        simpa using ih
end Hs
namespace Go.Proofs.YtjbciamhhfcdoaaGreatDoor
open Go.RowKit Hs
set_option linter.unusedSimpArgs false
set_option linter.unusedVariables false
theorem lib_nanS (s : ByteArray) (w : World) : Calls Tryz.prog 120 #[.string s] w fun e w' => e = .returned (.bool false) ∧ w = w' := by
  go_enter Tryz.func120, Tryz.ntmps120
  go_wp2
  go_ret
  exact ⟨by simp, rfl⟩
theorem lib_cmpS (a b : ByteArray) (w : World) : Calls Tryz.prog 77 #[.string a, .string b] w fun e w' => e = .returned (.int .i64 (Lib.compareBytes (un a) (un b))) ∧ w = w' := by
  have HA := Lib.hid (lib_nanS a w)
  have HB := Lib.hid (lib_nanS b w)
  have hc := bytes_tri (un a) (un b)
  obtain ⟨r, hr⟩ : ∃ r, r = Lib.compareBytes (un a) (un b) := ⟨_, rfl⟩
  rw [← hr] at hc ⊢
  rw [← toList_un, ← toList_un] at hc
  clear hr
  rcases hc with ⟨h1, rfl⟩ | ⟨h1, h2, rfl⟩ | ⟨h1, h2, rfl⟩
  all_goals
    go_enter Tryz.func77, Tryz.ntmps77
    go_wp2_with fail
    refine HA.out.mono ?_; rintro e w1 ⟨rfl, rfl⟩
    go_wp2_with fail
    refine HB.out.mono ?_; rintro e w1 ⟨rfl, rfl⟩
    go_wp2
    go_ret
    exact ⟨rfl, rfl⟩
end Go.Proofs.YtjbciamhhfcdoaaGreatDoor
namespace Go.Proofs.YtjbciamhhfcdoaaGreatDoor
open Go.RowKit Hs
set_option linter.unusedSimpArgs false
set_option linter.unusedVariables false
theorem eq_lit (s : ByteArray) (l : Bs) : (s.toList == l) = decide (un s = l) := by
  rw [toList_un]
  by_cases h : un s = l <;> simp [h]
theorem u_default (s : ByteArray) (w : World) : Calls Tryz.prog 86 #[.string s] w fun e w' => e = .returned (.int .i64 (portD (un s))) ∧ w = w' := by
  have hc := portD_cases (un s)
  obtain ⟨v, hv⟩ : ∃ v, v = portD (un s) := ⟨_, rfl⟩
  rw [← hv] at hc ⊢
  clear hv
  rcases hc with ⟨rfl, h | h⟩ | ⟨rfl, h | h⟩ | ⟨rfl, h1, h2⟩
  · have ebHttp : (s.toList == [104, 116, 116, 112]) = true := (eq_lit s _).trans (by rw [h]; decide)
    have ebWs : (s.toList == [119, 115]) = false := (eq_lit s _).trans (by rw [h]; decide)
    have ebHttps : (s.toList == [104, 116, 116, 112, 115]) = false := (eq_lit s _).trans (by rw [h]; decide)
    have ebWss : (s.toList == [119, 115, 115]) = false := (eq_lit s _).trans (by rw [h]; decide)
    clear h
    go_enter Tryz.func86, Tryz.ntmps86
    go_wp2
    go_ret
    exact ⟨rfl, rfl⟩
  · have ebHttp : (s.toList == [104, 116, 116, 112]) = false := (eq_lit s _).trans (by rw [h]; decide)
    have ebWs : (s.toList == [119, 115]) = true := (eq_lit s _).trans (by rw [h]; decide)
    have ebHttps : (s.toList == [104, 116, 116, 112, 115]) = false := (eq_lit s _).trans (by rw [h]; decide)
    have ebWss : (s.toList == [119, 115, 115]) = false := (eq_lit s _).trans (by rw [h]; decide)
    clear h
    go_enter Tryz.func86, Tryz.ntmps86
    go_wp2
    go_ret
    exact ⟨rfl, rfl⟩
  · have ebHttp : (s.toList == [104, 116, 116, 112]) = false := (eq_lit s _).trans (by rw [h]; decide)
    have ebWs : (s.toList == [119, 115]) = false := (eq_lit s _).trans (by rw [h]; decide)
    have ebHttps : (s.toList == [104, 116, 116, 112, 115]) = true := (eq_lit s _).trans (by rw [h]; decide)
    have ebWss : (s.toList == [119, 115, 115]) = false := (eq_lit s _).trans (by rw [h]; decide)
    clear h
    go_enter Tryz.func86, Tryz.ntmps86
    go_wp2
    go_ret
    exact ⟨rfl, rfl⟩
  · have ebHttp : (s.toList == [104, 116, 116, 112]) = false := (eq_lit s _).trans (by rw [h]; decide)
    have ebWs : (s.toList == [119, 115]) = false := (eq_lit s _).trans (by rw [h]; decide)
    have ebHttps : (s.toList == [104, 116, 116, 112, 115]) = false := (eq_lit s _).trans (by rw [h]; decide)
    have ebWss : (s.toList == [119, 115, 115]) = true := (eq_lit s _).trans (by rw [h]; decide)
    clear h
    go_enter Tryz.func86, Tryz.ntmps86
    go_wp2
    go_ret
    exact ⟨rfl, rfl⟩
  · have ebHttp : (s.toList == [104, 116, 116, 112]) = false := (eq_lit s _).trans (decide_eq_false (fun e => h1 (.inl e)))
    have ebWs : (s.toList == [119, 115]) = false := (eq_lit s _).trans (decide_eq_false (fun e => h1 (.inr e)))
    have ebHttps : (s.toList == [104, 116, 116, 112, 115]) = false := (eq_lit s _).trans (decide_eq_false (fun e => h2 (.inl e)))
    have ebWss : (s.toList == [119, 115, 115]) = false := (eq_lit s _).trans (decide_eq_false (fun e => h2 (.inr e)))
    clear h1 h2
    go_enter Tryz.func86, Tryz.ntmps86
    go_wp2
    go_ret
    exact ⟨rfl, rfl⟩
theorem u_special (s : ByteArray) (w : World) : Calls Tryz.prog 47 #[.string s] w fun e w' => e = .returned (.bool (decide (0 < portD (un s)))) ∧ w = w' := by
  have hd := u_default s w
  have HD := Lib.hid hd
  clear hd
  go_enter Tryz.func47, Tryz.ntmps47
  go_wp2_with fail
  refine HD.out.mono ?_; rintro e w1 ⟨rfl, rfl⟩
  go_wp2
  go_ret
  exact ⟨rfl, rfl⟩
/-- What number hands back. -/
def numR (l : Bs) : Int × Bool := match numU l (-1) with
  | none => (0, false)
  | some n => (n, decide (n < 65536))
theorem portV_numR (l : Bs) : portV l = if (numR l).2 = true then some (numR l).1 else none := by
  unfold portV numR
  cases numU l (-1) with
  | none => rfl
  | some n => simp
set_option maxRecDepth 20000 in
set_option maxHeartbeats 4000000 in
theorem u_number (s : ByteArray) (w : World) (hs : s.size ≤ 100000000) : Calls Tryz.prog 175 #[.string s] w fun e w' => e = .returned (.tuple #[.int .i64 (numR (un s)).1, .bool (numR (un s)).2]) ∧ w = w' := by
  have hlen : (un s).length = s.size := length_un s
  obtain ⟨l, hl⟩ : ∃ l, l = un s := ⟨_, rfl⟩
  have hdef : numR l = match numU l (-1) with
    | none => (0, false)
    | some n => (n, decide (n < 65536)) := rfl
  obtain ⟨R, hR⟩ : ∃ R, R = numR l := ⟨_, rfl⟩
  rw [← hl] at hlen ⊢
  rw [← hR] at hdef ⊢
  have HL := Lib.hid hl
  have HDEF := Lib.hid hdef
  have HLEN := Lib.hid hlen
  clear hl hdef hlen hR
  go_enter Tryz.func175, Tryz.ntmps175
  go_wp2
  go_loop [4, 8] (fun nv iv => ∃ (k : Nat) (m : Int), iv = .int .i64 k ∧ nv = .int .i64 m ∧ k ≤ s.size ∧ -1 ≤ m ∧ m ≤ 65536 ∧ Hid (numU l (-1) = numU (l.drop k) m)) (fun _ iv => s.size - (intOf iv).toNat)
  case atStart => exact ⟨0, -1, rfl, rfl, by omega, by omega, by omega, Lib.hid (by rw [List.drop_zero])⟩
  case round =>
    obtain ⟨k, m, rfl, rfl, hk, hm1, hm2, hst⟩ := hrel
    by_cases hlt : k < s.size
    · have hkl : k < l.length := by rw [HLEN.out]; exact hlt
      have hx : l[k] = s[k] := by
        have := HL.out
        subst this
        exact getElem_un s k hlt
      have hst2 := hst.out
      rw [List.drop_eq_getElem_cons hkl, hx, numU] at hst2
      have hb256 := (s[k]).toNat_lt
      have hdg : isDigit s[k] = decide (48 ≤ (s[k]).toNat ∧ (s[k]).toNat ≤ 57) := rfl
      rw [hdg] at hst2
      obtain ⟨x, hx2⟩ : ∃ x, x = (s[k]).toNat := ⟨_, rfl⟩
      have cs : (s[k].toNat : Int) = (x : Int) := by rw [hx2]
      rw [← hx2] at hst2 hb256
      clear hdg hx hx2 hst
      by_cases hd : 48 ≤ x ∧ x ≤ 57
      · rw [if_pos (decide_eq_true hd)] at hst2
        obtain ⟨m2, hm⟩ : ∃ m2, m2 = min (10 * max m 0 + ((x : Int) - 48)) 65536 := ⟨_, rfl⟩
        rw [← hm] at hst2
        have HST := Lib.hid hst2
        have hmm : m2 = min (10 * max m 0 + ((x : Int) - 48)) 65536 ∧ -1 ≤ m2 ∧ m2 ≤ 65536 := ⟨hm, by omega, by omega⟩
        clear hst2
        go_wp2
        all_goals (try (exfalso; omega))
        all_goals
          go_round
          case rel => exact ⟨k + 1, m2, by go_num, by go_num, by omega, by omega, by omega, HST⟩
          case measure => simp [intOf]; omega
      · rw [if_neg (by simpa using hd)] at hst2
        have hfin := HDEF.out
        rw [hst2] at hfin
        have HFIN := Lib.hid hfin
        clear hst2 hfin HDEF
        go_wp2
        all_goals (try (exfalso; omega))
        all_goals
          go_ret2
          rw [HFIN.out]
          exact ⟨rfl, rfl⟩
    · have hfin := HDEF.out
      have hst2 := hst.out
      rw [List.drop_of_length_le (by rw [HLEN.out]; omega), numU] at hst2
      rw [hst2] at hfin
      have HFIN : Hid (R = (m, decide (m < 65536))) := Lib.hid hfin
      clear hst hst2 hfin
      obtain ⟨q, hq⟩ : ∃ q, q = decide (m < 65536) := ⟨_, rfl⟩
      rw [← hq] at HFIN
      have HQ := Lib.hid hq
      clear hq
      clear HDEF
      go_wp2
      all_goals (try (exfalso; omega))
      go_ret2
      rw [HFIN.out]
      exact ⟨by rw [HQ.out]; rfl, rfl⟩
end Go.Proofs.YtjbciamhhfcdoaaGreatDoor
namespace Hs

/-- The names by number; number 0 is unused, number 1 the empty name. -/
def namesL : List Bs := [[], [], [97, 117, 100, 105, 111], [97, 117, 100, 105, 111, 119, 111, 114, 107, 108, 101, 116], [100, 111, 99, 117, 109, 101, 110, 116], [101, 109, 98, 101, 100], [102, 111, 110, 116], [102, 114, 97, 109, 101], [105, 102, 114, 97, 109, 101], [105, 109, 97, 103, 101], [106, 115, 111, 110], [109, 97, 110, 105, 102, 101, 115, 116], [111, 98, 106, 101, 99, 116], [112, 97, 105, 110, 116, 119, 111, 114, 107, 108, 101, 116], [114, 101, 112, 111, 114, 116], [115, 99, 114, 105, 112, 116], [115, 101, 114, 118, 105, 99, 101, 119, 111, 114, 107, 101, 114], [115, 104, 97, 114, 101, 100, 119, 111, 114, 107, 101, 114], [115, 116, 121, 108, 101], [116, 114, 97, 99, 107], [118, 105, 100, 101, 111], [119, 111, 114, 107, 101, 114], [120, 115, 108, 116]]
theorem length_namesL : namesL.length = 23 := rfl
def nameOf (d : Nat) : Bs := namesL.getD d []
theorem namesL_get (k : Nat) (h : k < namesL.length) : namesL[k] = nameOf k := by simp [nameOf, List.getD, List.getElem?_eq_getElem h]
theorem length_nameOf (d : Nat) : (nameOf d).length ≤ 20 := by
  by_cases h : d < 23
  · have : ∀ d : Fin 23, (nameOf d.val).length ≤ 20 := by decide
    exact this ⟨d, h⟩
  · simp [nameOf, List.getD, List.getElem?_eq_none (show namesL.length ≤ d by rw [length_namesL]; omega)]

def destGo (l : Bs) : Nat → Nat → Nat
  | 0, _ => 0
  | f + 1, d => if lower (nameOf d) == lower l then d else destGo l f (d + 1)
/-- The destination with a name, 0 if there is none. -/
def destOf (l : Bs) : Nat := destGo l 22 1

theorem destGo_hit (l : Bs) (f d : Nat) (h : (lower (nameOf d) == lower l) = true) : destGo l (f + 1) d = d := by rw [destGo, if_pos h]
theorem destGo_miss (l : Bs) (f d : Nat) (h : (lower (nameOf d) == lower l) = false) : destGo l (f + 1) d = destGo l f (d + 1) := by rw [destGo, if_neg (by rw [h]; simp)]

theorem destGo_name (l : Bs) : ∀ (f d : Nat), destGo l f d ≠ 0 → d + f ≤ 23 → destGo l f d < 23 ∧ d ≤ destGo l f d ∧ lower (nameOf (destGo l f d)) = lower l
  | 0, d, h, _ => by simp [destGo] at h
  | f + 1, d, h, hd => by
    by_cases hc : (lower (nameOf d) == lower l) = true
    · rw [destGo_hit l f d hc]
      exact ⟨by omega, by omega, by simpa using hc⟩
    · have hc' : (lower (nameOf d) == lower l) = false := by simpa using hc
      rw [destGo_miss l f d hc'] at h ⊢
      have := destGo_name l f (d + 1) h (by omega)
      exact ⟨this.1, by omega, this.2.2⟩
theorem lower_nameOf (d : Nat) : lower (nameOf d) = nameOf d := by
  by_cases h : d < 23
  · have : ∀ d : Fin 23, lower (nameOf d.val) = nameOf d.val := by decide
    exact this ⟨d, h⟩
  · simp [nameOf, List.getD, List.getElem?_eq_none (show namesL.length ≤ d by rw [length_namesL]; omega), lower]
theorem destOf_name (l : Bs) (h : destOf l ≠ 0) : 1 ≤ destOf l ∧ destOf l ≤ 22 ∧ nameOf (destOf l) = lower l := by
  have := destGo_name l 22 1 h (by omega)
  refine ⟨this.2.1, by have := this.1; unfold destOf; omega, ?_⟩
  rw [← lower_nameOf]
  exact this.2.2
theorem destOf_nameOf (d : Nat) (h1 : 1 ≤ d) (h2 : d ≤ 22) : destOf (nameOf d) = d := by
  have : ∀ d : Fin 22, destOf (nameOf (d.val + 1)) = d.val + 1 := by decide +kernel
  have := this ⟨d - 1, by omega⟩
  simpa [show d - 1 + 1 = d by omega] using this
theorem destOf_le (l : Bs) : destOf l ≤ 22 := by
  by_cases h : destOf l = 0
  · omega
  · exact (destOf_name l h).2.1

/-- Whether a number is a destination. -/
def validB (d : Int) : Bool := decide (1 ≤ d ∧ d ≤ 22)
/-- The category. -/
def catOf (d : Int) (b : Bool) : Int :=
  if 1 ≤ d ∧ d ≤ 22 then (if d = 4 then 1 else if d = 2 ∨ d = 20 ∨ (d = 9 ∧ b = false) then 2 else 3) else 0
theorem catOf_zero (d : Int) (b : Bool) : (catOf d b != 0) = validB d := by
  unfold catOf validB
  split
  · rename_i h; rw [decide_eq_true h]; split <;> (try split) <;> rfl
  · rename_i h; rw [decide_eq_false h]; rfl
theorem cat_false (d r : Int) (h : (d = 4 ∧ r = 1) ∨ ((d = 2 ∨ d = 20 ∨ d = 9) ∧ r = 2) ∨ (d ≠ 4 ∧ d ≠ 2 ∧ d ≠ 20 ∧ d ≠ 9 ∧ 1 ≤ d ∧ d ≤ 22 ∧ r = 3) ∨ (¬ (1 ≤ d ∧ d ≤ 22) ∧ r = 0)) : r = catOf d false := by
  unfold catOf
  simp only [and_true]
  (repeat' split) <;> omega
theorem cat_true (d r : Int) (h : (d = 4 ∧ r = 1) ∨ ((d = 2 ∨ d = 20) ∧ r = 2) ∨ (d ≠ 4 ∧ d ≠ 2 ∧ d ≠ 20 ∧ 1 ≤ d ∧ d ≤ 22 ∧ r = 3) ∨ (¬ (1 ≤ d ∧ d ≤ 22) ∧ r = 0)) : r = catOf d true := by
  unfold catOf
  simp only [Bool.true_eq_false, and_false, or_false]
  (repeat' split) <;> omega
end Hs
namespace Hs
open Go
set_option linter.unusedVariables false
set_option linter.unusedSimpArgs false

structure PinP where
  host : Bs
  sub : Bool
  expiry : Int
deriving DecidableEq
structure EntP where
  host : Bs
  sub : Bool
deriving DecidableEq
/-- A valid pin. -/
def pinOk (p : PinP) : Bool := nameV p.host && decide (0 ≤ p.expiry ∧ p.expiry ≤ 1099511627776)
structure CovP where
  source : Nat
  name : Bs
  exact : Bool
deriving DecidableEq
def cov0 : CovP := ⟨0, [], false⟩
/-- The coverage of a name by a pin or an entry. -/
def covAt (now : Int) (T : List PinP) (L : List EntP) (n : Bs) (exact : Bool) : Option CovP :=
  match T.find? (fun p => decide (p.host = n)) with
  | some p => if ¬ p.expiry ≤ now ∧ (exact = true ∨ p.sub = true) then some ⟨1, n, exact⟩ else covL L n exact
  | none => covL L n exact
where covL (L : List EntP) (n : Bs) (exact : Bool) : Option CovP := match L.find? (fun x => decide (x.host = n)) with
  | some x => if exact = true ∨ x.sub = true then some ⟨2, n, exact⟩ else none
  | none => none
/-- The coverage by a superdomain. -/
def covSup (now : Int) (T : List PinP) (L : List EntP) : List Bs → CovP
  | [] => cov0
  | s :: r => match covAt now T L s false with
    | some c => c
    | none => covSup now T L r
/-- The coverage of a host. -/
def covV (now : Int) (T : List PinP) (L : List EntP) (h : HostP) : CovP :=
  if h.kind = 1 ∧ hostOk h = true then (match covAt now T L h.name true with
    | some c => c
    | none => covSup now T L (supers h.name))
  else cov0
/-- A context. -/
structure CtxP where
  secure : Bool
  prohibits : Bool
  upgrade : Bool
  blockAll : Bool
  hosts : List Bs
deriving DecidableEq
structure DecP where
  action : Nat
  reason : Nat
  url : Bs
deriving DecidableEq
def dec0 : DecP := ⟨0, 0, []⟩
/-- Whether navigations to a host are upgraded. -/
def navV (c : CtxP) (h : HostP) : Bool := hostOk h && decide (hostT h ∈ c.hosts)
/-- The first rule whose condition is true. -/
def ruleV (u : UrlP) (d : Int) (img : Bool) (c : CtxP) (v : CovP) : DecP :=
  if portD u.scheme = 80 ∧ v.source ≠ 0 then ⟨2, 2, formatU (upgradeU u)⟩
  else if trustV u = true ∨ u.scheme = bData then ⟨1, 1, formatU u⟩
  else if portD u.scheme = 80 ∧ c.upgrade = true ∧ (d ≠ 4 ∨ navV c u.host = true) then ⟨2, 3, formatU (upgradeU u)⟩
  else if d = 4 ∨ c.prohibits = false then ⟨1, 6, formatU u⟩
  else if portD u.scheme = 80 ∧ catOf d img = 2 ∧ u.host.kind = 1 ∧ c.blockAll = false then ⟨2, 4, formatU (upgradeU u)⟩
  else ⟨3, 5, []⟩
def classV (u : UrlP) (d : Int) (img : Bool) (c : CtxP) (v : CovP) : Option DecP := if validU u = true ∧ validB d = true then some (ruleV u d img c v) else none
/-- The decision about a request. -/
def decideV (l : Bs) (d : Int) (img : Bool) (c : CtxP) (now : Int) (T : List PinP) (L : List EntP) : Option DecP := match urlV l with
  | none => none
  | some u => classV u d img c (covV now T L u.host)
end Hs
