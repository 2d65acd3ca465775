/- Plain functions of the layer ascii on lists of bytes, and their laws. No program in sight. Conditions: none.
   Words and small laws that all walks of this claim use: slices that read as lists of cells, worlds that grow. Conditions: none. -/
import Derived.ShutString
import Derived.Laws.Strings2
import Derived.Handy
import Derived.WalkSpells
import Derived.WalkLawsBesides
import Derived.WalkSmall
import Derived.Lib.Hide
import Derived.BigQuiet
import Derived.BigGuardPart
import Derived.Deep.QuietTactic
import Derived.Deep.RegionWith
import Derived.StillTailTactics
import Derived.Laws.AppendOwnNone
import Derived.Laws.IdiomStrings
namespace Hs
open Go

abbrev Bs := List UInt8

/-- The string with these bytes. -/
def mk (l : Bs) : ByteArray := ⟨l.toArray⟩
/-- The bytes of a string. -/
def un (s : ByteArray) : Bs := s.data.toList

@[simp] theorem un_mk (l : Bs) : un (mk l) = l := by simp [un, mk]
@[simp] theorem mk_un (s : ByteArray) : mk (un s) = s := by cases s; simp [un, mk]
@[simp] theorem size_mk (l : Bs) : (mk l).size = l.length := by simp [mk, ByteArray.size]
@[simp] theorem length_un (s : ByteArray) : (un s).length = s.size := by cases s; simp [un, ByteArray.size]
theorem toList_un (s : ByteArray) : s.toList = un s := _root_.Go.ByteArray.toList_eq s
theorem un_inj0 {a b : ByteArray} (h : un a = un b) : a = b := by rw [← mk_un a, ← mk_un b, h]
theorem un_append0 (a b : ByteArray) : un (a ++ b) = un a ++ un b := by simp [un, ByteArray.data_append]
theorem toList_mk' (l : Bs) : (mk l).toList = l := by rw [toList_un, un_mk]
theorem mk_append (a b : Bs) : mk (a ++ b) = mk a ++ mk b := un_inj0 (by rw [un_mk, un_append0, un_mk, un_mk])
theorem un_inj {a b : ByteArray} (h : un a = un b) : a = b := by rw [← mk_un a, ← mk_un b, h]
theorem getElem_un (s : ByteArray) (k : Nat) (h : k < s.size) : (un s)[k]'(by simpa using h) = s[k] := rfl
theorem un_extract (s : ByteArray) (a b : Nat) : un (s.extract a b) = ((un s).drop a).take (b - a) := by
  simp [un, ByteArray.data_extract, List.extract_eq_take_drop]
theorem un_append (a b : ByteArray) : un (a ++ b) = un a ++ un b := by simp [un, ByteArray.data_append]

/-! ### Bytes -/
def isDigit (b : UInt8) : Bool := decide (48 ≤ b.toNat ∧ b.toNat ≤ 57)
def isBlank (b : UInt8) : Bool := decide (b.toNat = 32 ∨ b.toNat = 9)
def isSpace (b : UInt8) : Bool := decide (b.toNat = 32 ∨ b.toNat = 9 ∨ b.toNat = 10 ∨ b.toNat = 12 ∨ b.toNat = 13)
def isUpper (b : UInt8) : Bool := decide (65 ≤ b.toNat ∧ b.toNat ≤ 90)
def isLower (b : UInt8) : Bool := decide (97 ≤ b.toNat ∧ b.toNat ≤ 122)
def isTok (b : UInt8) : Bool := decide (b.toNat = 33 ∨ b.toNat = 35 ∨ b.toNat = 36 ∨ b.toNat = 37 ∨ b.toNat = 38 ∨ b.toNat = 39 ∨ b.toNat = 42 ∨ b.toNat = 43 ∨ b.toNat = 45 ∨ b.toNat = 46 ∨ b.toNat = 94 ∨ b.toNat = 95 ∨ b.toNat = 96 ∨ b.toNat = 124 ∨ b.toNat = 126 ∨ (97 ≤ b.toNat ∧ b.toNat ≤ 122) ∨ (65 ≤ b.toNat ∧ b.toNat ≤ 90) ∨ (48 ≤ b.toNat ∧ b.toNat ≤ 57))
def lowB (b : UInt8) : UInt8 := if isUpper b then b + 32 else b

theorem lowB_idem (b : UInt8) : lowB (lowB b) = lowB b := by
  unfold lowB isUpper
  have h : (b + 32).toNat = (b.toNat + 32) % 256 := UInt8.toNat_add b 32
  have hb := b.toNat_lt
  by_cases h1 : 65 ≤ b.toNat <;> by_cases h2 : b.toNat ≤ 90 <;> simp [h1, h2, h] <;> omega

/-! ### Texts -/
def lower (l : Bs) : Bs := l.map lowB
@[simp] theorem length_lower (l : Bs) : (lower l).length = l.length := by simp [lower]
theorem lower_append (a b : Bs) : lower (a ++ b) = lower a ++ lower b := by simp [lower]
theorem lower_idem (l : Bs) : lower (lower l) = lower l := by
  simp only [lower, List.map_map]
  exact List.map_congr_left (fun b _ => lowB_idem b)
theorem lower_snoc (l : Bs) (k : Nat) (h : k < l.length) : lower (l.take (k + 1)) = lower (l.take k) ++ [lowB l[k]] := by
  rw [List.take_succ_eq_append_getElem h, lower_append]; rfl

def trimL : Bs → Bs
  | [] => []
  | b :: r => if isBlank b then trimL r else b :: r
def trimR (l : Bs) : Bs := (trimL l.reverse).reverse
def trim (l : Bs) : Bs := trimR (trimL l)

def digits (l : Bs) : Bool := !l.isEmpty && l.all isDigit

def wordsAux : Bs → Bs → List Bs
  | cur, [] => if cur.isEmpty then [] else [cur]
  | cur, b :: r => if isSpace b then (if cur.isEmpty then wordsAux [] r else cur :: wordsAux [] r) else wordsAux (cur ++ [b]) r
def words (l : Bs) : List Bs := wordsAux [] l

/-! ### Segments -/
/-- The bytes from fr to k. -/
def seg (l : Bs) (fr k : Nat) : Bs := (l.drop fr).take (k - fr)
theorem seg_snoc (l : Bs) (fr k : Nat) (h : fr ≤ k) (hk : k < l.length) : seg l fr (k + 1) = seg l fr k ++ [l[k]] := by
  unfold seg
  have hd : k - fr < (l.drop fr).length := by simp; omega
  have e : k + 1 - fr = k - fr + 1 := by omega
  rw [e, List.take_succ_eq_append_getElem hd]
  congr 2
  simp only [List.getElem_drop]
  congr 1
  omega
@[simp] theorem seg_self (l : Bs) (k : Nat) : seg l k k = [] := by simp [seg]
theorem length_seg (l : Bs) (fr k : Nat) (h : fr ≤ k) (hk : k ≤ l.length) : (seg l fr k).length = k - fr := by simp [seg]; omega
theorem seg_empty (l : Bs) (fr k : Nat) (h : fr ≤ k) (hk : k ≤ l.length) : (seg l fr k).isEmpty = decide (fr = k) := by
  have := length_seg l fr k h hk
  rw [Bool.eq_iff_iff, List.isEmpty_iff, decide_eq_true_eq, ← List.length_eq_zero_iff]
  omega
theorem un_extract_seg (s : ByteArray) (a b : Nat) : un (s.extract a b) = seg (un s) a b := un_extract s a b
theorem extract_seg (s : ByteArray) (a b : Nat) : s.extract a b = mk (seg (un s) a b) := by rw [← un_extract_seg, mk_un]
theorem seg_full (l : Bs) (k : Nat) : seg l k l.length = l.drop k := by unfold seg; exact List.take_of_length_le (by simp)
theorem seg_zero (l : Bs) (k : Nat) : seg l 0 k = l.take k := by simp [seg]

/-! ### Trim, step by step -/
theorem trimL_blank (l : Bs) (h : 0 < l.length) (hb : isBlank l[0] = true) : trimL l = trimL (l.drop 1) := by
  match l, h with
  | b :: r, _ => simp only [List.getElem_cons_zero] at hb; simp [trimL, hb]
theorem trimL_not (l : Bs) (h : 0 < l.length) (hb : isBlank l[0] = false) : trimL l = l := by
  match l, h with
  | b :: r, _ => simp only [List.getElem_cons_zero] at hb; simp [trimL, hb]
theorem trimR_snoc (l : Bs) (b : UInt8) : trimR (l ++ [b]) = if isBlank b then trimR l else l ++ [b] := by
  unfold trimR
  rw [List.reverse_append]
  simp only [List.reverse_cons, List.reverse_nil, List.nil_append, List.cons_append, trimL]
  split <;> simp
theorem split_last (l : Bs) (h : 0 < l.length) : l = l.take (l.length - 1) ++ [l[l.length - 1]] := by
  have := List.take_succ_eq_append_getElem (l := l) (i := l.length - 1) (by omega)
  rw [← this]
  rw [List.take_of_length_le (by omega)]
theorem trimR_blank (l : Bs) (h : 0 < l.length) (hb : isBlank (l[l.length - 1]) = true) : trimR l = trimR (l.take (l.length - 1)) := by
  conv => lhs; rw [split_last l h]
  rw [trimR_snoc, if_pos hb]
theorem trimR_not (l : Bs) (h : 0 < l.length) (hb : isBlank (l[l.length - 1]) = false) : trimR l = l := by
  conv => lhs; rw [split_last l h]
  rw [trimR_snoc, if_neg (by simp [hb])]
  exact (split_last l h).symm

/-! ### Words, step by step -/
theorem wordsAux_char (l : Bs) (fr k : Nat) (h : fr ≤ k) (hk : k < l.length) (hs : isSpace l[k] = false) :
    wordsAux (seg l fr k) (l.drop k) = wordsAux (seg l fr (k + 1)) (l.drop (k + 1)) := by
  rw [List.drop_eq_getElem_cons hk, seg_snoc l fr k h hk]
  simp [wordsAux, hs]
theorem wordsAux_space (l : Bs) (fr k : Nat) (h : fr ≤ k) (hk : k < l.length) (hs : isSpace l[k] = true) :
    wordsAux (seg l fr k) (l.drop k) = (if fr < k then [seg l fr k] else []) ++ wordsAux [] (l.drop (k + 1)) := by
  rw [List.drop_eq_getElem_cons hk]
  have e := seg_empty l fr k h (by omega)
  by_cases hlt : fr < k
  · have : decide (fr = k) = false := by simp; omega
    rw [this] at e
    simp [wordsAux, hs, hlt, e]
  · have : decide (fr = k) = true := by simp; omega
    rw [this] at e
    simp [wordsAux, hs, hlt, e]
theorem wordsAux_end (l : Bs) (fr : Nat) (h : fr ≤ l.length) :
    wordsAux (seg l fr l.length) (l.drop l.length) = (if fr < l.length then [seg l fr l.length] else []) := by
  have e := seg_empty l fr l.length h (by omega)
  rw [List.drop_length]
  by_cases hlt : fr < l.length
  · have : decide (fr = l.length) = false := by simp; omega
    rw [this] at e
    simp [wordsAux, hlt, e]
  · have : decide (fr = l.length) = true := by simp; omega
    rw [this] at e
    simp [wordsAux, hlt, e]
/-- What the loop of Words has found after k bytes: D; fr: where the current word begins. -/
def WordsTo (l : Bs) (D : List Bs) (fr k : Nat) : Prop := (k ≤ l.length → D ++ wordsAux (seg l fr k) (l.drop k) = words l) ∧ (k = l.length + 1 → D = words l)
theorem WordsTo.start (l : Bs) : WordsTo l [] 0 0 := ⟨fun _ => by simp [words], fun h => by omega⟩
theorem WordsTo.char {l : Bs} {D : List Bs} {fr k : Nat} (h : WordsTo l D fr k) (hf : fr ≤ k) (hk : k < l.length) (hs : isSpace l[k] = false) : WordsTo l D fr (k + 1) :=
  ⟨fun _ => by rw [← wordsAux_char l fr k hf hk hs]; exact h.1 (by omega), fun e => by omega⟩
theorem WordsTo.cut {l : Bs} {D : List Bs} {fr k : Nat} (h : WordsTo l D fr k) (hf : fr ≤ k) (hk : k ≤ l.length) (hs : ∀ hk' : k < l.length, isSpace l[k] = true) :
    WordsTo l (D ++ (if fr < k then [seg l fr k] else [])) (k + 1) (k + 1) := by
  have h1 := h.1 hk
  refine ⟨fun hk' => ?_, fun e => ?_⟩
  · rw [wordsAux_space l fr k hf (by omega) (hs (by omega))] at h1
    rw [seg_self, List.append_assoc]
    exact h1
  · have e' : k = l.length := by omega
    subst e'
    rw [wordsAux_end l fr hf] at h1
    exact h1

/-! ### Digits -/
theorem all_drop (l : Bs) (p : UInt8 → Bool) (k : Nat) (hk : k < l.length) : (l.drop k).all p = (p l[k] && (l.drop (k + 1)).all p) := by
  rw [List.drop_eq_getElem_cons hk, List.all_cons]
theorem all_drop_eq (l : Bs) (p : UInt8 → Bool) (k : Nat) (hk : k < l.length) (b : Bool) (h : p l[k] = b) : (l.drop k).all p = (b && (l.drop (k + 1)).all p) := by
  rw [all_drop l p k hk, h]
end Hs
namespace Hs
open Go Go.RowKit
set_option linter.unusedVariables false
set_option linter.unusedSimpArgs false

/-- For a walk's end: a bool that was found and the decision that it is. -/
theorem btrue {p : Prop} [Decidable p] (h : p) : true = decide p := (decide_eq_true h).symm
theorem bfalse {p : Prop} [Decidable p] (h : ¬ p) : false = decide p := (decide_eq_false h).symm
theorem bdec {p q : Prop} [Decidable p] [Decidable q] (h : p ↔ q) : decide p = decide q := by simp [h]
theorem beqdec {a b : Int} {q : Prop} [Decidable q] (h : a = b ↔ q) : (a == b) = decide q := by rw [Bool.eq_iff_iff]; simp [h]
theorem bnedec {a b : Int} {q : Prop} [Decidable q] (h : a ≠ b ↔ q) : (a != b) = decide q := by rw [Bool.eq_iff_iff]; simp [← h]
theorem ret_bool {a b : Bool} (h : a = b) : Ending.returned (.bool a) = .returned (.bool b) := by rw [h]
theorem ret_int {k : IntKind} {a b : Int} (h : a = b) : Ending.returned (.int k a) = .returned (.int k b) := by rw [h]
theorem ret_str {a b : ByteArray} (h : un a = un b) : Ending.returned (.string a) = .returned (.string b) := by rw [un_inj h]

theorem bcell {W w1 : World} (hb : Below W.heap.size W w1) : (∀ b o, b < W.heap.size → w1.cell? ⟨b, o, none⟩ = W.cell? ⟨b, o, none⟩) ∧ (∀ b o, b < W.heap.size → w1.frozen? ⟨b, o, none⟩ = W.frozen? ⟨b, o, none⟩) :=
  ⟨fun b o h => hb.cell (p := ⟨b, o, none⟩) h, fun b o h => hb.frozen (p := ⟨b, o, none⟩) h⟩

/-- v is a slice of n elements of 'size' cells each, and its cells hold xs. -/
def Row (w : World) (v : Value) (size n : Nat) (xs : List Value) : Prop :=
  xs.length = n * size ∧ ∃ a cap, v = .slice a n cap ∧ n ≤ cap ∧ cap ≤ maxLen ∧
    (n = 0 ∨ ∃ b off, a = some ⟨b, off, none⟩ ∧ b < w.heap.size ∧ ∀ j u, xs[j]? = some u → w.cell? ⟨b, off + j, none⟩ = some u)

theorem Row.below {w w' : World} {v : Value} {size n : Nat} {xs : List Value} (h : Row w v size n xs) (hb : Below w.heap.size w w') : Row w' v size n xs := by
  obtain ⟨hl, a, cap, hv, hn, hm, h⟩ := h
  refine ⟨hl, a, cap, hv, hn, hm, h.imp id ?_⟩
  rintro ⟨b, off, ha, hlt, hc⟩
  exact ⟨b, off, ha, by have := hb.size; omega, fun j u hj => ((bcell hb).1 b (off + j) hlt).trans (hc j u hj)⟩

theorem Row.nil (w : World) (size : Nat) : Row w (.slice none 0 0) size 0 [] :=
  ⟨by simp, none, 0, rfl, Nat.le_refl _, by simp [maxLen], .inl rfl⟩

/-- What a call owns reads as a row. -/
theorem Row.owned {w : World} {base : Nat} {e : TypeId} {size n : Nat} {v : Value} {xs : List Value} (h : w.ownsRow base e size v n xs) : Row w v size n xs := by
  have hl := h.1
  rcases h.2 with ⟨rfl, rfl⟩ | ⟨g, cap, cur, rfl, hb, hg, hn, hm, hs, ht⟩
  · exact ⟨hl, none, 0, rfl, Nat.le_refl _, by simp [maxLen], .inl rfl⟩
  · refine ⟨hl, _, cap, rfl, hn, hm, .inr ⟨g, 0, rfl, (Array.getElem?_eq_some_iff.1 hg).1, fun j u hj => ?_⟩⟩
    have := h.cells (g := g) rfl j u hj
    have hadd : (⟨g, 0, none⟩ : Addr).add j = ⟨g, j, none⟩ := by unfold Addr.add; split <;> simp_all
    rw [hadd] at this
    simpa using this

/-- Behind a law that ends in 'grownBy' on what the call owns from its own base on. -/
theorem below_grown {base : Nat} {W w w' : World} {e : TypeId} {size n : Nat} {v : Value} {xs : List Value} (hb : Below base W w) (ho : w.ownsRow base e size v n xs) (hg : w.grownBy w' v.ownBlock) (hs : base ≤ w.heap.size) : Below base W w' :=
  hb.grown hg hs (fun k hk => (ho.lt k hk).1)

/-! ### Bytes in memory -/
def bcells (l : Bs) : List Value := l.map fun b => .int .u8 (b.toNat : Int)
@[simp] theorem length_bcells (l : Bs) : (bcells l).length = l.length := by simp [bcells]
theorem bcells_append (a b : Bs) : bcells (a ++ b) = bcells a ++ bcells b := by simp [bcells]

/-- 'string(b)' where b reads as the bytes l. -/
theorem string_of_row {P : Program} {w : World} {v : Value} {n : Nat} {l : Bs} (h : Row w v 1 n (bcells l)) {src dst e : TypeId}
    (hs : P.underlying src = some (.slice e)) (he : P.underlying e = some (.int .u8)) (hd : P.underlying dst = some .string) :
    (convert src dst v).run P w = .ok (.string (mk l)) w := by
  obtain ⟨hl, a, cap, rfl, hn, hm, h⟩ := h
  have hn' : n = l.length := by simpa using hl.symm
  subst hn'
  rcases h with h0 | ⟨b, off, rfl, hlt, hc⟩
  · have : l = [] := List.eq_nil_of_length_eq_zero h0
    subst this
    rw [run_convert_bytes_string w src dst e a _ cap hs he hd]
    cases a with
    | none => simp [Conv.bytesToString, mk]; rfl
    | some a => exact run_bytesToString w a 0 cap [] (by simp [loadCells, loadCellsFrom])
  · refine run_convert_bytes_back w src dst e ⟨b, off, none⟩ cap l hs he hd ?_
    intro j hj
    have := hc j (.int .u8 (l[j].toNat : Int)) (by simp [bcells, List.getElem?_eq_getElem hj])
    have hadd : (⟨b, off, none⟩ : Addr).add j = ⟨b, off + j, none⟩ := by unfold Addr.add; split <;> simp_all
    rw [hadd]
    exact this

/-! ### Strings in memory -/
def scells (l : List Bs) : List Value := l.map fun t => .string (mk t)
@[simp] theorem length_scells (l : List Bs) : (scells l).length = l.length := by simp [scells]
theorem scells_append (a b : List Bs) : scells (a ++ b) = scells a ++ scells b := by simp [scells]
/-- A slice of strings. -/
def Strs (w : World) (v : Value) (l : List Bs) : Prop := Row w v 1 l.length (scells l)
theorem Strs.below {w w' : World} {v : Value} {l : List Bs} (h : Strs w v l) (hb : Below w.heap.size w w') : Strs w' v l := Row.below h hb
/-- Its shape and its cells. -/
theorem Strs.open {w : World} {v : Value} {l : List Bs} (h : Strs w v l) : ∃ a cap, v = .slice a l.length cap ∧ l.length ≤ cap ∧ cap ≤ maxLen ∧
    ∀ (hn : 0 < l.length), ∃ b off, a = some ⟨b, off, none⟩ ∧ b < w.heap.size ∧ ∀ j (hj : j < l.length), w.cell? ⟨b, off + j, none⟩ = some (.string (mk l[j])) := by
  obtain ⟨hl, a, cap, rfl, hn, hm, h⟩ := h
  refine ⟨a, cap, rfl, hn, hm, fun h0 => ?_⟩
  rcases h with h | ⟨b, off, ha, hlt, hc⟩
  · omega
  · exact ⟨b, off, ha, hlt, fun j hj => hc j _ (by simp [scells, List.getElem?_eq_getElem hj])⟩
/-- The length in a slot that holds a string: for a loop's measure. -/
def strLen : Value → Nat | .string s => s.size | _ => 0
theorem strs_lit (w : World) (l : List ByteArray) (T : TypeId) (h : l.length ≤ maxLen) : Strs (w.alloc (.cells (l.map Value.string).toArray T)) (.slice (some ⟨w.heap.size, 0, none⟩) l.length l.length) (l.map un) := by
  refine ⟨by simp, some ⟨w.heap.size, 0, none⟩, l.length, by simp, by simp, h, .inr ⟨w.heap.size, 0, rfl, by simp, fun j u hj => ?_⟩⟩
  rw [Nat.zero_add, World.cell?_alloc_mark]
  simpa [scells, Function.comp_def] using hj

end Hs
