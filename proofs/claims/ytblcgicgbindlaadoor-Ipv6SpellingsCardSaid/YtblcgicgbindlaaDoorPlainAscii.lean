/- Plain functions of the layer ascii on lists of bytes, and their laws. No program in sight. Conditions: none. -/
import Derived.ShutString
import Derived.Laws.Strings2
namespace Hs
open Go

abbrev Bs := List UInt8

/-- The string with these bytes. -/
def mk (l : Bs) : ByteArray := ⟨l.toArray⟩
/-- The bytes of a string. -/
def un (s : ByteArray) : Bs := s.data.toList

@[simp] theorem un_mk (l : Bs) : un (mk l) = l := by simp [un, mk]
@[simp] theorem mk_un (s : ByteArray) : mk (un s) = s := by cases s; simp [un, mk]
@[simp] theorem size_mk (l : Bs) : (mk l).size = l.length := by simp [mk, ByteArray.size]
@[simp] theorem length_un (s : ByteArray) : (un s).length = s.size := by cases s; simp [un, ByteArray.size]
theorem toList_un (s : ByteArray) : s.toList = un s := _root_.Go.ByteArray.toList_eq s
theorem un_inj0 {a b : ByteArray} (h : un a = un b) : a = b := by rw [← mk_un a, ← mk_un b, h]
theorem un_append0 (a b : ByteArray) : un (a ++ b) = un a ++ un b := by simp [un, ByteArray.data_append]
theorem toList_mk' (l : Bs) : (mk l).toList = l := by rw [toList_un, un_mk]
theorem mk_append (a b : Bs) : mk (a ++ b) = mk a ++ mk b := un_inj0 (by rw [un_mk, un_append0, un_mk, un_mk])
theorem un_inj {a b : ByteArray} (h : un a = un b) : a = b := by rw [← mk_un a, ← mk_un b, h]
theorem getElem_un (s : ByteArray) (k : Nat) (h : k < s.size) : (un s)[k]'(by simpa using h) = s[k] := rfl
theorem un_extract (s : ByteArray) (a b : Nat) : un (s.extract a b) = ((un s).drop a).take (b - a) := by
  simp [un, ByteArray.data_extract, List.extract_eq_take_drop]
theorem un_append (a b : ByteArray) : un (a ++ b) = un a ++ un b := by simp [un, ByteArray.data_append]

/-! ### Bytes -/
def isDigit (b : UInt8) : Bool := decide (48 ≤ b.toNat ∧ b.toNat ≤ 57)
def isBlank (b : UInt8) : Bool := decide (b.toNat = 32 ∨ b.toNat = 9)
def isSpace (b : UInt8) : Bool := decide (b.toNat = 32 ∨ b.toNat = 9 ∨ b.toNat = 10 ∨ b.toNat = 12 ∨ b.toNat = 13)
def isUpper (b : UInt8) : Bool := decide (65 ≤ b.toNat ∧ b.toNat ≤ 90)
def isLower (b : UInt8) : Bool := decide (97 ≤ b.toNat ∧ b.toNat ≤ 122)
def isTok (b : UInt8) : Bool := decide (b.toNat = 33 ∨ b.toNat = 35 ∨ b.toNat = 36 ∨ b.toNat = 37 ∨ b.toNat = 38 ∨ b.toNat = 39 ∨ b.toNat = 42 ∨ b.toNat = 43 ∨ b.toNat = 45 ∨ b.toNat = 46 ∨ b.toNat = 94 ∨ b.toNat = 95 ∨ b.toNat = 96 ∨ b.toNat = 124 ∨ b.toNat = 126 ∨ (97 ≤ b.toNat ∧ b.toNat ≤ 122) ∨ (65 ≤ b.toNat ∧ b.toNat ≤ 90) ∨ (48 ≤ b.toNat ∧ b.toNat ≤ 57))
def lowB (b : UInt8) : UInt8 := if isUpper b then b + 32 else b

theorem lowB_idem (b : UInt8) : lowB (lowB b) = lowB b := by
  unfold lowB isUpper
  have h : (b + 32).toNat = (b.toNat + 32) % 256 := UInt8.toNat_add b 32
  have hb := b.toNat_lt
  by_cases h1 : 65 ≤ b.toNat <;> by_cases h2 : b.toNat ≤ 90 <;> simp [h1, h2, h] <;> omega

/-! ### Texts -/
def lower (l : Bs) : Bs := l.map lowB
@[simp] theorem length_lower (l : Bs) : (lower l).length = l.length := by simp [lower]
theorem lower_append (a b : Bs) : lower (a ++ b) = lower a ++ lower b := by simp [lower]
theorem lower_idem (l : Bs) : lower (lower l) = lower l := by
  simp only [lower, List.map_map]
  exact List.map_congr_left (fun b _ => lowB_idem b)
theorem lower_snoc (l : Bs) (k : Nat) (h : k < l.length) : lower (l.take (k + 1)) = lower (l.take k) ++ [lowB l[k]] := by
  rw [List.take_succ_eq_append_getElem h, lower_append]; rfl

def trimL : Bs → Bs
  | [] => []
  | b :: r => if isBlank b then trimL r else b :: r
def trimR (l : Bs) : Bs := (trimL l.reverse).reverse
def trim (l : Bs) : Bs := trimR (trimL l)

def digits (l : Bs) : Bool := !l.isEmpty && l.all isDigit

def wordsAux : Bs → Bs → List Bs
  | cur, [] => if cur.isEmpty then [] else [cur]
  | cur, b :: r => if isSpace b then (if cur.isEmpty then wordsAux [] r else cur :: wordsAux [] r) else wordsAux (cur ++ [b]) r
def words (l : Bs) : List Bs := wordsAux [] l

/-! ### Segments -/
/-- The bytes from fr to k. -/
def seg (l : Bs) (fr k : Nat) : Bs := (l.drop fr).take (k - fr)
theorem seg_snoc (l : Bs) (fr k : Nat) (h : fr ≤ k) (hk : k < l.length) : seg l fr (k + 1) = seg l fr k ++ [l[k]] := by
  unfold seg
  have hd : k - fr < (l.drop fr).length := by simp; omega
  have e : k + 1 - fr = k - fr + 1 := by omega
  rw [e, List.take_succ_eq_append_getElem hd]
  congr 2
  simp only [List.getElem_drop]
  congr 1
  omega
@[simp] theorem seg_self (l : Bs) (k : Nat) : seg l k k = [] := by simp [seg]
theorem length_seg (l : Bs) (fr k : Nat) (h : fr ≤ k) (hk : k ≤ l.length) : (seg l fr k).length = k - fr := by simp [seg]; omega
theorem seg_empty (l : Bs) (fr k : Nat) (h : fr ≤ k) (hk : k ≤ l.length) : (seg l fr k).isEmpty = decide (fr = k) := by
  have := length_seg l fr k h hk
  rw [Bool.eq_iff_iff, List.isEmpty_iff, decide_eq_true_eq, ← List.length_eq_zero_iff]
  omega
theorem un_extract_seg (s : ByteArray) (a b : Nat) : un (s.extract a b) = seg (un s) a b := un_extract s a b
theorem extract_seg (s : ByteArray) (a b : Nat) : s.extract a b = mk (seg (un s) a b) := by rw [← un_extract_seg, mk_un]
theorem seg_full (l : Bs) (k : Nat) : seg l k l.length = l.drop k := by unfold seg; exact List.take_of_length_le (by simp)
theorem seg_zero (l : Bs) (k : Nat) : seg l 0 k = l.take k := by simp [seg]

/-! ### Trim, step by step -/
theorem trimL_blank (l : Bs) (h : 0 < l.length) (hb : isBlank l[0] = true) : trimL l = trimL (l.drop 1) := by
  match l, h with
  | b :: r, _ => simp only [List.getElem_cons_zero] at hb; simp [trimL, hb]
theorem trimL_not (l : Bs) (h : 0 < l.length) (hb : isBlank l[0] = false) : trimL l = l := by
  match l, h with
  | b :: r, _ => simp only [List.getElem_cons_zero] at hb; simp [trimL, hb]
theorem trimR_snoc (l : Bs) (b : UInt8) : trimR (l ++ [b]) = if isBlank b then trimR l else l ++ [b] := by
  unfold trimR
  rw [List.reverse_append]
  simp only [List.reverse_cons, List.reverse_nil, List.nil_append, List.cons_append, trimL]
  split <;> simp
theorem split_last (l : Bs) (h : 0 < l.length) : l = l.take (l.length - 1) ++ [l[l.length - 1]] := by
  have := List.take_succ_eq_append_getElem (l := l) (i := l.length - 1) (by omega)
  rw [← this]
  rw [List.take_of_length_le (by omega)]
theorem trimR_blank (l : Bs) (h : 0 < l.length) (hb : isBlank (l[l.length - 1]) = true) : trimR l = trimR (l.take (l.length - 1)) := by
  conv => lhs; rw [split_last l h]
  rw [trimR_snoc, if_pos hb]
theorem trimR_not (l : Bs) (h : 0 < l.length) (hb : isBlank (l[l.length - 1]) = false) : trimR l = l := by
  conv => lhs; rw [split_last l h]
  rw [trimR_snoc, if_neg (by simp [hb])]
  exact (split_last l h).symm

/-! ### Words, step by step -/
theorem wordsAux_char (l : Bs) (fr k : Nat) (h : fr ≤ k) (hk : k < l.length) (hs : isSpace l[k] = false) :
    wordsAux (seg l fr k) (l.drop k) = wordsAux (seg l fr (k + 1)) (l.drop (k + 1)) := by
  rw [List.drop_eq_getElem_cons hk, seg_snoc l fr k h hk]
  simp [wordsAux, hs]
theorem wordsAux_space (l : Bs) (fr k : Nat) (h : fr ≤ k) (hk : k < l.length) (hs : isSpace l[k] = true) :
    wordsAux (seg l fr k) (l.drop k) = (if fr < k then [seg l fr k] else []) ++ wordsAux [] (l.drop (k + 1)) := by
  rw [List.drop_eq_getElem_cons hk]
  have e := seg_empty l fr k h (by omega)
  by_cases hlt : fr < k
  · have : decide (fr = k) = false := by simp; omega
    rw [this] at e
    simp [wordsAux, hs, hlt, e]
  · have : decide (fr = k) = true := by simp; omega
    rw [this] at e
    simp [wordsAux, hs, hlt, e]
theorem wordsAux_end (l : Bs) (fr : Nat) (h : fr ≤ l.length) :
    wordsAux (seg l fr l.length) (l.drop l.length) = (if fr < l.length then [seg l fr l.length] else []) := by
  have e := seg_empty l fr l.length h (by omega)
  rw [List.drop_length]
  by_cases hlt : fr < l.length
  · have : decide (fr = l.length) = false := by simp; omega
    rw [this] at e
    simp [wordsAux, hlt, e]
  · have : decide (fr = l.length) = true := by simp; omega
    rw [this] at e
    simp [wordsAux, hlt, e]
/-- What the loop of Words has found after k bytes: D; fr: where the current word begins. -/
def WordsTo (l : Bs) (D : List Bs) (fr k : Nat) : Prop := (k ≤ l.length → D ++ wordsAux (seg l fr k) (l.drop k) = words l) ∧ (k = l.length + 1 → D = words l)
theorem WordsTo.start (l : Bs) : WordsTo l [] 0 0 := ⟨fun _ => by simp [words], fun h => by omega⟩
theorem WordsTo.char {l : Bs} {D : List Bs} {fr k : Nat} (h : WordsTo l D fr k) (hf : fr ≤ k) (hk : k < l.length) (hs : isSpace l[k] = false) : WordsTo l D fr (k + 1) :=
  ⟨fun _ => by rw [← wordsAux_char l fr k hf hk hs]; exact h.1 (by omega), fun e => by omega⟩
theorem WordsTo.cut {l : Bs} {D : List Bs} {fr k : Nat} (h : WordsTo l D fr k) (hf : fr ≤ k) (hk : k ≤ l.length) (hs : ∀ hk' : k < l.length, isSpace l[k] = true) :
    WordsTo l (D ++ (if fr < k then [seg l fr k] else [])) (k + 1) (k + 1) := by
  have h1 := h.1 hk
  refine ⟨fun hk' => ?_, fun e => ?_⟩
  · rw [wordsAux_space l fr k hf (by omega) (hs (by omega))] at h1
    rw [seg_self, List.append_assoc]
    exact h1
  · have e' : k = l.length := by omega
    subst e'
    rw [wordsAux_end l fr hf] at h1
    exact h1

/-! ### Digits -/
theorem all_drop (l : Bs) (p : UInt8 → Bool) (k : Nat) (hk : k < l.length) : (l.drop k).all p = (p l[k] && (l.drop (k + 1)).all p) := by
  rw [List.drop_eq_getElem_cons hk, List.all_cons]
theorem all_drop_eq (l : Bs) (p : UInt8 → Bool) (k : Nat) (hk : k < l.length) (b : Bool) (h : p l[k] = b) : (l.drop k).all p = (b && (l.drop (k + 1)).all p) := by
  rw [all_drop l p k hk, h]
end Hs
