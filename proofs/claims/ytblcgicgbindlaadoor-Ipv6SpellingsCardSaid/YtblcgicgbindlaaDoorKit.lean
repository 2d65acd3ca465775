/- Words and small laws that all walks of this claim use: slices that read as lists of cells, worlds that grow. Conditions: none. -/
import Derived.Handy
import Derived.WalkSpells
import Derived.WalkLawsBesides
import Derived.WalkSmall
import Derived.Lib.Hide
import Derived.BigQuiet
import Derived.BigGuardPart
import Derived.Deep.QuietTactic
import Derived.Deep.RegionWith
import Derived.StillTailTactics
import Derived.Laws.AppendOwnNone
import Derived.Laws.IdiomStrings
import Derived.Test.YtblcgicgbindlaaDoorPlainAscii
namespace Hs
open Go Go.RowKit
set_option linter.unusedVariables false
set_option linter.unusedSimpArgs false

/-- For a walk's end: a bool that was found and the decision that it is. -/
theorem btrue {p : Prop} [Decidable p] (h : p) : true = decide p := (decide_eq_true h).symm
theorem bfalse {p : Prop} [Decidable p] (h : ¬ p) : false = decide p := (decide_eq_false h).symm
theorem bdec {p q : Prop} [Decidable p] [Decidable q] (h : p ↔ q) : decide p = decide q := by simp [h]
theorem beqdec {a b : Int} {q : Prop} [Decidable q] (h : a = b ↔ q) : (a == b) = decide q := by rw [Bool.eq_iff_iff]; simp [h]
theorem bnedec {a b : Int} {q : Prop} [Decidable q] (h : a ≠ b ↔ q) : (a != b) = decide q := by rw [Bool.eq_iff_iff]; simp [← h]
theorem ret_bool {a b : Bool} (h : a = b) : Ending.returned (.bool a) = .returned (.bool b) := by rw [h]
theorem ret_int {k : IntKind} {a b : Int} (h : a = b) : Ending.returned (.int k a) = .returned (.int k b) := by rw [h]
theorem ret_str {a b : ByteArray} (h : un a = un b) : Ending.returned (.string a) = .returned (.string b) := by rw [un_inj h]

theorem bcell {W w1 : World} (hb : Below W.heap.size W w1) : (∀ b o, b < W.heap.size → w1.cell? ⟨b, o, none⟩ = W.cell? ⟨b, o, none⟩) ∧ (∀ b o, b < W.heap.size → w1.frozen? ⟨b, o, none⟩ = W.frozen? ⟨b, o, none⟩) :=
  ⟨fun b o h => hb.cell (p := ⟨b, o, none⟩) h, fun b o h => hb.frozen (p := ⟨b, o, none⟩) h⟩

/-- v is a slice of n elements of 'size' cells each, and its cells hold xs. -/
def Row (w : World) (v : Value) (size n : Nat) (xs : List Value) : Prop :=
  xs.length = n * size ∧ ∃ a cap, v = .slice a n cap ∧ n ≤ cap ∧ cap ≤ maxLen ∧
    (n = 0 ∨ ∃ b off, a = some ⟨b, off, none⟩ ∧ b < w.heap.size ∧ ∀ j u, xs[j]? = some u → w.cell? ⟨b, off + j, none⟩ = some u)

theorem Row.below {w w' : World} {v : Value} {size n : Nat} {xs : List Value} (h : Row w v size n xs) (hb : Below w.heap.size w w') : Row w' v size n xs := by
  obtain ⟨hl, a, cap, hv, hn, hm, h⟩ := h
  refine ⟨hl, a, cap, hv, hn, hm, h.imp id ?_⟩
  rintro ⟨b, off, ha, hlt, hc⟩
  exact ⟨b, off, ha, by have := hb.size; omega, fun j u hj => ((bcell hb).1 b (off + j) hlt).trans (hc j u hj)⟩

theorem Row.nil (w : World) (size : Nat) : Row w (.slice none 0 0) size 0 [] :=
  ⟨by simp, none, 0, rfl, Nat.le_refl _, by simp [maxLen], .inl rfl⟩

/-- What a call owns reads as a row. -/
theorem Row.owned {w : World} {base : Nat} {e : TypeId} {size n : Nat} {v : Value} {xs : List Value} (h : w.ownsRow base e size v n xs) : Row w v size n xs := by
  have hl := h.1
  rcases h.2 with ⟨rfl, rfl⟩ | ⟨g, cap, cur, rfl, hb, hg, hn, hm, hs, ht⟩
  · exact ⟨hl, none, 0, rfl, Nat.le_refl _, by simp [maxLen], .inl rfl⟩
  · refine ⟨hl, _, cap, rfl, hn, hm, .inr ⟨g, 0, rfl, (Array.getElem?_eq_some_iff.1 hg).1, fun j u hj => ?_⟩⟩
    have := h.cells (g := g) rfl j u hj
    have hadd : (⟨g, 0, none⟩ : Addr).add j = ⟨g, j, none⟩ := by unfold Addr.add; split <;> simp_all
    rw [hadd] at this
    simpa using this

/-- Behind a law that ends in 'grownBy' on what the call owns from its own base on. -/
theorem below_grown {base : Nat} {W w w' : World} {e : TypeId} {size n : Nat} {v : Value} {xs : List Value} (hb : Below base W w) (ho : w.ownsRow base e size v n xs) (hg : w.grownBy w' v.ownBlock) (hs : base ≤ w.heap.size) : Below base W w' :=
  hb.grown hg hs (fun k hk => (ho.lt k hk).1)

/-! ### Bytes in memory -/
def bcells (l : Bs) : List Value := l.map fun b => .int .u8 (b.toNat : Int)
@[simp] theorem length_bcells (l : Bs) : (bcells l).length = l.length := by simp [bcells]
theorem bcells_append (a b : Bs) : bcells (a ++ b) = bcells a ++ bcells b := by simp [bcells]

/-- 'string(b)' where b reads as the bytes l. -/
theorem string_of_row {P : Program} {w : World} {v : Value} {n : Nat} {l : Bs} (h : Row w v 1 n (bcells l)) {src dst e : TypeId}
    (hs : P.underlying src = some (.slice e)) (he : P.underlying e = some (.int .u8)) (hd : P.underlying dst = some .string) :
    (convert src dst v).run P w = .ok (.string (mk l)) w := by
  obtain ⟨hl, a, cap, rfl, hn, hm, h⟩ := h
  have hn' : n = l.length := by simpa using hl.symm
  subst hn'
  rcases h with h0 | ⟨b, off, rfl, hlt, hc⟩
  · have : l = [] := List.eq_nil_of_length_eq_zero h0
    subst this
    rw [run_convert_bytes_string w src dst e a _ cap hs he hd]
    cases a with
    | none => simp [Conv.bytesToString, mk]; rfl
    | some a => exact run_bytesToString w a 0 cap [] (by simp [loadCells, loadCellsFrom])
  · refine run_convert_bytes_back w src dst e ⟨b, off, none⟩ cap l hs he hd ?_
    intro j hj
    have := hc j (.int .u8 (l[j].toNat : Int)) (by simp [bcells, List.getElem?_eq_getElem hj])
    have hadd : (⟨b, off, none⟩ : Addr).add j = ⟨b, off + j, none⟩ := by unfold Addr.add; split <;> simp_all
    rw [hadd]
    exact this

/-! ### Strings in memory -/
def scells (l : List Bs) : List Value := l.map fun t => .string (mk t)
@[simp] theorem length_scells (l : List Bs) : (scells l).length = l.length := by simp [scells]
theorem scells_append (a b : List Bs) : scells (a ++ b) = scells a ++ scells b := by simp [scells]
/-- A slice of strings. -/
def Strs (w : World) (v : Value) (l : List Bs) : Prop := Row w v 1 l.length (scells l)
theorem Strs.below {w w' : World} {v : Value} {l : List Bs} (h : Strs w v l) (hb : Below w.heap.size w w') : Strs w' v l := Row.below h hb
/-- Its shape and its cells. -/
theorem Strs.open {w : World} {v : Value} {l : List Bs} (h : Strs w v l) : ∃ a cap, v = .slice a l.length cap ∧ l.length ≤ cap ∧ cap ≤ maxLen ∧
    ∀ (hn : 0 < l.length), ∃ b off, a = some ⟨b, off, none⟩ ∧ b < w.heap.size ∧ ∀ j (hj : j < l.length), w.cell? ⟨b, off + j, none⟩ = some (.string (mk l[j])) := by
  obtain ⟨hl, a, cap, rfl, hn, hm, h⟩ := h
  refine ⟨a, cap, rfl, hn, hm, fun h0 => ?_⟩
  rcases h with h | ⟨b, off, ha, hlt, hc⟩
  · omega
  · exact ⟨b, off, ha, hlt, fun j hj => hc j _ (by simp [scells, List.getElem?_eq_getElem hj])⟩
/-- The length in a slot that holds a string: for a loop's measure. -/
def strLen : Value → Nat | .string s => s.size | _ => 0
theorem strs_lit (w : World) (l : List ByteArray) (T : TypeId) (h : l.length ≤ maxLen) : Strs (w.alloc (.cells (l.map Value.string).toArray T)) (.slice (some ⟨w.heap.size, 0, none⟩) l.length l.length) (l.map un) := by
  refine ⟨by simp, some ⟨w.heap.size, 0, none⟩, l.length, by simp, by simp, h, .inr ⟨w.heap.size, 0, rfl, by simp, fun j u hj => ?_⟩⟩
  rw [Nat.zero_add, World.cell?_alloc_mark]
  simpa [scells, Function.comp_def] using hj

end Hs
