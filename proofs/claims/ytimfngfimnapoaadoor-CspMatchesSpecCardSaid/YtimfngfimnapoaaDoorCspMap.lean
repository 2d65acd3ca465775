/- A map from names to true in memory: the names that have been seen. Conditions: none. -/
import Derived.Test.YtimfngfimnapoaaDoorPlainCsp
import Derived.Test.YtimfngfimnapoaaDoorKit
import Derived.Test.YtimfngfimnapoaaDoorShelf
import Derived.Maps.OwnSet
import Derived.Maps.OwnIn
import Derived.WalkKit
namespace Go.Proofs.YtimfngfimnapoaaDoor
open Go.RowKit Go.Maps Hs
set_option linter.unusedSimpArgs false
set_option linter.unusedVariables false

/-- How an element reads. -/
def boolElem (v : Value) : Option (DataW Unit × List MemPlace) := match v with
  | .bool b => some (.lit (.bool b), [])
  | _ => none
theorem boolElem_inv {v : Value} {b : Bool} {ps : List MemPlace} (h : boolElem v = some (.lit (.bool b), ps)) : v = .bool b := by
  unfold boolElem at h
  split at h
  · simp only [Option.some.injEq, Prod.mk.injEq, DataW.lit.injEq, Lit.bool.injEq] at h
    rw [h.1]
  · cases h
/-- What the map reads as behind the names l. -/
def mapN : List Bs → DataW Unit := fun l => l.foldl (fun D n => D.put (.string n) (.lit (.bool true))) (.map [])
theorem mapN_snoc (l : List Bs) (n : Bs) : mapN (l ++ [n]) = (mapN l).put (.string n) (.lit (.bool true)) := by simp [mapN, List.foldl_append]
theorem key_lit (n : Bs) : WideAt.IsKeyLit (.string n) := by trivial
theorem mapN_tidy (l : List Bs) : Tidy (mapN l) := by
  have : ∀ (l : List Bs) (D : DataW Unit), Tidy D → Tidy (l.foldl (fun D n => D.put (.string n) (.lit (.bool true))) D) := by
    intro l
    induction l with
    | nil => intro D h; exact h
    | cons d l ih => intro D h; exact ih _ (h.put (key_lit _) _)
  exact this l _ tidy_empty
theorem mapN_rev (n : Bs) : ∀ l : List Bs, (mapN l.reverse).atKey (.string n) (.lit (.bool false)) = .lit (.bool (decide (n ∈ l)))
  | [] => rfl
  | d :: l => by
    rw [List.reverse_cons, mapN_snoc]
    have ih := mapN_rev n l
    by_cases hd : d = n
    · subst hd
      rw [atKey_put_same (mapN_tidy _).isMap (key_lit _)]
      simp
    · have hne : (Lit.string n) ≠ (Lit.string d) := fun e => by
        simp only [Lit.string.injEq] at e
        exact hd e.symm
      rw [atKey_put_other hne, ih]
      have e : (n ∈ d :: l) = (n ∈ l) := by simp only [List.mem_cons, eq_iff_iff]; exact ⟨fun h => h.elim (fun e => absurd e.symm hd) id, .inr⟩
      simp only [e]
theorem mapN_at (l : List Bs) (n : Bs) : (mapN l).atKey (.string n) (.lit (.bool false)) = .lit (.bool (decide (n ∈ l))) := by
  have := mapN_rev n l.reverse
  rw [List.reverse_reverse] at this
  rw [this]
  simp
theorem str_key : Keyed Tryd.prog 9 := string_keyed Tryd.underlying9
theorem zero_bool (w : World) : (zeroValue 4).run Tryd.prog w = .ok (.bool false) w := by kernel_rfl
/-- 'm[name]' where what comes back is known. -/
theorem wpListIn_lookup_seen {F : Fence} {nF : Nat} {w : World} {ops : Array Oper} {rest : List Oper} {o : Oper} {a : Act} {Q : Exit → Act → World → Prop} (hg : o.guard = none) (m x : Operand) (hop : o.op = Op.lookup 38 m x false)
    (b n : Nat) (l : List Bs) (hm : a.eval m = .map (some b)) (hown : w.ownsMap Tryd.prog 9 boolElem b n (mapN l)) (s : Bs) (hx : a.eval x = .string (mk s)) (hs : s.length ≤ maxLen) (ok : Bool) (hok : decide (s ∈ l) = ok)
    (hK : wpListIn F nF Tryd.prog ops Q rest (a.put o.dst (.bool ok)) w) : wpListIn F nF Tryd.prog ops Q (o :: rest) a w := by
  have hkey : keyOf Tryd.prog 9 (.string (mk s)) = some (.string s) := by rw [WideMaps.keyOf_string_mk Tryd.underlying9 (by rw [size_mk]; exact hs)]; exact congrArg some (congrArg Lit.string (un_mk s))
  refine wpListIn_plain hg fun K' hK' => ?_
  obtain ⟨v, ps, hrun, hv⟩ := hown.lookup str_key Tryd.underlying38 (zero_bool w) (zd := .lit (.bool false)) (zp := []) rfl hkey
  rw [mapN_at, hok] at hv
  obtain rfl := boolElem_inv hv
  unfold Oper.wpIn
  refine ⟨by simp [Oper.about, hop], ?_⟩
  rw [Oper.semAt_plain F _ _ (by rw [hop]; intro c hc'; cases hc')]
  simp [execOp, hop, hm, hx, hrun, Result.andThen]
  exact hK' _ _ hK
theorem wpListIn_seen {F : Fence} {nF : Nat} (w : World) {ops : Array Oper} {rest : List Oper} {o : Oper} {a : Act} {Q : Exit → Act → World → Prop} (hg : o.guard = none) (m x v : Operand) (hop : o.op = Op.mapUpdate 38 m x v)
    (b n : Nat) (l : List Bs) (hm : a.eval m = .map (some b)) (hown : w.ownsMap Tryd.prog 9 boolElem b n (mapN l)) (hn : n < maxLen) (s : Bs) (hx : a.eval x = .string (mk s)) (hv : a.eval v = .bool true) (hs : s.length ≤ maxLen)
    (hK : ∀ w', w'.ownsMap Tryd.prog 9 boolElem b (n + 1) (mapN (l ++ [s])) → w.grownBy w' (some b) → wpListIn F nF Tryd.prog ops Q rest (a.put o.dst undef) w') : wpListIn F nF Tryd.prog ops Q (o :: rest) a w := by
  have hkey : keyOf Tryd.prog 9 (.string (mk s)) = some (.string s) := by rw [WideMaps.keyOf_string_mk Tryd.underlying9 (by rw [size_mk]; exact hs)]; exact congrArg some (congrArg Lit.string (un_mk s))
  exact wpListIn_mapUpdate_own w hg m x v 38 hop 9 4 str_key Tryd.underlying38 boolElem b n (mapN l) hm hown hn _ _ (.string s) hx hv hkey (.lit (.bool true)) [] rfl (fun w' h1 h2 => hK w' (by rw [mapN_snoc]; exact h1) h2)
end Go.Proofs.YtimfngfimnapoaaDoor
