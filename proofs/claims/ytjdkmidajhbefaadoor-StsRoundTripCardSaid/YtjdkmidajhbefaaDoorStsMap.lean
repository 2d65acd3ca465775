/- A map from names to directives in memory. Conditions: none. -/
import Derived.Test.YtjdkmidajhbefaaDoorDirV
import Derived.Test.YtjdkmidajhbefaaDoorPlainSts
import Derived.Maps.OwnSet
import Derived.WalkKit
namespace Go.Proofs.YtjdkmidajhbefaaDoor
open Go.RowKit Go.Maps Hs
set_option linter.unusedSimpArgs false
set_option linter.unusedVariables false

/-- A directive as a datum. -/
def dd (d : Dir) : DataW Unit := .agg [.lit (.string d.1), .lit (.string d.2.1), .lit (.bool d.2.2)]
/-- How an element reads. -/
def dirElem (v : Value) : Option (DataW Unit × List MemPlace) := match v with
  | .agg cs => (match cs.toList with
    | [.string a, .string b, .bool h] => some (.agg [.lit (.string a.data.toList), .lit (.string b.data.toList), .lit (.bool h)], [])
    | _ => none)
  | _ => none
theorem dirElem_mk (d : Dir) : dirElem (.agg #[.string (mk d.1), .string (mk d.2.1), .bool d.2.2]) = some (dd d, []) := by
  have e1 : (mk d.1).data.toList = d.1 := un_mk d.1
  have e2 : (mk d.2.1).data.toList = d.2.1 := un_mk d.2.1
  simp [dirElem, dd, e1, e2]
theorem dirElem_inv {v : Value} {d : Dir} {ps : List MemPlace} (h : dirElem v = some (dd d, ps)) : v = .agg #[.string (mk d.1), .string (mk d.2.1), .bool d.2.2] := by
  unfold dirElem at h
  split at h
  · rename_i cs
    split at h
    · rename_i a b c hcs
      simp only [dd, Option.some.injEq, Prod.mk.injEq, DataW.agg.injEq, List.cons.injEq, DataW.lit.injEq, Lit.string.injEq, Lit.bool.injEq, and_true] at h
      obtain ⟨⟨h1, h2, h3⟩, _⟩ := h
      have e1 : a = mk d.1 := by rw [← h1]; exact (mk_un a).symm
      have e2 : b = mk d.2.1 := by rw [← h2]; exact (mk_un b).symm
      have e3 : cs = #[.string a, .string b, .bool c] := by cases cs; simp at hcs; rw [hcs]
      rw [e3, e1, e2, h3]
    · cases h
  · cases h
/-- What the map reads as behind the directives l. -/
def mapD : List Dir → DataW Unit := fun l => l.foldl (fun D d => D.put (.string d.1) (dd d)) (.map [])
theorem mapD_snoc (l : List Dir) (d : Dir) : mapD (l ++ [d]) = (mapD l).put (.string d.1) (dd d) := by simp [mapD, List.foldl_append]
theorem key_lit (n : Bs) : WideAt.IsKeyLit (.string n) := by trivial
theorem mapD_tidy (l : List Dir) : Tidy (mapD l) := by
  have : ∀ (l : List Dir) (D : DataW Unit), Tidy D → Tidy (l.foldl (fun D d => D.put (.string d.1) (dd d)) D) := by
    intro l
    induction l with
    | nil => intro D h; exact h
    | cons d l ih => intro D h; exact ih _ (h.put (key_lit _) _)
  exact this l _ tidy_empty
theorem mapD_rev (n : Bs) : ∀ l : List Dir, (namesD l.reverse).Nodup → has (mapD l.reverse) (.string n) = (findD l.reverse n).isSome ∧ (mapD l.reverse).atKey (.string n) (dd ([], [], false)) = dd (dirOf (findD l.reverse n))
  | [], _ => ⟨rfl, rfl⟩
  | d :: l, hn => by
    rw [List.reverse_cons] at hn ⊢
    have ih0 := mapD_rev n l
    generalize l.reverse = l at *
    have hn' : (namesD l).Nodup ∧ d.1 ∉ namesD l := by
      unfold namesD at hn ⊢
      rw [List.map_append, List.nodup_append] at hn
      refine ⟨hn.1, fun h => ?_⟩
      exact hn.2.2 _ h _ (by simp) rfl
    have ih := ih0 hn'.1
    rw [mapD_snoc, findD_snoc]
    by_cases hd : d.1 = n
    · subst hd
      have hf : (findD l d.1).isSome = false := (findD_none l d.1).2 hn'.2
      rw [has_put_same (mapD_tidy l).isMap (key_lit _), atKey_put_same (mapD_tidy l).isMap (key_lit _), hf]
      simp [dirOf]
    · have hne : (Lit.string n) ≠ (Lit.string d.1) := fun e => by
        simp only [Lit.string.injEq] at e
        exact hd e.symm
      rw [has_put_other hne, atKey_put_other hne, ih.1, ih.2]
      cases hf : findD l n with
      | some x => simp
      | none => simp [hd, dirOf]
theorem mapD_find (l : List Dir) (n : Bs) (h : (namesD l).Nodup) : has (mapD l) (.string n) = (findD l n).isSome ∧ (mapD l).atKey (.string n) (dd ([], [], false)) = dd (dirOf (findD l n)) := by
  have := mapD_rev n l.reverse
  rw [List.reverse_reverse] at this
  exact this h

theorem law_key : Keyed Tryd.prog 9 := string_keyed Tryd.underlying9
theorem zero_dir (w : World) : (zeroValue 37).run Tryd.prog w = .ok (.agg #[.string ⟨#[]⟩, .string ⟨#[]⟩, .bool false]) w := by kernel_rfl
/-- 'd, ok := m[name]' where what comes back is known. -/
theorem wpList_lookup_dir {w : World} {ops : Array Oper} {rest : List Oper} {o : Oper} {a : Act} {Q : Exit → Act → World → Prop} (hg : o.guard = none) (m x : Operand) (hop : o.op = Op.lookup 35 m x true)
    (b n : Nat) (l : List Dir) (hm : a.eval m = .map (some b)) (hown : w.ownsMap Tryd.prog 9 dirElem b n (mapD l)) (hn : (namesD l).Nodup) (s : ByteArray) (hx : a.eval x = .string s) (hs : s.size ≤ maxLen) (d0 : Dir) (ok : Bool) (hd : dirOf (findD l (un s)) = d0) (hok : (findD l (un s)).isSome = ok)
    (hK : wpList Tryd.prog ops Q rest (a.put o.dst (.tuple #[.agg #[.string (mk d0.1), .string (mk d0.2.1), .bool d0.2.2], .bool ok])) w) : wpList Tryd.prog ops Q (o :: rest) a w := by
  have hf := mapD_find l (un s) hn
  refine wpList_lookup_own_ok w hg m x _ hop 9 37 law_key Tryd.underlying35 dirElem (zero_dir w) (dd ([], [], false)) [] (dirElem_mk ([], [], false)) b n (mapD l) hm hown (.string s) (.string (un s)) hx (WideMaps.keyOf_string_mk Tryd.underlying9 hs) (fun v ps hv => ?_)
  rw [hf.2, hd] at hv
  rw [dirElem_inv hv, hf.1, hok]
  exact hK
end Go.Proofs.YtjdkmidajhbefaaDoor
