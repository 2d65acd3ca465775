/- The walks of the layer ipv4 (program and reference): digits, numbers. Conditions: strings are of bounded length. -/
import Derived.Test.YtblcgicgbindlaaDoorAsciiWords
import Derived.Test.YtblcgicgbindlaaDoorPlainIpv4
import Derived.Test.YtblcgicgbindlaaDoorShelf
namespace Go.Proofs.YtblcgicgbindlaaDoor
open Go.RowKit Hs
set_option linter.unusedSimpArgs false
set_option linter.unusedVariables false

theorem i4_hex (s : ByteArray) (w : World) (hs : s.size ≤ 100000000) : Calls Tryd.prog 38 #[.string s] w fun e w' => e = .returned (.bool (hexP (un s))) ∧ w = w' := by
  have e : hexP (un s) = (Lib.hasPrefix s.data.toList [48, 120] || Lib.hasPrefix s.data.toList [48, 88]) := by
    show hexP (un s) = (Lib.hasPrefix (un s) [48, 120] || Lib.hasPrefix (un s) [48, 88])
    match un s with
    | [] => rfl
    | [a] => simp [hexP, Lib.hasPrefix, List.isPrefixOf]
    | a :: b :: r =>
      rw [Bool.eq_iff_iff]
      simp [hexP, Lib.hasPrefix]
      constructor
      · rintro ⟨rfl, rfl | rfl⟩ <;> simp
      · rintro (⟨rfl, rfl⟩ | ⟨rfl, rfl⟩) <;> simp
  rw [e]
  have c1 := fun w => Tryd.strings_HasPrefix s ({ data := #[48, 120] } : ByteArray) w
  have c2 := fun w => Tryd.strings_HasPrefix s ({ data := #[48, 88] } : ByteArray) w
  simp only [List.toList_toArray] at c1 c2
  generalize Lib.hasPrefix s.data.toList [48, 120] = p at c1 ⊢
  generalize Lib.hasPrefix s.data.toList [48, 88] = q at c2 ⊢
  have C1 := Lib.hid c1; have C2 := Lib.hid c2
  clear c1 c2 e
  cases p
  · go_enter Tryd.func38, Tryd.ntmps38
    go_wp2_with fail
    refine (C1.out _).mono ?_; rintro e w1 ⟨rfl, rfl⟩
    go_wp2_with fail
    refine (C2.out _).mono ?_; rintro e w1 ⟨rfl, rfl⟩
    go_wp2_with fail
    go_ret
    exact ⟨rfl, rfl⟩
  · go_enter Tryd.func38, Tryd.ntmps38
    go_wp2_with fail
    refine (C1.out _).mono ?_; rintro e w1 ⟨rfl, rfl⟩
    go_wp2_with fail
    go_ret
    exact ⟨rfl, rfl⟩
end Go.Proofs.YtblcgicgbindlaaDoor
