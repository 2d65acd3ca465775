/- Plain: examples of the layer sts, reckoned. No program in sight. Conditions: none. -/
import Derived.Test.YtjdkmidajhbefaaDoorPlainSts
import Derived.Test.YtjdkmidajhbefaaDoorPlainDirN
namespace Hs
theorem stsP_of (l : Bs) (R : List Dir × Int) (X : (Int × Bool) × Int) (h : parseD l = R) (hx : stsR R = X) : stsP l = X := by unfold stsP; rw [h, hx]
theorem ex19a : stsP (un ⟨#[109, 97, 120, 45, 97, 103, 101, 61, 34, 51, 49, 53, 51, 54, 48, 48, 48, 34, 59, 32, 73, 110, 99, 108, 117, 100, 101, 83, 117, 98, 68, 111, 109, 97, 105, 110, 115, 59, 32, 112, 114, 101, 108, 111, 97, 100]⟩) = ((31536000, true), 0) :=
  stsP_of _ ([(ageN, [51, 49, 53, 51, 54, 48, 48, 48], true), (subN, [], false), ([112, 114, 101, 108, 111, 97, 100], [], false)], 0) _ (parseD_N _ _ (by decide) (by decide +kernel)) (by decide +kernel)
theorem ex19b : stsP (un ⟨#[105, 110, 99, 108, 117, 100, 101, 83, 117, 98, 68, 111, 109, 97, 105, 110, 115]⟩) = ((0, false), 18) :=
  stsP_of _ ([(subN, [], false)], 0) _ (parseD_N _ _ (by decide) (by decide +kernel)) (by decide +kernel)
theorem ex19c : stsP (un ⟨#[109, 97, 120, 45, 97, 103, 101, 61, 49, 59, 32, 77, 65, 88, 45, 65, 71, 69, 61, 49]⟩) = ((0, false), 17) :=
  stsP_of _ ([(ageN, [49], true), (ageN, [49], true)], 0) _ (parseD_N _ _ (by decide) (by decide +kernel)) (by decide +kernel)
end Hs
