/-
  Objects of this program: an argument that is one; its fields.
-/
import Derived.Test.YtokfoagohblkoaaTy
import Derived.Test.YtokfoagohblkoaaObjA
set_option linter.unusedSimpArgs false
set_option linter.unusedVariables false
set_option maxRecDepth 100000
namespace Go.Cl
theorem chunk6 {lc r : List Value} {i : Nat} {a : Value} (h : (lc.drop (i * 6)).take 6 = a :: r) : lc.getD (i * 6) undef = a ∧ (lc.drop (i * 6 + 1)).take 5 = r := by
  constructor
  · have h0 : ((lc.drop (i * 6)).take 6)[0]? = some a := by rw [h]; rfl
    rw [List.getElem?_take_of_lt (by omega), List.getElem?_drop, Nat.add_zero] at h0
    rw [List.getD_eq_getElem?_getD, h0]; rfl
  · have h1 : ((lc.drop (i * 6)).take 6).drop 1 = r := by rw [h]; rfl
    rw [List.drop_take, List.drop_drop] at h1
    exact h1
end Go.Cl
namespace Go.Proofs.Ytokfoagohblkoaa
open Go.Cl
variable {H : Type} {enc : TypeId × Value → H} {W : World}
end Go.Proofs.Ytokfoagohblkoaa
