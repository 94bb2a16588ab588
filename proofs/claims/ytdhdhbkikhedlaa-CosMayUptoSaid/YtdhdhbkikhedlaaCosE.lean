/-
  Objects: Same.
-/
import Derived.Test.YtdhdhbkikhedlaaCosD
import Derived.Test.YtdhdhbkikhedlaaCosS
set_option linter.unusedSimpArgs false
set_option linter.unusedVariables false
set_option maxRecDepth 100000
namespace Go.Proofs.Ytdhdhbkikhedlaa
open Go.Cl
theorem entOk {F : Nat → Prop} {s : ASt} {cs : List Value} {e : List UInt8 × O} (h : EntIs F s cs e) : cs.all okCell = true := by
  obtain ⟨r, e, h, _⟩ := h
  rw [e, List.all_cons, h.ok]; rfl
end Go.Proofs.Ytdhdhbkikhedlaa
