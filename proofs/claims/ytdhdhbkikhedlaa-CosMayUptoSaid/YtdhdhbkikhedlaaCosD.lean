/-
  Objects: bytes.Equal, slices.EqualFunc.
-/
import Derived.Test.YtdhdhbkikhedlaaCosC
set_option linter.unusedSimpArgs false
set_option linter.unusedVariables false
set_option maxRecDepth 100000
namespace Go.Proofs.Ytdhdhbkikhedlaa
open Go.Cl
end Go.Proofs.Ytdhdhbkikhedlaa
