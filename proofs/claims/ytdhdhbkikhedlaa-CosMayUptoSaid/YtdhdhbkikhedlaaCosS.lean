/-
  Objects: the reference's Same.
-/
import Derived.Test.YtdhdhbkikhedlaaCosA
import Derived.Test.YtdhdhbkikhedlaaObjT
import Derived.Test.YtdhdhbkikhedlaaSame
set_option linter.unusedSimpArgs false
set_option linter.unusedVariables false
set_option maxRecDepth 100000
namespace Go.Proofs.Ytdhdhbkikhedlaa
open Go.Cl
end Go.Proofs.Ytdhdhbkikhedlaa
