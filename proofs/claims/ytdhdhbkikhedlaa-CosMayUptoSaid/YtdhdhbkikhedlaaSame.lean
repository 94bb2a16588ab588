/-
  Same.
-/
import Derived.Test.YtdhdhbkikhedlaaTy
import Derived.Test.YtdhdhbkikhedlaaRul
set_option linter.unusedSimpArgs false
set_option linter.unusedVariables false
set_option maxRecDepth 100000
namespace Go.Proofs.Ytdhdhbkikhedlaa
open Go.Cl
structure NewBytes (s : ASt) (v : Value) (s' : ASt) (l : List UInt8) : Prop where
  own : Own s' 1 v l.length (ofBytes l)
  fresh : Fresh s.next v
  stay : Stay s.next s s'
end Go.Proofs.Ytdhdhbkikhedlaa
