import Derived.Test.YtokfoagohblkoaaTy
import Derived.Test.YtokfoagohblkoaaLooseB
set_option linter.unusedSimpArgs false
set_option linter.unusedVariables false
set_option maxRecDepth 100000
namespace Go.Proofs.Ytokfoagohblkoaa
open Go.Cl
structure NewBytes (s : ASt) (v : Value) (s' : ASt) (l : List UInt8) : Prop where
  own : Own s' 1 v l.length (ofBytes l)
  fresh : Fresh s.next v
  stay : Stay s.next s s'
theorem take_snoc {l : List UInt8} {i : Nat} (h : i < l.length) : l.take (i + 1) = l.take i ++ [l.getD i 0] := by
  rw [List.take_succ_eq_append_getElem h]; simp [List.getD, List.getElem?_eq_getElem h]
end Go.Proofs.Ytokfoagohblkoaa
