import Derived.Test.YthlbahnfimigcaaCosF
import Derived.Test.YthlbahnfimigcaaObjT
set_option linter.unusedSimpArgs false
set_option linter.unusedVariables false
set_option maxRecDepth 100000
namespace Go.Cl
theorem wif_cutJ {P : Program} {lib : Prims} {cA cB : Code} {f : AFr} {s : ASt} {Q : AX -> AFr -> ASt -> Prop} {b : Bool} (J : AFr -> ASt -> Prop) (h1 : ∀ Q' : AX -> AFr -> ASt -> Prop, (∀ f' s', J f' s' -> Q' .normal f' s') -> wif P lib cA cB f s Q' b) (h2 : ∀ f' s', J f' s' -> Q .normal f' s') : wif P lib cA cB f s Q b := h1 Q h2
end Go.Cl
namespace Go.Proofs.Ythlbahnfimigcaa
open Go.Cl Go.Lib
end Go.Proofs.Ythlbahnfimigcaa