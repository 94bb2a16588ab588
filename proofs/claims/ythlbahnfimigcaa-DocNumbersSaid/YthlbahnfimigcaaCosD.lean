/-
  Objects: bytes.Equal, slices.EqualFunc.
-/
import Derived.Test.YthlbahnfimigcaaCosC
set_option linter.unusedSimpArgs false
set_option linter.unusedVariables false
namespace Go.Proofs.Ythlbahnfimigcaa
open Go.Cl
end Go.Proofs.Ythlbahnfimigcaa
