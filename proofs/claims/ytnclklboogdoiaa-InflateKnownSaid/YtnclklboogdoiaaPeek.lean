/-
  The reference's look at a place.
-/
import Derived.Test.YtnclklboogdoiaaSame
set_option linter.unusedSimpArgs false
set_option linter.unusedVariables false
set_option maxRecDepth 100000
namespace Go.Proofs.Ytnclklboogdoiaa
open Go.Cl
end Go.Proofs.Ytnclklboogdoiaa
