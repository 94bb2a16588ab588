/-
  Copy.
-/
import Derived.Test.YtnclklboogdoiaaSame
set_option linter.unusedSimpArgs false
set_option linter.unusedVariables false
namespace Go.Proofs.Ytnclklboogdoiaa
open Go.Cl
end Go.Proofs.Ytnclklboogdoiaa
