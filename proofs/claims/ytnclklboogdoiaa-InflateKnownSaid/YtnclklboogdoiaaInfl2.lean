/-
  Blocks of bytes as they are, read by the reference, all.
-/
import Derived.Test.YtnclklboogdoiaaInfl
set_option linter.unusedSimpArgs false
set_option linter.unusedVariables false
set_option maxRecDepth 100000
namespace Go.Proofs.Ytnclklboogdoiaa
open Go.Cl Go.Cl.Sto Go.Cl.Rw
end Go.Proofs.Ytnclklboogdoiaa
