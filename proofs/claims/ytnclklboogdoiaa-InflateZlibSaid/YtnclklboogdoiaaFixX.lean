/-
  Deflate by the fixed codes: the program's rows that come again, and its block.
-/
import Derived.Test.YtnclklboogdoiaaFixW
set_option linter.unusedSimpArgs false
set_option linter.unusedVariables false
set_option maxRecDepth 100000
namespace Go.Cl.Fx
open Go.Cl.Rw Go.Cl.Sto
end Go.Cl.Fx
namespace Go.Proofs.Ytnclklboogdoiaa
open Go.Cl Go.Cl.Rw Go.Cl.Sto Go.Cl.Fx
end Go.Proofs.Ytnclklboogdoiaa
