/-
  Deflate by the fixed codes, read by the reference: lengths, distances, a block.
-/
import Derived.Test.YtnclklboogdoiaaFixD
import Derived.Test.YtnclklboogdoiaaFixV
import Derived.Test.YtnclklboogdoiaaLow
set_option linter.unusedSimpArgs false
set_option linter.unusedVariables false
set_option maxRecDepth 100000
namespace Go.Proofs.Ytnclklboogdoiaa
open Go.Cl Go.Cl.Rw Go.Cl.Sto Go.Cl.Fx
end Go.Proofs.Ytnclklboogdoiaa
namespace Go.Cl.Fx
open Go.Cl.Rw Go.Cl.Sto
end Go.Cl.Fx
namespace Go.Proofs.Ytnclklboogdoiaa
open Go.Cl Go.Cl.Rw Go.Cl.Sto Go.Cl.Fx
end Go.Proofs.Ytnclklboogdoiaa
