/-
  Functions that the model stands in for, as far as this seat's program names them: the clean machine's stand-ins, in a list; a law's call by them.
-/
import Derived.Test.YtnclklboogdoiaaProg
import Derived.Test.YtnclklboogdoiaaPrim
import Derived.Test.YtnclklboogdoiaaStart
import Derived.KernelRfl
set_option linter.unusedSimpArgs false
set_option linter.unusedVariables false
set_option maxRecDepth 100000
namespace Go.Cl
open Go.RowKit Go.ChangeShapes Go.WideShapes
variable {P : Program}
end Go.Cl
namespace Go.Proofs.Ytnclklboogdoiaa
open Go.Cl
end Go.Proofs.Ytnclklboogdoiaa
