/-
  Numbers as bytes, the highest first.
-/
import Derived.Test.YtnclklboogdoiaaNum
import Derived.Test.YtnclklboogdoiaaRul
namespace Go.Cl
end Go.Cl
