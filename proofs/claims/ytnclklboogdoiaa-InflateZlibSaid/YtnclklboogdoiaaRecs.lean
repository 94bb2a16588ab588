/-
  The clean machine: a law's argument that is a slice of structs, whose fields are whole numbers or texts.
-/
import Derived.Test.YtnclklboogdoiaaStart
namespace Go.Cl
open Go.RowKit Go.ChangeShapes Go.WideShapes
variable {H : Type} {enc : TypeId × Value → H} {P : Program}
end Go.Cl
