/-
  The clean machine, part 27: texts.
-/
import Derived.Test.YtokfoagohblkoaaRul
namespace Go.Cl
section
variable {P : Program} {t : TypeId}
end
end Go.Cl
