/-
 The clean machine, part 18: functions that the model stands in for: what the machine does there. Definitions alone.
-/
import Derived.Test.YthlbahnfimigcaaMcA
import Derived.Laws.Externs
import GoSem.Extern.BytealgCompare
namespace Go.Cl
end Go.Cl