/-
  The clean machine: what stands behind a piece of code is asked once, of what the piece leaves.
-/
import Derived.Test.YtdhdhbkikhedlaaAgg
namespace Go.Cl
end Go.Cl
