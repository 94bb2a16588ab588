/-
 The clean machine, part 23: more fuel turns no answer; a closed call, evaluated once, answers alike beside whatever lies there.
-/
import Derived.Test.YthlbahnfimigcaaMem
namespace Go.Cl
end Go.Cl