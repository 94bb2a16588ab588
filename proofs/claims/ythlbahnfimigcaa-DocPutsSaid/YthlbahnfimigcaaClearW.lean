/-
 builtin clear, of a slice's end.
-/
import Derived.Test.YthlbahnfimigcaaAgg
namespace Go.Cl
section
variable {P : Program} {lib : Prims} {all r : List Oper} {f : AFr} {s : ASt} {d : Option Tmp} {Q : AFr -> ASt -> Prop}
end
end Go.Cl