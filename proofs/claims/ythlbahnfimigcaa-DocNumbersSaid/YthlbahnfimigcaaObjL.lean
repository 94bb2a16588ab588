/-
  Objects: a law's arguments.
-/
import Derived.Test.YthlbahnfimigcaaCosK
set_option linter.unusedSimpArgs false
set_option linter.unusedVariables false
namespace Go.Cl
open Go.RowKit Go.ChangeShapes Go.WideShapes
theorem VR.aggL {S : St} {cs ds : List Value} {d : Array Value} (h : VRL S cs ds) (hd : d.toList = ds) : VR S (.agg cs.toArray) (.agg d) := by
  subst hd
  exact .agg _ _ h.1 h.2
end Go.Cl
namespace Go.Proofs.Ythlbahnfimigcaa
open Go.Cl Go.Lib Go.RowKit Go.ChangeShapes Go.WideShapes
variable {H : Type} {enc : TypeId × Value → H} {W : World}
end Go.Proofs.Ythlbahnfimigcaa
