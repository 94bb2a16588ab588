import Derived.Test.YtokfoagohblkoaaDocI
import Derived.Test.YtokfoagohblkoaaBuild
set_option linter.unusedSimpArgs false
set_option linter.unusedVariables false
set_option maxRecDepth 100000
namespace Go.Proofs.Ytokfoagohblkoaa
open Go.Cl Go.Lib
theorem bItem (n : Int) {cs : List Value} (hl : cs.length = 5) : buildA Try.prog 66 [(0, .int .i64 n), (1, .agg cs.toArray)] = some (.agg (.int .i64 n :: cs).toArray) := by
  obtain ⟨a, b, c, d, e, rfl⟩ := five hl
  kernel_rfl
def noneD : List Value := docC ⟨0, [], 0, O.none, []⟩ (.slice none 0 0) noneC (.slice none 0 0)
theorem zD : zeroB Try.prog 34 = some (.agg noneD.toArray) := by kernel_rfl
theorem plD : plainV (.agg noneD.toArray) = true := by kernel_rfl
end Go.Proofs.Ytokfoagohblkoaa
