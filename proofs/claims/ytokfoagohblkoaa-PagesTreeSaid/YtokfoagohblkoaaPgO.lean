import Derived.Test.YtokfoagohblkoaaPgM
import Derived.Test.YtokfoagohblkoaaDocJ
set_option linter.unusedSimpArgs false
set_option linter.unusedVariables false
set_option maxRecDepth 100000
namespace Go.Proofs.Ytokfoagohblkoaa
open Go.Cl Go.Lib
end Go.Proofs.Ytokfoagohblkoaa
set_option linter.unusedSimpArgs false
set_option linter.unusedVariables false
set_option maxRecDepth 100000
namespace Go.Proofs.Ytokfoagohblkoaa
open Go.Cl Go.Lib
end Go.Proofs.Ytokfoagohblkoaa
