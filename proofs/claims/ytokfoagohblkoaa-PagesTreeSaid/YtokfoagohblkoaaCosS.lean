import Derived.Test.YtokfoagohblkoaaCosA
import Derived.Test.YtokfoagohblkoaaObjU
import Derived.Test.YtokfoagohblkoaaSame
set_option linter.unusedSimpArgs false
set_option linter.unusedVariables false
set_option maxRecDepth 100000
namespace Go.Proofs.Ytokfoagohblkoaa
open Go.Cl
end Go.Proofs.Ytokfoagohblkoaa
