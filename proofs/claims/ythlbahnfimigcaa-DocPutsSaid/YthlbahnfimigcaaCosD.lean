import Derived.Test.YthlbahnfimigcaaCosC
set_option linter.unusedSimpArgs false
set_option linter.unusedVariables false
set_option maxRecDepth 100000
namespace Go.Proofs.Ythlbahnfimigcaa
open Go.Cl
end Go.Proofs.Ythlbahnfimigcaa