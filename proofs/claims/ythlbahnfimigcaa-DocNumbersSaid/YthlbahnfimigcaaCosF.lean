/-
  Objects: keys compared, slices.IndexFunc, Clone, DeleteFunc of entries.
-/
import Derived.Test.YthlbahnfimigcaaCosE
import Derived.Test.YthlbahnfimigcaaObjT
import Derived.Test.YthlbahnfimigcaaClearW
set_option linter.unusedSimpArgs false
set_option linter.unusedVariables false
namespace Go.Cl
end Go.Cl
namespace Go.Proofs.Ythlbahnfimigcaa
open Go.Cl Go.Lib
end Go.Proofs.Ythlbahnfimigcaa
namespace Go.Cl
end Go.Cl
namespace Go.Proofs.Ythlbahnfimigcaa
open Go.Cl
end Go.Proofs.Ythlbahnfimigcaa
namespace Go.Cl
theorem Turns.trans {v : Value} {s s' s'' : ASt} (h : Turns v s s') (k : Turns v s' s'') : Turns v s s'' :=
  ⟨Nat.le_trans h.next k.next, fun i hi hne => (k.get i (Nat.lt_of_lt_of_le hi h.next) hne).trans (h.get i hi hne)⟩
end Go.Cl
namespace Go.Proofs.Ythlbahnfimigcaa
open Go.Cl
end Go.Proofs.Ythlbahnfimigcaa
