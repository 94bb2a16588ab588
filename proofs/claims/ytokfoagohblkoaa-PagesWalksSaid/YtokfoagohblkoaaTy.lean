import Derived.Test.YtokfoagohblkoaaProg
import Derived.Test.YtokfoagohblkoaaLooseB
import Derived.KernelRfl
set_option linter.unusedSimpArgs false
set_option linter.unusedVariables false
set_option maxRecDepth 100000
namespace Go.Proofs.Ytokfoagohblkoaa
open Go.Cl
theorem szU8 : zB Try.prog 5 = some 1 := by kernel_rfl
theorem byU8 : xV Try.prog 5 = some 1 := by kernel_rfl
theorem agU8 : yc Try.prog 5 = some false := by kernel_rfl
theorem zU8 : yj Try.prog 5 = some (.int .u8 0) := by kernel_rfl
theorem yP : zB Try.prog 3 = some 1 := by kernel_rfl
theorem zT : yc Try.prog 3 = some false := by kernel_rfl
theorem szSl : zB Try.prog 27 = some 1 := by kernel_rfl
theorem agSl : yc Try.prog 27 = some false := by kernel_rfl
end Go.Proofs.Ytokfoagohblkoaa