import Derived.Test.YthlbahnfimigcaaProg
import Derived.Test.YthlbahnfimigcaaDraw
import Derived.Test.YthlbahnfimigcaaRul
import Derived.KernelRfl
set_option linter.unusedSimpArgs false
set_option linter.unusedVariables false
set_option maxRecDepth 100000
namespace Go.Proofs.Ythlbahnfimigcaa
open Go.Cl
theorem szU8 : sizeB Try.prog 5 = some 1 := by kernel_rfl
theorem byU8 : bytesB Try.prog 5 = some 1 := by kernel_rfl
theorem agU8 : isAggB Try.prog 5 = some false := by kernel_rfl
theorem zU8 : zeroB Try.prog 5 = some (.int .u8 0) := by kernel_rfl
theorem szInt : sizeB Try.prog 3 = some 1 := by kernel_rfl
theorem byInt : bytesB Try.prog 3 = some 8 := by kernel_rfl
theorem agInt : isAggB Try.prog 3 = some false := by kernel_rfl
theorem zInt : zeroB Try.prog 3 = some (.int .i64 0) := by kernel_rfl
theorem szSl : sizeB Try.prog 22 = some 1 := by kernel_rfl
theorem agSl : isAggB Try.prog 22 = some false := by kernel_rfl
end Go.Proofs.Ythlbahnfimigcaa