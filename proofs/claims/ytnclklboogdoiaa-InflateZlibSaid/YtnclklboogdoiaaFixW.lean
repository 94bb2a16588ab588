/-
  Deflate by the fixed codes: the program.
-/
import Derived.Test.YtnclklboogdoiaaRow
import Derived.Test.YtnclklboogdoiaaFixP
import Derived.Test.YtnclklboogdoiaaLooseB
set_option linter.unusedSimpArgs false
set_option linter.unusedVariables false
set_option maxRecDepth 100000
namespace Go.Cl.Fx
open Go.Cl.Rw Go.Cl.Sto
theorem fdivN (n k : Nat) : (n : Int).fdiv (2 ^ k) = ((n / 2 ^ k : Nat) : Int) := by
  rw [Int.fdiv_eq_ediv_of_nonneg _ (by exact Int.pow_nonneg (by omega))]
  norm_cast
theorem shrI (P : Program) (t : TypeId) (k' : IntKind) (n : Nat) {k : Nat} (h : k < 64) : binA P .shr t (.int .i64 (n : Int)) (.int k' (k : Nat)) = some (.int .i64 ((n / 2 ^ k : Nat) : Int)) := by
  rw [shrN P t k' (n : Int) h, fdivN]
end Go.Cl.Fx
namespace Go.Proofs.Ytnclklboogdoiaa
open Go.Cl Go.Cl.Rw Go.Cl.Sto Go.Cl.Fx
theorem ext0F (a b c : Value) : extractA (.tuple #[a, b, c]) 0 = some a := rfl
theorem ext1F (a b c : Value) : extractA (.tuple #[a, b, c]) 1 = some b := rfl
theorem ext2F (a b c : Value) : extractA (.tuple #[a, b, c]) 2 = some c := rfl
end Go.Proofs.Ytnclklboogdoiaa
