/-
  Blocks of bytes as they are, read by the reference, all.
-/
import Derived.Test.YtnclklboogdoiaaInfl
set_option linter.unusedSimpArgs false
set_option linter.unusedVariables false
set_option maxRecDepth 100000
namespace Go.Proofs.Ytnclklboogdoiaa
open Go.Cl Go.Cl.Sto Go.Cl.Rw
theorem bBits {v : Value} (hv : v.cells.toList = [v]) : buildA Try.prog 60 [(0, v)] = some (.agg #[v, .int .i64 0, .int .i64 0]) := by
  unfold buildA; rw [Try.underlying60]
  have hz : zeroB Try.prog 60 = some (.agg #[.slice none 0 0, .int .i64 0, .int .i64 0]) := by kernel_rfl
  rw [hz]
  simp only [fillA, placeOf, hv]
  simp [szSl, szInt, plainV, plain1, cells_agg, setAt]
theorem bFlow (j : Nat) (m : Int) : buildA Try.prog 62 [(0, bptr j), (2, .int .i64 m)] = some (.agg #[bptr j, .slice none 0 0, .int .i64 m]) := by
  unfold buildA; rw [Try.underlying62]
  have hz : zeroB Try.prog 62 = some (.agg #[.pointer none, .slice none 0 0, .int .i64 0]) := by kernel_rfl
  rw [hz]
  have c1 : (bptr j).cells.toList = [bptr j] := rfl
  have c2 : (Value.int .i64 m).cells.toList = [.int .i64 m] := rfl
  simp only [fillA, placeOf, c1, c2]
  simp [szBitsP, szSl, szInt, plainV, plain1, cells_agg, setAt]
end Go.Proofs.Ytnclklboogdoiaa
