/-
  Deflate by the fixed codes: the reference's groups and block.
-/
import Derived.Test.YtnclklboogdoiaaFixZ
set_option linter.unusedSimpArgs false
set_option linter.unusedVariables false
set_option maxRecDepth 100000
namespace Go.Cl.Fx
open Go.Cl.Rw Go.Cl.Sto
theorem shlS (P : Program) (t : TypeId) (k' : IntKind) {x k : Nat} (hk : k ≤ 16) (hx : x * 2 ^ k ≤ 1000000) : binA P .shl t (.int .i64 ((x : Nat) : Int)) (.int k' (k : Nat)) = some (.int .i64 ((x * 2 ^ k : Nat) : Int)) := by
  rw [bin_shl P t .i64 _ _ k' (by omega)]
  have e : min ((k : Nat) : Int).toNat IntKind.i64.bits = k := by
    have : IntKind.i64.bits = 64 := rfl
    rw [this, Int.toNat_natCast]; omega
  have e2 : ((x : Nat) : Int) * (2 : Int) ^ k = ((x * 2 ^ k : Nat) : Int) := by norm_cast
  rw [e, e2, wrapI (by omega)]
theorem pow_le5 {k m : Nat} (h : k ≤ m) : 2 ^ k ≤ 2 ^ m := Nat.pow_le_pow_right (by omega) h
end Go.Cl.Fx
namespace Go.Proofs.Ytnclklboogdoiaa
open Go.Cl Go.Cl.Rw Go.Cl.Sto Go.Cl.Fx
end Go.Proofs.Ytnclklboogdoiaa
