/-
  Bits that are read out of a byte that was begun: the plain law.
-/
import Derived.Test.YtnclklboogdoiaaStoP
namespace Go.Cl.Bt
open Go.Cl.Sto
theorem and1n (x : Nat) (h : x < 9223372036854775808) : IntKind.i64.wrap (((BitVec.ofInt IntKind.i64.bits (x : Int) &&& BitVec.ofInt IntKind.i64.bits 1).toNat : Nat) : Int) = ((x % 2 : Nat) : Int) := by
  have e1 : IntKind.i64.bits = 64 := rfl
  rw [e1]
  have : (BitVec.ofInt 64 (x : Int) &&& BitVec.ofInt 64 1).toNat = x % 2 := by
    rw [BitVec.toNat_and, BitVec.ofInt_natCast, BitVec.toNat_ofNat, Nat.mod_eq_of_lt (by omega)]
    show x &&& 1 = _
    exact Nat.and_one_is_mod _
  rw [this, wrapI (by omega)]
theorem shr1 (P : Program) (t : TypeId) (k' : IntKind) (x : Nat) : binA P .shr t (.int .i64 (x : Int)) (.int k' 1) = some (.int .i64 ((x / 2 : Nat) : Int)) := by
  rw [bin_shr P t .i64 _ 1 k' (by decide)]
  have : ((x : Int)).fdiv (2 ^ (min (1 : Int).toNat IntKind.i64.bits)) = ((x / 2 : Nat) : Int) := by
    show ((x : Int)).fdiv 2 = _
    rw [Int.fdiv_eq_ediv_of_nonneg _ (by omega)]; omega
  rw [this]
def rest (b : List UInt8) (p left : Nat) : Nat := (b.getD (p - 1) 0).toNat / 2 ^ (8 - left)
theorem rest_full (b : List UInt8) (p : Nat) : rest b (p + 1) 8 = (b.getD p 0).toNat := by simp [rest]
theorem rest_half {b : List UInt8} {p left : Nat} (h1 : 1 ≤ left) (h8 : left ≤ 8) : rest b p left / 2 = rest b p (left - 1) := by
  unfold rest
  rw [Nat.div_div_eq_div_mul, show 8 - (left - 1) = (8 - left) + 1 by omega, Nat.pow_succ]
theorem rest_bit {b : List UInt8} {p left a : Nat} (h1 : 1 ≤ left) (h8 : left ≤ 8) (ha : a + left = 8 * p) : rest b p left % 2 = bit b a := by
  unfold rest bit
  rw [show a / 8 = p - 1 by omega, show a % 8 = 8 - left by omega]
end Go.Cl.Bt
