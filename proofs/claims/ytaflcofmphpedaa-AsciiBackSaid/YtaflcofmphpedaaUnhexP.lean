/-
  Digits read: the plain law.
-/
import Derived.Test.YtaflcofmphpedaaMem
namespace Go.Cl.Uh
theorem shl4 (P : Program) (t : TypeId) (k' : IntKind) (a : Int) : binA P .shl t (.int .i64 a) (.int k' 4) = some (.int .i64 (IntKind.i64.wrap (a * 16))) := by
  rw [bin_shl P t .i64 a 4 k' (by decide)]; rfl
theorem or_four {n d : Nat} (hn : n < 16) (hd : d < 16) : IntKind.i64.wrap (((BitVec.ofInt IntKind.i64.bits ((n : Int) * 16) ||| BitVec.ofInt IntKind.i64.bits (d : Int)).toNat : Nat) : Int) = ((n * 16 + d : Nat) : Int) := by
  have e1 : IntKind.i64.bits = 64 := rfl
  rw [e1]
  have : (BitVec.ofInt 64 ((n : Int) * 16) ||| BitVec.ofInt 64 (d : Int)).toNat = n * 16 + d := by
    have e2 : ((n : Int) * 16) = ((n * 16 : Nat) : Int) := by omega
    rw [e2, BitVec.toNat_or, BitVec.ofInt_natCast, BitVec.ofInt_natCast, BitVec.toNat_ofNat, BitVec.toNat_ofNat, Nat.mod_eq_of_lt (by omega), Nat.mod_eq_of_lt (by omega)]
    have := Nat.shiftLeft_add_eq_or_of_lt (i := 4) (b := d) hd n
    rw [Nat.shiftLeft_eq] at this
    exact this.symm
  rw [this, wrapI (by omega)]
/-- The byte that a number says. -/
def byteN (n : Nat) : UInt8 := UInt8.ofNat n
theorem byteN_val {n : Nat} (h : n < 256) : ((byteN n).toNat : Int) = n := by
  unfold byteN; rw [UInt8.toNat_ofNat']; omega
end Go.Cl.Uh
