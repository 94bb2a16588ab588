/-
  The clean machine, part 26: numbers by bits.
-/
import Derived.Test.YtpdkppimlcbhlaaMem
namespace Go.Cl
theorem bin_shl8 (P : Program) (t : TypeId) (k' : IntKind) (a : Int) : binA P .shl t (.int .i64 a) (.int k' 8) = some (.int .i64 (IntKind.i64.wrap (a * 256))) := by
  rw [bin_shl P t .i64 a 8 k' (by decide)]; rfl
theorem or_byte {n : Nat} {x : UInt8} (h : n < 4503599627370496) : IntKind.i64.wrap (((BitVec.ofInt IntKind.i64.bits ((n : Int) * 256) ||| BitVec.ofInt IntKind.i64.bits (x.toNat : Int)).toNat : Nat) : Int) = ((n * 256 + x.toNat : Nat) : Int) := by
  have e1 : IntKind.i64.bits = 64 := rfl
  have hx := x.toNat_lt
  rw [e1]
  have : (BitVec.ofInt 64 ((n : Int) * 256) ||| BitVec.ofInt 64 (x.toNat : Int)).toNat = n * 256 + x.toNat := by
    have e2 : ((n : Int) * 256) = ((n * 256 : Nat) : Int) := by omega
    rw [e2, BitVec.toNat_or, BitVec.ofInt_natCast, BitVec.ofInt_natCast, BitVec.toNat_ofNat, BitVec.toNat_ofNat, Nat.mod_eq_of_lt (by omega), Nat.mod_eq_of_lt (by omega)]
    have := Nat.shiftLeft_add_eq_or_of_lt (i := 8) (b := x.toNat) hx n
    rw [Nat.shiftLeft_eq] at this
    exact this.symm
  rw [this, wrapI (by omega)]
/-- Bytes, the highest first. -/
def bigOf (l : List UInt8) : Nat := l.foldl (fun n x => n * 256 + x.toNat) 0
theorem bigOf_snoc (l : List UInt8) (x : UInt8) : bigOf (l ++ [x]) = bigOf l * 256 + x.toNat := by simp [bigOf]
theorem bigOf_lt (l : List UInt8) : ∀ n, l.length = n → bigOf l < 256 ^ n := by
  intro n
  induction n generalizing l with
  | zero => intro h; have : l = [] := List.eq_nil_of_length_eq_zero h
            subst this; simp [bigOf]
  | succ n ih =>
    intro h
    have hne : l ≠ [] := by intro e; subst e; simp at h
    rw [← List.dropLast_concat_getLast hne, bigOf_snoc]
    have := ih l.dropLast (by rw [List.length_dropLast]; omega)
    have hx := (l.getLast hne).toNat_lt
    rw [Nat.pow_succ]; omega
theorem bigOf_small {l : List UInt8} (h : l.length < 7) : bigOf l < 4503599627370496 := by
  have := bigOf_lt l l.length rfl
  have h2 : 256 ^ l.length ≤ 256 ^ 6 := Nat.pow_le_pow_right (by omega) (by omega)
  have h3 : (256 : Nat) ^ 6 = 281474976710656 := by decide
  omega
end Go.Cl
