/-
  Numbers as bytes, the highest first.
-/
import Derived.Test.YtpdkppimlcbhlaaNum
import Derived.Test.YtpdkppimlcbhlaaRul
namespace Go.Cl
/-- So many bytes of a number, of w in all. -/
def beTo (w n j : Nat) : List UInt8 := (List.range j).map fun q => UInt8.ofNat (n / 256 ^ (w - 1 - q))
def be (w n : Nat) : List UInt8 := beTo w n w
theorem beTo_succ (w n j : Nat) : beTo w n (j + 1) = beTo w n j ++ [UInt8.ofNat (n / 256 ^ (w - 1 - j))] := by
  unfold beTo; rw [List.range_succ, List.map_append]; rfl
theorem beTo_length (w n j : Nat) : (beTo w n j).length = j := by simp [beTo]
theorem be_length (w n : Nat) : (be w n).length = w := beTo_length _ _ _
theorem be_four (n : Nat) : be 4 n = [UInt8.ofNat (n / 16777216), UInt8.ofNat (n / 65536), UInt8.ofNat (n / 256), UInt8.ofNat n] := by
  simp [be, beTo, List.range_succ]
theorem bigOf_beTo (w n : Nat) : ∀ j, j ≤ w → bigOf (beTo w n j) = n / 256 ^ (w - j) % 256 ^ j := by
  intro j
  induction j with
  | zero => intro _; simp [beTo, bigOf, Nat.mod_one]
  | succ j ih =>
    intro hj
    rw [beTo_succ, bigOf_snoc, ih (by omega)]
    have e : w - j = w - 1 - j + 1 := by omega
    rw [UInt8.toNat_ofNat', e, show w - (j + 1) = w - 1 - j by omega, Nat.pow_succ, ← Nat.div_div_eq_div_mul, Nat.pow_succ 256 j, Nat.mul_comm (256 ^ j) 256, Nat.mod_mul]
    omega
theorem bigOf_be {w n : Nat} (h : n < 256 ^ w) : bigOf (be w n) = n := by
  unfold be
  rw [bigOf_beTo w n w (Nat.le_refl _), Nat.sub_self, Nat.pow_zero, Nat.div_one, Nat.mod_eq_of_lt h]
theorem u8_of (n : Nat) : IntKind.u8.wrap (n : Int) = ((UInt8.ofNat n).toNat : Int) := by
  rw [wrapu8, UInt8.toNat_ofNat']; omega
theorem wrapU {x : Int} (h0 : 0 ≤ x) (h : x < 18446744073709551616) : IntKind.u64.wrap x = x := by
  have e1 : IntKind.u64.bits = 64 := rfl
  have e2 : IntKind.u64.signed = false := rfl
  simp only [IntKind.wrap, e1, e2, Bool.false_and]
  simp
  omega
theorem fdivNat (a b : Nat) : ((a : Nat) : Int).fdiv ((b : Nat) : Int) = ((a / b : Nat) : Int) := by
  rw [Int.fdiv_eq_ediv_of_nonneg _ (by omega)]; omega
/-- A shift by whole bytes. -/
theorem shrBytes (P : Program) (t : TypeId) (k' : IntKind) (n : Nat) {x : Int} (i : Nat) (hx : x = ((8 * i : Nat) : Int)) (hi : i < 8) : binA P .shr t (.int .i64 (n : Nat)) (.int k' x) = some (.int .i64 ((n / 256 ^ i : Nat) : Int)) := by
  subst hx
  rw [bin_shr P t .i64 _ _ k' (by omega)]
  have e1 : min ((8 * i : Nat) : Int).toNat IntKind.i64.bits = 8 * i := by
    have : IntKind.i64.bits = 64 := rfl
    omega
  have e2 : (256 : Nat) ^ i = 2 ^ (8 * i) := by rw [Nat.pow_mul]
  rw [e1, e2]
  have e3 : (2 : Int) ^ (8 * i) = ((2 ^ (8 * i) : Nat) : Int) := by push_cast; rfl
  rw [e3, fdivNat]
end Go.Cl
