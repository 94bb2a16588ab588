/-
  Blocks of bytes as they are, and bits that are read: the plain law.
-/
import Derived.Test.YtnclklboogdoiaaNum
import Derived.Test.YtnclklboogdoiaaRul
namespace Go.Cl.Sto
def hdr (n : Nat) (last : Nat) : List UInt8 := [UInt8.ofNat last, UInt8.ofNat n, UInt8.ofNat (n / 256), UInt8.ofNat (255 - n % 256), UInt8.ofNat (255 - n / 256 % 256)]
def sto (l : List UInt8) : List UInt8 :=
  if _h : l.length ≤ 65535 then hdr l.length 1 ++ l else (hdr 65535 0 ++ l.take 65535) ++ sto (l.drop 65535)
termination_by l.length
decreasing_by rw [List.length_drop]; omega
theorem sto_last {l : List UInt8} (h : l.length ≤ 65535) : sto l = hdr l.length 1 ++ l := by rw [sto, dif_pos h]
theorem sto_more {l : List UInt8} (h : ¬ l.length ≤ 65535) : sto l = (hdr 65535 0 ++ l.take 65535) ++ sto (l.drop 65535) := by rw [sto, dif_neg h]
theorem hdr_length (n k : Nat) : (hdr n k).length = 5 := rfl
def blocks (n : Nat) : Nat := max 1 ((n + 65534) / 65535)
theorem sto_length : ∀ (k : Nat) (l : List UInt8), l.length ≤ k → (sto l).length = l.length + 5 * blocks l.length := by
  intro k
  induction k with
  | zero => intro l hl; rw [sto_last (by omega), List.length_append, hdr_length]; unfold blocks; omega
  | succ k ih =>
    intro l hl
    by_cases h : l.length ≤ 65535
    · rw [sto_last h, List.length_append, hdr_length]; unfold blocks; omega
    · have := ih (l.drop 65535) (by rw [List.length_drop]; omega)
      rw [sto_more h, List.length_append, List.length_append, hdr_length, this, List.length_take, List.length_drop]
      unfold blocks
      omega
theorem notI {n : Nat} (h : n < 4611686018427387904) : unA .xor (.int .i64 (n : Int)) = some (.int .i64 (-(n : Int) - 1)) := by
  show some (Value.int .i64 (IntKind.i64.wrap (((BitVec.ofInt 64 (-1) ^^^ BitVec.ofInt 64 (n : Int)).toNat : Nat) : Int))) = _
  have e : (BitVec.ofInt 64 (-1) ^^^ BitVec.ofInt 64 (n : Int)).toNat = 18446744073709551615 - n := by
    have h1 : BitVec.ofInt 64 (-1) = BitVec.allOnes 64 := by decide
    rw [h1, BitVec.allOnes_xor, BitVec.toNat_not, BitVec.ofInt_natCast, BitVec.toNat_ofNat, Nat.mod_eq_of_lt (by omega)]
  rw [e]
  congr 2
  have e1 : IntKind.i64.bits = 64 := rfl
  have e2 : IntKind.i64.signed = true := rfl
  simp only [IntKind.wrap, e1, e2, Bool.true_and]
  split <;> simp_all <;> omega
theorem shr8 (P : Program) (t : TypeId) (k' : IntKind) (a : Int) : binA P .shr t (.int .i64 a) (.int k' 8) = some (.int .i64 (a.fdiv 256)) := by
  rw [bin_shr P t .i64 a 8 k' (by decide)]; rfl
theorem fdiv256 (a : Int) : a.fdiv 256 = a / 256 := Int.fdiv_eq_ediv_of_nonneg _ (by omega)
theorem b0 (n : Nat) : IntKind.u8.wrap (n : Int) = ((UInt8.ofNat n).toNat : Int) := by rw [wrapu8, UInt8.toNat_ofNat']; omega
theorem b1 (n : Nat) : IntKind.u8.wrap ((n : Int) / 256) = ((UInt8.ofNat (n / 256)).toNat : Int) := by rw [wrapu8, UInt8.toNat_ofNat']; omega
theorem b2 (n : Nat) : IntKind.u8.wrap (-(n : Int) - 1) = ((UInt8.ofNat (255 - n % 256)).toNat : Int) := by rw [wrapu8, UInt8.toNat_ofNat']; omega
theorem b3 (n : Nat) : IntKind.u8.wrap ((-(n : Int) - 1) / 256) = ((UInt8.ofNat (255 - n / 256 % 256)).toNat : Int) := by rw [wrapu8, UInt8.toNat_ofNat']; omega
def bit (D : List UInt8) (k : Nat) : Nat := (D.getD (k / 8) 0).toNat / 2 ^ (k % 8) % 2
def bitsN (D : List UInt8) (at_ : Nat) : Nat → Nat
  | 0 => 0
  | n + 1 => bitsN D at_ n + bit D (at_ + n) * 2 ^ n
theorem bit_lt (D : List UInt8) (k : Nat) : bit D k < 2 := Nat.mod_lt _ (by omega)
theorem bitsN_lt (D : List UInt8) (a : Nat) : ∀ n, bitsN D a n < 2 ^ n
  | 0 => by simp [bitsN]
  | n + 1 => by
    have h1 := bitsN_lt D a n
    have h2 := bit_lt D (a + n)
    have h3 : bit D (a + n) = 0 ∨ bit D (a + n) = 1 := by omega
    simp only [bitsN, Nat.pow_succ]
    rcases h3 with h | h <;> rw [h] <;> omega
theorem bit_at (D : List UInt8) (i k : Nat) (h : k < 8) : bit D (8 * i + k) = (D.getD i 0).toNat / 2 ^ k % 2 := by
  unfold bit
  rw [show (8 * i + k) / 8 = i by omega, show (8 * i + k) % 8 = k by omega]
theorem bits8 (D : List UInt8) (i : Nat) : bitsN D (8 * i) 8 = (D.getD i 0).toNat := by
  have hx := (D.getD i 0).toNat_lt
  simp only [bitsN]
  rw [bit_at D i 0 (by omega), bit_at D i 1 (by omega), bit_at D i 2 (by omega), bit_at D i 3 (by omega), bit_at D i 4 (by omega), bit_at D i 5 (by omega), bit_at D i 6 (by omega), bit_at D i 7 (by omega)]
  generalize (D.getD i 0).toNat = x at hx
  simp only [Nat.reducePow]
  omega
theorem bitsN_add (D : List UInt8) (a n : Nat) : ∀ m, bitsN D a (n + m) = bitsN D a n + 2 ^ n * bitsN D (a + n) m
  | 0 => by simp [bitsN]
  | m + 1 => by
    have := bitsN_add D a n m
    show bitsN D a (n + m) + bit D (a + (n + m)) * 2 ^ (n + m) = _
    rw [this]
    simp only [bitsN]
    rw [Nat.pow_add, Nat.mul_add, show a + (n + m) = a + n + m by omega]
    have : bit D (a + n + m) * (2 ^ n * 2 ^ m) = 2 ^ n * (bit D (a + n + m) * 2 ^ m) := by
      rw [← Nat.mul_assoc, Nat.mul_comm (bit D (a + n + m)), Nat.mul_assoc]
    omega
theorem bits16 (D : List UInt8) (i : Nat) : bitsN D (8 * i) 16 = (D.getD i 0).toNat + 256 * (D.getD (i + 1) 0).toNat := by
  have := bitsN_add D (8 * i) 8 8
  rw [show 8 * i + 8 = 8 * (i + 1) by omega, bits8, bits8] at this
  exact this
theorem bits1 (D : List UInt8) (i : Nat) : bitsN D (8 * i) 1 = (D.getD i 0).toNat % 2 := by
  simp only [bitsN]
  rw [bit_at D i 0 (by omega)]
  simp
theorem bits2 (D : List UInt8) (i : Nat) : bitsN D (8 * i + 1) 2 = (D.getD i 0).toNat / 2 % 4 := by
  simp only [bitsN]
  rw [bit_at D i 1 (by omega), show 8 * i + 1 + 1 = 8 * i + 2 by omega, bit_at D i 2 (by omega)]
  generalize (D.getD i 0).toNat = x
  simp only [Nat.reducePow]
  omega
theorem shlI (P : Program) (t : TypeId) (k' : IntKind) {b : Nat} (hb : b < 2) {k : Nat} (h : k < 32) : binA P .shl t (.int .i64 ((b : Nat) : Int)) (.int k' (k : Nat)) = some (.int .i64 ((b * 2 ^ k : Nat) : Int)) := by
  rw [bin_shl P t .i64 _ _ k' (by omega)]
  have e : min ((k : Nat) : Int).toNat IntKind.i64.bits = k := by
    have : IntKind.i64.bits = 64 := rfl
    rw [this, Int.toNat_natCast]; omega
  have hp : 2 ^ k ≤ 2 ^ 32 := Nat.pow_le_pow_right (by omega) (by omega)
  have hp2 : (2 : Nat) ^ 32 = 4294967296 := by decide
  have e2 : ((b : Nat) : Int) * (2 : Int) ^ k = ((b * 2 ^ k : Nat) : Int) := by norm_cast
  rw [e, e2]
  have hx : b = 0 ∨ b = 1 := by omega
  rw [wrapI (by rcases hx with rfl | rfl <;> (generalize 2 ^ k = q at hp; omega))]
theorem orI {v b k : Nat} (hv : v < 2 ^ k) (hb : b < 2) (hk : k < 32) : IntKind.i64.wrap (((BitVec.ofInt IntKind.i64.bits (v : Int) ||| BitVec.ofInt IntKind.i64.bits ((b * 2 ^ k : Nat) : Int)).toNat : Nat) : Int) = ((v + b * 2 ^ k : Nat) : Int) := by
  have e1 : IntKind.i64.bits = 64 := rfl
  have hp : 2 ^ k ≤ 2 ^ 32 := Nat.pow_le_pow_right (by omega) (by omega)
  have hp2 : (2 : Nat) ^ 32 = 4294967296 := by decide
  have hx : b = 0 ∨ b = 1 := by omega
  have hbk : b * 2 ^ k ≤ 4294967296 := by rcases hx with rfl | rfl <;> (generalize 2 ^ k = q at *; omega)
  rw [e1]
  have : (BitVec.ofInt 64 (v : Int) ||| BitVec.ofInt 64 ((b * 2 ^ k : Nat) : Int)).toNat = v + b * 2 ^ k := by
    rw [BitVec.toNat_or, BitVec.ofInt_natCast, BitVec.ofInt_natCast, BitVec.toNat_ofNat, BitVec.toNat_ofNat, Nat.mod_eq_of_lt (by omega), Nat.mod_eq_of_lt (by omega)]
    have := Nat.shiftLeft_add_eq_or_of_lt (i := k) (b := v) hv b
    rw [Nat.shiftLeft_eq] at this
    rw [Nat.or_comm, ← this, Nat.add_comm]
  rw [this, wrapI (by omega)]
theorem xor16 {m : Nat} (h : m < 65536) : IntKind.i64.wrap (((BitVec.ofInt IntKind.i64.bits (m : Int) ^^^ BitVec.ofInt IntKind.i64.bits 65535).toNat : Nat) : Int) = ((65535 - m : Nat) : Int) := by
  have e1 : IntKind.i64.bits = 64 := rfl
  rw [e1]
  have : (BitVec.ofInt 64 (m : Int) ^^^ BitVec.ofInt 64 65535).toNat = 65535 - m := by
    have e2 : (BitVec.ofInt 64 65535) = BitVec.ofNat 64 65535 := rfl
    rw [e2, BitVec.toNat_xor, BitVec.ofInt_natCast, BitVec.toNat_ofNat, BitVec.toNat_ofNat, Nat.mod_eq_of_lt (by omega), Nat.mod_eq_of_lt (by omega)]
    apply Nat.eq_of_testBit_eq
    intro i
    have h16 : (65535 : Nat) = 2 ^ 16 - 1 := by decide
    have h17 : 65535 - m = 2 ^ 16 - (m + 1) := by
      have : (2 : Nat) ^ 16 = 65536 := by decide
      omega
    rw [h17, Nat.testBit_two_pow_sub_succ (by show m < 2 ^ 16; exact h), Nat.testBit_xor, h16, Nat.testBit_two_pow_sub_one]
    by_cases hi : i < 16
    · simp [hi]
    · have : m.testBit i = false := Nat.testBit_lt_two_pow (Nat.lt_of_lt_of_le h (by show 2 ^ 16 ≤ 2 ^ i; exact Nat.pow_le_pow_right (by omega) (by omega)))
      simp [hi, this]
  rw [this, wrapI (by omega)]
end Go.Cl.Sto
