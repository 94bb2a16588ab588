/-
  Digits: the plain law.
-/
import Derived.Test.YtaflcofmphpedaaMem
namespace Go.Cl.Hx
def digits : List UInt8 := [48, 49, 50, 51, 52, 53, 54, 55, 56, 57, 97, 98, 99, 100, 101, 102]
def two (c : UInt8) : List UInt8 := [digits.getD (c.toNat / 16) 0, digits.getD (c.toNat % 16) 0]
def hexs (l : List UInt8) : List UInt8 := l.flatMap two
def hex (l : List UInt8) : List UInt8 := hexs l ++ [62]
theorem hexs_snoc (l : List UInt8) (c : UInt8) : hexs (l ++ [c]) = hexs l ++ two c := by simp [hexs]
theorem two_length (c : UInt8) : (two c).length = 2 := rfl
theorem hexs_length (l : List UInt8) : (hexs l).length = 2 * l.length := by
  induction l with
  | nil => rfl
  | cons c l ih => simp only [hexs, List.flatMap_cons, List.length_append, List.length_cons] at *; rw [ih, two_length]; omega
theorem digits_length : digits.length = 16 := rfl
theorem shr4 (P : Program) (t : TypeId) (k' : IntKind) (c : UInt8) : binA P .shr t (.int .u8 c.toNat) (.int k' 4) = some (.int .u8 ((c.toNat / 16 : Nat) : Int)) := by
  rw [bin_shr P t .u8 _ 4 k' (by decide)]
  have : ((c.toNat : Int)).fdiv (2 ^ (min (4 : Int).toNat IntKind.u8.bits)) = ((c.toNat / 16 : Nat) : Int) := by
    show ((c.toNat : Int)).fdiv 16 = _
    rw [Int.fdiv_eq_ediv_of_nonneg _ (by omega)]; omega
  rw [this]
theorem and15 (c : UInt8) : IntKind.u8.wrap (((BitVec.ofInt IntKind.u8.bits (c.toNat : Int) &&& BitVec.ofInt IntKind.u8.bits 15).toNat : Nat) : Int) = ((c.toNat % 16 : Nat) : Int) := by
  have e1 : IntKind.u8.bits = 8 := rfl
  have hx := c.toNat_lt
  rw [e1]
  have : (BitVec.ofInt 8 (c.toNat : Int) &&& BitVec.ofInt 8 15).toNat = c.toNat % 16 := by
    rw [BitVec.toNat_and, BitVec.ofInt_natCast, BitVec.toNat_ofNat, Nat.mod_eq_of_lt (by omega)]
    show c.toNat &&& 15 = _
    exact Nat.and_two_pow_sub_one_eq_mod c.toNat 4
  rw [this, wrapu8]; omega
theorem and15m (c : UInt8) : (((BitVec.ofInt IntKind.u8.bits (c.toNat : Int) &&& BitVec.ofInt IntKind.u8.bits 15).toNat : Nat) : Int) % 256 = ((c.toNat % 16 : Nat) : Int) := by
  rw [← wrapu8]; exact and15 c
/-- A text at a place. -/
theorem indexStr {P : Program} {t : TypeId} (hu : P.underlying t = some .string) {k : IntKind} (b : ByteArray) {n : Nat} (h : n < b.data.toList.length) : indexA P t (.string b) (.int k n) = some (.int .u8 ((b.data.toList.getD n 0).toNat : Int)) := by
  show indexA P t (.string b) (.int k (Int.ofNat n)) = _
  unfold indexA
  rw [hu]
  simp only
  rw [List.drop_eq_getElem_cons h]
  simp [List.getD, List.getElem?_eq_getElem h]
end Go.Cl.Hx
