/-
  Five digits for four bytes: the plain law of the writing.
-/
import Derived.Test.YtaflcofmphpedaaMem
namespace Go.Cl.B85
/-- The first so many bytes of a group as a number. -/
def val (l : List UInt8) : Nat → Nat
  | 0 => 0
  | i + 1 => val l i * 256 + (if i < min 4 l.length then (l.getD i 0).toNat else 0)
theorem val_lt (l : List UInt8) : ∀ i, val l i < 256 ^ i := by
  intro i
  induction i with
  | zero => simp [val]
  | succ i ih =>
    have hb := (l.getD i 0).toNat_lt
    simp only [val, Nat.pow_succ]
    split <;> omega
theorem val_lt3 (l : List UInt8) {i : Nat} (h : i < 4) : val l i < 16777216 := by
  have h1 := val_lt l i
  have h2 : 256 ^ i ≤ 256 ^ 3 := Nat.pow_le_pow_right (by omega) (by omega)
  have h3 : (256 : Nat) ^ 3 = 16777216 := by decide
  omega
theorem val_lt4 (l : List UInt8) : val l 4 < 4294967296 := by
  have := val_lt l 4
  have h3 : (256 : Nat) ^ 4 = 4294967296 := by decide
  omega
/-- A digit. -/
def dig (x k : Nat) : UInt8 := UInt8.ofNat (33 + x / 85 ^ (4 - k) % 85)
def five (x : Nat) : List UInt8 := [dig x 0, dig x 1, dig x 2, dig x 3, dig x 4]
/-- The last j digits are laid. -/
def laid (x j : Nat) : List UInt8 := (List.range 5).map fun k => if 5 ≤ k + j then dig x k else 0
theorem laid_zero (x : Nat) : laid x 0 = [0, 0, 0, 0, 0] := by simp [laid, List.range_succ]
theorem laid_five (x : Nat) : laid x 5 = five x := by simp [laid, five, List.range_succ]
theorem laid_length (x j : Nat) : (laid x j).length = 5 := by simp [laid]
theorem laid_set (x : Nat) {j : Nat} (h : j < 5) : (laid x j).set (4 - j) (dig x (4 - j)) = laid x (j + 1) := by
  obtain rfl | rfl | rfl | rfl | rfl : j = 0 ∨ j = 1 ∨ j = 2 ∨ j = 3 ∨ j = 4 := by omega
  all_goals simp [laid, List.range_succ]
theorem set_bytes (l : List UInt8) (k : Nat) (c : UInt8) : (ofBytes l).set k (.int .u8 (c.toNat : Int)) = ofBytes (l.set k c) := by
  simp [ofBytes, List.map_set]
theorem dig_val (x j : Nat) (h : j < 5) : ((33 + (x / 85 ^ j % 85 : Nat) : Int)) % 256 = ((dig x (4 - j)).toNat : Int) := by
  have : 4 - (4 - j) = j := by omega
  simp only [dig, this, UInt8.toNat_ofNat']
  omega
/-- What is written. -/
def b85 (l : List UInt8) : List UInt8 :=
  if _h : l = [] then [126, 62]
  else if min 4 l.length = 4 ∧ val l 4 = 0 then 122 :: b85 (l.drop (min 4 l.length))
  else (five (val l 4)).take (min 4 l.length + 1) ++ b85 (l.drop (min 4 l.length))
termination_by l.length
decreasing_by
  · have : 0 < l.length := List.length_pos_iff.mpr _h
    rw [List.length_drop]; omega
  · have : 0 < l.length := List.length_pos_iff.mpr _h
    rw [List.length_drop]; omega
theorem b85_nil : b85 [] = [126, 62] := by rw [b85]; simp
theorem b85_z {l : List UInt8} (h : l ≠ []) (h2 : min 4 l.length = 4 ∧ val l 4 = 0) : b85 l = 122 :: b85 (l.drop (min 4 l.length)) := by rw [b85, dif_neg h, if_pos h2]
theorem b85_five {l : List UInt8} (h : l ≠ []) (h2 : ¬ (min 4 l.length = 4 ∧ val l 4 = 0)) : b85 l = (five (val l 4)).take (min 4 l.length + 1) ++ b85 (l.drop (min 4 l.length)) := by rw [b85, dif_neg h, if_neg h2]
theorem b85_bound : ∀ (n : Nat) (l : List UInt8), l.length ≤ n → (b85 l).length ≤ 2 * l.length + 2 := by
  intro n
  induction n with
  | zero =>
    intro l hl
    have : l = [] := List.eq_nil_of_length_eq_zero (by omega)
    subst this; rw [b85_nil]; simp
  | succ n ih =>
    intro l hl
    by_cases h : l = []
    · subst h; rw [b85_nil]; simp
    · have hp : 0 < l.length := List.length_pos_iff.mpr h
      have := ih (l.drop (min 4 l.length)) (by rw [List.length_drop]; omega)
      rw [List.length_drop] at this
      by_cases h2 : min 4 l.length = 4 ∧ val l 4 = 0
      · rw [b85_z h h2, List.length_cons]; omega
      · rw [b85_five h h2, List.length_append, List.length_take]
        have : (five (val l 4)).length = 5 := rfl
        omega

theorem wrapu32 {x : Int} : IntKind.u32.wrap x = x % 4294967296 := by
  have e1 : IntKind.u32.bits = 32 := rfl
  have e2 : IntKind.u32.signed = false := rfl
  simp only [IntKind.wrap, e1, e2, Bool.false_and]
  simp
theorem shl8u (P : Program) (t : TypeId) (k' : IntKind) (a : Int) : binA P .shl t (.int .u32 a) (.int k' 8) = some (.int .u32 (IntKind.u32.wrap (a * 256))) := by
  rw [bin_shl P t .u32 a 8 k' (by decide)]; rfl
theorem or_u32 {n : Nat} {x : UInt8} (h : n < 16777216) : (((BitVec.ofInt IntKind.u32.bits (((n : Int) * 256)) ||| BitVec.ofInt IntKind.u32.bits ((x.toNat : Int))).toNat : Nat) : Int) % 4294967296 = ((n * 256 + x.toNat : Nat) : Int) := by
  have e1 : IntKind.u32.bits = 32 := rfl
  have hx := x.toNat_lt
  rw [e1]
  have e2 : ((n : Int) * 256) = ((n * 256 : Nat) : Int) := by omega
  have : (BitVec.ofInt 32 ((n : Int) * 256) ||| BitVec.ofInt 32 (x.toNat : Int)).toNat = n * 256 + x.toNat := by
    rw [e2, BitVec.toNat_or, BitVec.ofInt_natCast, BitVec.ofInt_natCast, BitVec.toNat_ofNat, BitVec.toNat_ofNat, Nat.mod_eq_of_lt (by omega), Nat.mod_eq_of_lt (by omega)]
    have := Nat.shiftLeft_add_eq_or_of_lt (i := 8) (b := x.toNat) hx n
    rw [Nat.shiftLeft_eq] at this
    exact this.symm
  rw [this]; omega
theorem mod_u32 {n : Nat} (h : n < 16777216) : ((n : Int) * 256) % 4294967296 = (n : Int) * 256 := by omega
theorem byte_u32 (x : UInt8) : ((x.toNat : Int)) % 4294967296 = (x.toNat : Int) := by have := x.toNat_lt; omega
end Go.Cl.B85
