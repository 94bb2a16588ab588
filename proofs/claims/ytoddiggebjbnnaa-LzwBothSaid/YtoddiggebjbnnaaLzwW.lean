/-
  LZW, writing: eight bits laid into a row one by one are a byte.
-/
import Derived.Test.YtoddiggebjbnnaaLzwB
namespace Go.Cl.Lz
open Go.Cl.Rw
/-- The last so many of eight bits as a number. -/
def low8 (l : List Nat) : Nat → Nat
  | 0 => 0
  | k + 1 => low8 l k + l.getD (7 - k) 0 * 2 ^ k
theorem low8_lt {l : List Nat} (h : ∀ i, l.getD i 0 < 2) : ∀ k, low8 l k < 2 ^ k
  | 0 => by simp [low8]
  | k + 1 => by
    have h1 := low8_lt h k
    have h2 := h (7 - k)
    have h3 : l.getD (7 - k) 0 = 0 ∨ l.getD (7 - k) 0 = 1 := by omega
    simp only [low8, Nat.pow_succ]
    rcases h3 with q | q <;> rw [q] <;> omega
theorem low8_all (l : List Nat) : UInt8.ofNat (low8 l 8) = byte8 l := by
  unfold byte8
  congr 1
  simp only [low8, Nat.reducePow, Nat.reduceSub]
  omega
/-- So many of the bits laid. -/
def laid8 (B : List UInt8) (l : List Nat) (k : Nat) : List UInt8 × Nat := (if k = 0 then B else B ++ [UInt8.ofNat (low8 l k)], 8 * B.length + k)
theorem or_add {v b k : Nat} (hv : v < 2 ^ k) (hb : b < 2) (hk : k < 8) : (UInt8.ofNat v ||| UInt8.ofNat (b * 2 ^ k)) = UInt8.ofNat (v + b * 2 ^ k) := by
  apply UInt8.toNat_inj.mp
  have hp : 2 ^ k ≤ 2 ^ 7 := Nat.pow_le_pow_right (by omega) (by omega)
  have hp2 : (2 : Nat) ^ 7 = 128 := by decide
  have hx : b = 0 ∨ b = 1 := by omega
  have hbk : b * 2 ^ k ≤ 128 := by rcases hx with rfl | rfl <;> (generalize 2 ^ k = q at *; omega)
  rw [UInt8.toNat_or, UInt8.toNat_ofNat', UInt8.toNat_ofNat', UInt8.toNat_ofNat', Nat.mod_eq_of_lt (by omega), Nat.mod_eq_of_lt (by omega), Nat.mod_eq_of_lt (by omega)]
  have := Nat.shiftLeft_add_eq_or_of_lt (i := k) (b := v) hv b
  rw [Nat.shiftLeft_eq] at this
  rw [Nat.or_comm, ← this, Nat.add_comm]
theorem laid8_step {B : List UInt8} {l : List Nat} (h : ∀ i, l.getD i 0 < 2) {k : Nat} (hk : k < 8) : rbit (laid8 B l k) ((l.getD (7 - k) 0 : Nat) : Int) = laid8 B l (k + 1) := by
  have hroom : room (laid8 B l k) = B ++ [UInt8.ofNat (low8 l k)] := by
    unfold room laid8
    by_cases hz : k = 0
    · subst hz; simp [low8]
    · have : ¬ (8 * B.length + k) % 8 = 0 := by omega
      simp only [if_neg this, if_neg hz]
  have hi : (laid8 B l k).2 / 8 = B.length := by show (8 * B.length + k) / 8 = _; omega
  have hm : (laid8 B l k).2 % 8 = k := by show (8 * B.length + k) % 8 = _; omega
  have hb := h (7 - k)
  have hv := low8_lt h k
  have hx : ((((l.getD (7 - k) 0 : Nat) : Int)) % 2).toNat = l.getD (7 - k) 0 := by omega
  unfold rbit
  rw [hroom, hi, hm]
  have hg : (B ++ [UInt8.ofNat (low8 l k)]).getD B.length 0 = UInt8.ofNat (low8 l k) := by
    rw [List.getD_eq_getElem?_getD, List.getElem?_append_right (Nat.le_refl _), Nat.sub_self]; rfl
  rw [hg]
  unfold setb
  rw [hx, or_add hv hb hk]
  unfold laid8
  rw [if_neg (by omega : ¬ k + 1 = 0), List.set_append_right _ _ (Nat.le_refl _), Nat.sub_self]
  rfl
theorem laid8_zero (B : List UInt8) (l : List Nat) : laid8 B l 0 = (B, 8 * B.length) := rfl
theorem laid8_eight (B : List UInt8) (l : List Nat) : laid8 B l 8 = (B ++ [byte8 l], 8 * (B ++ [byte8 l]).length) := by
  unfold laid8
  rw [if_neg (by omega), low8_all, List.length_append]
  rfl
end Go.Cl.Lz
