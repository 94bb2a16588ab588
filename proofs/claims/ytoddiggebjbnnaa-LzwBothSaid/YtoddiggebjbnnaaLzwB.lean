/-
  LZW, writing: codes as bits, the highest first; bits as bytes, the highest first.
-/
import Derived.Test.YtoddiggebjbnnaaLzwP
import Derived.Test.YtoddiggebjbnnaaRowP
namespace Go.Cl.Lz
def width (next : Nat) : Nat := if next < 511 then 9 else if next < 1023 then 10 else if next < 2047 then 11 else 12
theorem width_le (n : Nat) : 9 ≤ width n ∧ width n ≤ 12 := by unfold width; repeat (first | (split; all_goals try omega) | omega)
/-- A code's bits, so many, the highest first. -/
def cbits (c : Nat) : Nat → List Nat
  | 0 => []
  | w + 1 => c / 2 ^ w % 2 :: cbits c w
theorem cbits_length (c : Nat) : ∀ w, (cbits c w).length = w
  | 0 => rfl
  | w + 1 => by simp [cbits, cbits_length c w]
theorem cbits_bit (c : Nat) : ∀ w, ∀ x ∈ cbits c w, x < 2
  | 0, x, h => by cases h
  | w + 1, x, h => by
    rcases List.mem_cons.mp h with rfl | h
    · exact Nat.mod_lt _ (by omega)
    · exact cbits_bit c w x h
/-- Eight bits as a byte, the highest first; what is missing is 0. -/
def byte8 (l : List Nat) : UInt8 := UInt8.ofNat (l.getD 0 0 * 128 + l.getD 1 0 * 64 + l.getD 2 0 * 32 + l.getD 3 0 * 16 + l.getD 4 0 * 8 + l.getD 5 0 * 4 + l.getD 6 0 * 2 + l.getD 7 0)
def pack (l : List Nat) : List UInt8 :=
  if _h : l = [] then [] else byte8 l :: pack (l.drop 8)
termination_by l.length
decreasing_by
  have : 0 < l.length := List.length_pos_iff.mpr _h
  rw [List.length_drop]; omega
theorem pack_nil : pack [] = [] := by rw [pack]; simp
theorem pack_cons {l : List Nat} (h : l ≠ []) : pack l = byte8 l :: pack (l.drop 8) := by rw [pack, dif_neg h]
/-- What is written behind the first clear: the rest, the table, the code that who reads knows as the next one, whether no code stands behind the last clear. -/
def enc : Nat → List UInt8 → Tab → Nat → Bool → List Nat
  | 0, _, _, rd, _ => cbits 257 (width rd)
  | k + 1, b, T, rd, fst =>
    if b = [] then cbits 257 (width rd)
    else
      let p := best b T (1, ((b.getD 0 0).toNat : Int))
      let rd' := if fst then rd else min (rd + 1) 4096
      cbits p.2.toNat (width rd) ++
        (if p.1 < b.length then
          (if 258 + T.length = 4095 then cbits 256 (width rd') ++ enc k (b.drop p.1) [] 258 true
          else enc k (b.drop p.1) (T ++ [(b.take (p.1 + 1), ((258 + T.length : Nat) : Int))]) rd' false)
        else enc k (b.drop p.1) T rd' false)
def lzw (b : List UInt8) : List UInt8 := pack (cbits 256 9 ++ enc (b.length + 1) b [] 258 true)
end Go.Cl.Lz
