/-
  LZW, writing: bits behind one another, and filled up, are the bits packed.
-/
import Derived.Test.YtoddiggebjbnnaaLzwW
namespace Go.Cl.Lz
def wone' (p : List UInt8 × List Nat) (b : Nat) : List UInt8 × List Nat := if p.2.length = 7 then (p.1 ++ [byte8 (p.2 ++ [b])], []) else (p.1, p.2 ++ [b])
theorem byte8_take {l : List Nat} : byte8 (l.take 8) = byte8 l := by
  have h : ∀ i, i < 8 → (l.take 8).getD i 0 = l.getD i 0 := fun i hi => by
    rw [List.getD_eq_getElem?_getD, List.getD_eq_getElem?_getD, List.getElem?_take, if_pos hi]
  unfold byte8
  rw [h 0 (by omega), h 1 (by omega), h 2 (by omega), h 3 (by omega), h 4 (by omega), h 5 (by omega), h 6 (by omega), h 7 (by omega)]
theorem pack_full {l : List Nat} (h : l.length = 8) (r : List Nat) : pack (l ++ r) = byte8 l :: pack r := by
  have hne : l ++ r ≠ [] := by intro e; have := congrArg List.length e; rw [List.length_append, List.length_nil] at this; omega
  rw [pack_cons hne]
  have e1 : byte8 (l ++ r) = byte8 l := by rw [← byte8_take (l := l ++ r), ← h, List.take_left]
  have e2 : (l ++ r).drop 8 = r := by rw [← h, List.drop_left]
  rw [e1, e2]
/-- What has been written, and what is begun, and what comes. -/
theorem wones_pack : ∀ (L : List Nat) (p : List UInt8 × List Nat), p.2.length ≤ 7 → (L.foldl wone' p).1 ++ pack (L.foldl wone' p).2 = p.1 ++ pack (p.2 ++ L) ∧ (L.foldl wone' p).2.length ≤ 7
  | [], p, h => ⟨by simp, h⟩
  | b :: L, p, h => by
    rw [List.foldl_cons]
    unfold wone'
    by_cases q : p.2.length = 7
    · rw [if_pos q]
      obtain ⟨g1, g2⟩ := wones_pack L (p.1 ++ [byte8 (p.2 ++ [b])], []) (by simp)
      refine ⟨?_, g2⟩
      unfold wone' at g1
      rw [g1]
      have e : p.2 ++ b :: L = (p.2 ++ [b]) ++ L := by simp
      show (p.1 ++ [byte8 (p.2 ++ [b])]) ++ pack ([] ++ L) = p.1 ++ pack (p.2 ++ b :: L)
      rw [e, pack_full (l := p.2 ++ [b]) (by rw [List.length_append, q]; rfl), List.nil_append, List.append_assoc]
      rfl
    · rw [if_neg q]
      obtain ⟨g1, g2⟩ := wones_pack L (p.1, p.2 ++ [b]) (by simp; omega)
      refine ⟨?_, g2⟩
      unfold wone' at g1
      rw [g1]
      simp
theorem getD_zeros (B : List Nat) (k i : Nat) : (B ++ List.replicate k 0).getD i 0 = B.getD i 0 := by
  rw [List.getD_eq_getElem?_getD, List.getD_eq_getElem?_getD]
  by_cases h : i < B.length
  · rw [List.getElem?_append_left h]
  · rw [List.getElem?_append_right (by omega), List.getElem?_eq_none (l := B) (by omega), List.getElem?_replicate]
    split <;> rfl
/-- Filled up with noughts a byte that was begun is the same. -/
theorem byte8_zeros (B : List Nat) (k : Nat) : byte8 (B ++ List.replicate k 0) = byte8 B := by
  unfold byte8
  simp only [getD_zeros]
theorem pack_begun {B : List Nat} (h : B ≠ []) (h7 : B.length ≤ 8) : pack B = [byte8 B] := by
  rw [pack_cons h, List.drop_eq_nil_of_le (by omega), pack_nil]
end Go.Cl.Lz
