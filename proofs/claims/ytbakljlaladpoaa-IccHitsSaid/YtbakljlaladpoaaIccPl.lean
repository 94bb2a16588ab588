/-
  Profiles, plain: what Make makes.
-/
import Derived.Test.YtbakljlaladpoaaBigP
namespace Go.Cl.Icc
def nought : List UInt8 × Int × Int := ([], 0, 0)
/-- A size, filled up to whole fours. -/
def pad (n : Int) : Nat := (n.toNat + 3) / 4 * 4
def bodyTo (T : List (List UInt8 × Int × Int)) : Nat → Nat
  | 0 => 0
  | i + 1 => bodyTo T i + pad (T.getD i nought).2.2
def rowAt (T : List (List UInt8 × Int × Int)) (i : Nat) : List UInt8 := (T.getD i nought).1 ++ (be 4 (132 + 12 * T.length + bodyTo T i) ++ be 4 (T.getD i nought).2.2.toNat)
def rowsTo (T : List (List UInt8 × Int × Int)) : Nat → List UInt8
  | 0 => []
  | i + 1 => rowsTo T i ++ rowAt T i
/-- May the tag stand in its place? -/
def okMk (T : List (List UInt8 × Int × Int)) (i : Nat) : Prop := (T.getD i nought).1.length = 4 ∧ 0 ≤ (T.getD i nought).2.2 ∧ (T.getD i nought).2.2 ≤ 65535 ∧ ((T.take i).any fun u => decide (u.1 = (T.getD i nought).1)) = false
instance (T : List (List UInt8 × Int × Int)) (i : Nat) : Decidable (okMk T i) := by unfold okMk; infer_instance
def headM (total : Nat) (sp : List UInt8) : List UInt8 := be 4 total ++ ([0, 0, 0, 0, 2, 0, 0, 0, 109, 110, 116, 114] ++ (sp ++ ([88, 89, 90, 32] ++ (List.replicate 12 0 ++ ([97, 99, 115, 112] ++ List.replicate 88 0)))))
def bytesM (sp : List UInt8) (T : List (List UInt8 × Int × Int)) : List UInt8 := headM (132 + (rowsTo T T.length).length + bodyTo T T.length) sp ++ (be 4 T.length ++ (rowsTo T T.length ++ List.replicate (bodyTo T T.length) 0))
theorem pad_le {n : Int} (h : n ≤ 65535) : pad n ≤ 65536 := by unfold pad; omega
theorem pad_le2 (n : Int) : n.toNat ≤ pad n := by unfold pad; omega
theorem bodyTo_le {T : List (List UInt8 × Int × Int)} : ∀ {i : Nat}, (∀ j, j < i → okMk T j) → bodyTo T i ≤ i * 65536 := by
  intro i
  induction i with
  | zero => intro _; simp [bodyTo]
  | succ i ih =>
    intro h
    have h1 := ih fun j hj => h j (by omega)
    have h2 := pad_le (h i (by omega)).2.2.1
    simp only [bodyTo]; omega
theorem rowAt_length {T : List (List UInt8 × Int × Int)} {i : Nat} (h : okMk T i) : (rowAt T i).length = 12 := by
  unfold rowAt; rw [List.length_append, List.length_append, be_length, be_length, h.1]
theorem rowsTo_length {T : List (List UInt8 × Int × Int)} : ∀ {i : Nat}, (∀ j, j < i → okMk T j) → (rowsTo T i).length = 12 * i := by
  intro i
  induction i with
  | zero => intro _; rfl
  | succ i ih =>
    intro h
    simp only [rowsTo, List.length_append]
    rw [ih fun j hj => h j (by omega), rowAt_length (h i (by omega))]; omega
theorem headM_length {total : Nat} {sp : List UInt8} (h : sp.length = 4) : (headM total sp).length = 128 := by
  simp [headM, be_length, h]
def overB (l : List UInt8) (off : Nat) (b : List UInt8) : List UInt8 := l.take off ++ b ++ l.drop (off + b.length)
theorem headM_over {total : Nat} {sp : List UInt8} (h : sp.length = 4) : overB (overB ((overB (List.replicate 128 0) 0 (be 4 total)).set 8 2) 12 ((109 :: 110 :: 116 :: 114 :: sp) ++ [88, 89, 90, 32])) 36 [97, 99, 115, 112] = headM total sp := by
  obtain ⟨a, b, c, d, rfl⟩ : ∃ a b c d, sp = [a, b, c, d] := by
    match sp, h with
    | [a, b, c, d], _ => exact ⟨a, b, c, d, rfl⟩
  unfold headM
  rw [be_four]
  rfl
theorem headM_over2 {total : Nat} {sp : List UInt8} (h : sp.length = 4) : overB (overB (overB (overB ((overB (List.replicate 128 0) 0 (be 4 total)).set 8 2) 12 [109, 110, 116, 114]) 16 sp) 20 [88, 89, 90, 32]) 36 [97, 99, 115, 112] = headM total sp := by
  obtain ⟨a, b, c, d, rfl⟩ : ∃ a b c d, sp = [a, b, c, d] := by
    match sp, h with
    | [a, b, c, d], _ => exact ⟨a, b, c, d, rfl⟩
  unfold headM
  rw [be_four]
  rfl
end Go.Cl.Icc
