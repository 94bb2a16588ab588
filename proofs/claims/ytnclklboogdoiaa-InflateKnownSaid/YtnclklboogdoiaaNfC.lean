/-
  The reference's codes are the canonical ones.
-/
import Derived.Test.YtnclklboogdoiaaFixY
import Derived.Test.YtnclklboogdoiaaNfP
namespace Go.Cl.Nf
open Go.Cl.Sto Go.Cl.Fx
def Le15 (C : List Nat) : Prop := ∀ i, C.getD i 0 ≤ 15
theorem sumC_app (A B : List Nat) : sumC (A ++ B) = sumC A + sumC B := by
  induction A with
  | nil => simp [sumC]
  | cons a r ih => simp only [List.cons_append, sumC, ih]; omega
theorem manyC_app (A B : List Nat) : manyC (A ++ B) = manyC A + manyC B := by
  induction A with
  | nil => simp [manyC]
  | cons a r ih => simp only [List.cons_append, manyC, ih]; omega
theorem sumC_le : ∀ C : List Nat, sumC C ≤ 32768 * C.length
  | [] => Nat.le_refl _
  | a :: r => by
    have := sumC_le r
    have h : 2 ^ (15 - a) ≤ 2 ^ 15 := Nat.pow_le_pow_right (by omega) (by omega)
    have h2 : (2 : Nat) ^ 15 = 32768 := by decide
    simp only [sumC, List.length_cons]
    split <;> omega
theorem manyC_le : ∀ C : List Nat, manyC C ≤ C.length
  | [] => Nat.le_refl _
  | a :: r => by
    have := manyC_le r
    simp only [manyC, List.length_cons]
    split <;> omega
theorem takeL_next {C : List Nat} {i : Nat} (h : i < C.length) : C.take (i + 1) = C.take i ++ [C.getD i 0] := by
  rw [List.take_add_one, List.getElem?_eq_getElem h, List.getD_eq_getElem?_getD, List.getElem?_eq_getElem h]; rfl
theorem sumC_next {C : List Nat} {i : Nat} (h : i < C.length) : sumC (C.take (i + 1)) = sumC (C.take i) + if 0 < C.getD i 0 then 2 ^ (15 - C.getD i 0) else 0 := by
  rw [takeL_next h, sumC_app]; simp [sumC]
theorem manyC_next {C : List Nat} {i : Nat} (h : i < C.length) : manyC (C.take (i + 1)) = manyC (C.take i) + if 0 < C.getD i 0 then 1 else 0 := by
  rw [takeL_next h, manyC_app]; simp [manyC]
theorem fixedL_le : Le15 fixedL := by
  intro i
  by_cases h : i < 288
  · have : fixedL.getD i 0 = (symC i).2 := by simp [fixedL, List.getD_eq_getElem?_getD, List.getElem?_map, List.getElem?_range h]
    rw [this]; have := symC_snd i; omega
  · rw [List.getD_eq_getElem?_getD, List.getElem?_eq_none (by simp [fixedL]; omega)]; exact Nat.zero_le _
theorem fixedD_le : Le15 fixedD := by
  intro i
  by_cases h : i < 32
  · have key : ∀ i, i < 32 → fixedD.getD i 0 ≤ 15 := by decide
    exact key i h
  · rw [List.getD_eq_getElem?_getD, List.getElem?_eq_none (by simp [fixedD]; omega)]; exact Nat.zero_le _
end Go.Cl.Nf
