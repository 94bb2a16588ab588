/-
  The reference's codes are the canonical ones.
-/
import Derived.Test.YtnclklboogdoiaaFixY
import Derived.Test.YtnclklboogdoiaaNfP
namespace Go.Cl.Nf
open Go.Cl.Sto Go.Cl.Fx
theorem rowC_is (C : List Nat) (l : Nat) : ∀ (f i : Nat) (o : List Nat) (n : Nat), i + f = C.length → o.length = C.length →
    (rowC C l f i o n).2 + (C.take i).count l = n + C.count l ∧ ∀ j, j < C.length → (rowC C l f i o n).1.getD j 0 = if i ≤ j ∧ C.getD j 0 = l then n + (C.take j).count l - (C.take i).count l else o.getD j 0
  | 0, i, o, n, h, ho => by
    have : i = C.length := by omega
    subst this
    refine ⟨by simp [rowC], fun j hj => ?_⟩
    rw [if_neg (by omega)]; rfl
  | f + 1, i, o, n, h, ho => by
    have hi : i < C.length := by omega
    have hc := take_countS (n := l) hi
    unfold rowC
    by_cases c : C.getD i 0 = l
    · rw [if_pos c] at hc ⊢
      obtain ⟨h1, h2⟩ := rowC_is C l f (i + 1) (o.set i n) (n + 1) (by omega) (by simpa using ho)
      refine ⟨by omega, fun j hj => ?_⟩
      rw [h2 j hj]
      by_cases e : j = i
      · subst e
        rw [if_neg (by omega), if_pos ⟨Nat.le_refl _, c⟩, List.getD_eq_getElem?_getD, List.getElem?_set_self (by omega)]
        show n = _
        omega
      · by_cases e2 : i + 1 ≤ j ∧ C.getD j 0 = l
        · have := count_mono C l e2.1
          rw [if_pos e2, if_pos ⟨by omega, e2.2⟩]; omega
        · rw [if_neg e2, if_neg (fun q => e2 ⟨by omega, q.2⟩), List.getD_eq_getElem?_getD, List.getElem?_set_ne (by omega), List.getD_eq_getElem?_getD]
    · rw [if_neg c] at hc ⊢
      obtain ⟨h1, h2⟩ := rowC_is C l f (i + 1) o n (by omega) ho
      refine ⟨by omega, fun j hj => ?_⟩
      rw [h2 j hj]
      by_cases e : j = i
      · subst e
        rw [if_neg (by omega), if_neg (fun q => c q.2)]
      · by_cases e2 : i + 1 ≤ j ∧ C.getD j 0 = l
        · rw [if_pos e2, if_pos ⟨by omega, e2.2⟩]; omega
        · rw [if_neg e2, if_neg (fun q => e2 ⟨by omega, q.2⟩)]
theorem tabC_is (C : List Nat) : ∀ (f l : Nat) (o : List Nat) (n : Nat), l + f = 16 → 1 ≤ l → o.length = C.length → n = fst C (l - 1) + cn C (l - 1) →
    ∀ j, j < C.length → (tabC C f l o n).getD j 0 = if l ≤ C.getD j 0 ∧ C.getD j 0 ≤ 15 then fst C (C.getD j 0) + (C.take j).count (C.getD j 0) else o.getD j 0
  | 0, l, o, n, h, h1, ho, hn, j, hj => by
    rw [if_neg (by omega)]; rfl
  | f + 1, l, o, n, h, h1, ho, hn, j, hj => by
    obtain ⟨k1, k2⟩ := rowC_is C l C.length 0 o (2 * n) (by omega) ho
    have e : 2 * n = fst C l := by
      obtain ⟨m, rfl⟩ : ∃ m, l = m + 1 := ⟨l - 1, by omega⟩
      rw [hn]; rfl
    have ecn : cn C l = C.count l := if_neg (by omega)
    rw [List.take_zero, List.count_nil] at k1
    unfold tabC
    rw [tabC_is C f (l + 1) _ _ (by omega) (by omega) (by rw [rowC_len]; exact ho) (by rw [Nat.add_sub_cancel, ecn, ← e]; omega) j hj, k2 j hj]
    by_cases c : C.getD j 0 = l
    · rw [if_neg (by omega), if_pos ⟨Nat.zero_le _, c⟩, if_pos (by omega), c, e, List.take_zero, List.count_nil]; rfl
    · by_cases c2 : l + 1 ≤ C.getD j 0 ∧ C.getD j 0 ≤ 15
      · rw [if_pos c2, if_pos (by omega)]
      · rw [if_neg c2, if_neg (fun q => c q.2), if_neg (by omega)]
def KOk (C K : List Nat) : Prop := K.length = C.length ∧ ∀ i, i < C.length → 1 ≤ C.getD i 0 → C.getD i 0 ≤ 15 → K.getD i 0 = fst C (C.getD i 0) + (C.take i).count (C.getD i 0)
theorem codesC_len (C : List Nat) : (codesC C).length = C.length := by
  unfold codesC
  have : ∀ (f l : Nat) (o : List Nat) (n : Nat), (tabC C f l o n).length = o.length := by
    intro f
    induction f with
    | zero => intro l o n; rfl
    | succ f ih => intro l o n; unfold tabC; rw [ih, rowC_len]
  rw [this]; simp
theorem codesC_ok (C : List Nat) : KOk C (codesC C) := ⟨codesC_len C, fun i hi h1 h2 => by
  unfold codesC
  rw [tabC_is C 15 1 (List.replicate C.length 0) 0 rfl (Nat.le_refl _) (by simp) rfl i hi, if_pos ⟨h1, h2⟩]⟩
def Le15 (C : List Nat) : Prop := ∀ i, C.getD i 0 ≤ 15
theorem sumC_app (A B : List Nat) : sumC (A ++ B) = sumC A + sumC B := by
  induction A with
  | nil => simp [sumC]
  | cons a r ih => simp only [List.cons_append, sumC, ih]; omega
theorem manyC_app (A B : List Nat) : manyC (A ++ B) = manyC A + manyC B := by
  induction A with
  | nil => simp [manyC]
  | cons a r ih => simp only [List.cons_append, manyC, ih]; omega
theorem sumC_le : ∀ C : List Nat, sumC C ≤ 32768 * C.length
  | [] => Nat.le_refl _
  | a :: r => by
    have := sumC_le r
    have h : 2 ^ (15 - a) ≤ 2 ^ 15 := Nat.pow_le_pow_right (by omega) (by omega)
    have h2 : (2 : Nat) ^ 15 = 32768 := by decide
    simp only [sumC, List.length_cons]
    split <;> omega
theorem manyC_le : ∀ C : List Nat, manyC C ≤ C.length
  | [] => Nat.le_refl _
  | a :: r => by
    have := manyC_le r
    simp only [manyC, List.length_cons]
    split <;> omega
theorem takeL_next {C : List Nat} {i : Nat} (h : i < C.length) : C.take (i + 1) = C.take i ++ [C.getD i 0] := by
  rw [List.take_add_one, List.getElem?_eq_getElem h, List.getD_eq_getElem?_getD, List.getElem?_eq_getElem h]; rfl
theorem sumC_next {C : List Nat} {i : Nat} (h : i < C.length) : sumC (C.take (i + 1)) = sumC (C.take i) + if 0 < C.getD i 0 then 2 ^ (15 - C.getD i 0) else 0 := by
  rw [takeL_next h, sumC_app]; simp [sumC]
theorem manyC_next {C : List Nat} {i : Nat} (h : i < C.length) : manyC (C.take (i + 1)) = manyC (C.take i) + if 0 < C.getD i 0 then 1 else 0 := by
  rw [takeL_next h, manyC_app]; simp [manyC]
theorem fixedL_le : Le15 fixedL := by
  intro i
  by_cases h : i < 288
  · have : fixedL.getD i 0 = (symC i).2 := by simp [fixedL, List.getD_eq_getElem?_getD, List.getElem?_map, List.getElem?_range h]
    rw [this]; have := symC_snd i; omega
  · rw [List.getD_eq_getElem?_getD, List.getElem?_eq_none (by simp [fixedL]; omega)]; exact Nat.zero_le _
theorem fixedD_le : Le15 fixedD := by
  intro i
  by_cases h : i < 32
  · have key : ∀ i, i < 32 → fixedD.getD i 0 ≤ 15 := by decide
    exact key i h
  · rw [List.getD_eq_getElem?_getD, List.getElem?_eq_none (by simp [fixedD]; omega)]; exact Nat.zero_le _
end Go.Cl.Nf
