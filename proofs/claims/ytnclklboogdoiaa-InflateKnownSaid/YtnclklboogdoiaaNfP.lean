/-
  What blocks say: the plain law of inflate.
-/
import Derived.Test.YtnclklboogdoiaaFixB
namespace Go.Cl.Nf
open Go.Cl.Sto Go.Cl.Fx
def takeE (D : List UInt8) (p n : Nat) : Except Nat Nat := if p + n ≤ 8 * D.length then .ok (bitsN D p n) else .error 2
theorem takeE_ok {D : List UInt8} {p n : Nat} (h : p + n ≤ 8 * D.length) : takeE D p n = .ok (bitsN D p n) := if_pos h
theorem takeE_no {D : List UInt8} {p n : Nat} (h : ¬ p + n ≤ 8 * D.length) : takeE D p n = .error 2 := if_neg h
def cn (C : List Nat) (n : Nat) : Nat := if n = 0 then 0 else C.count n
def fst (C : List Nat) : Nat → Nat
  | 0 => 0
  | n + 1 => 2 * (fst C n + cn C n)
def idxA (C : List Nat) (n : Nat) : Nat → List Nat
  | 0 => []
  | k + 1 => idxA C n k ++ if C.getD k 0 = n then [k] else []
def idx (C : List Nat) (n : Nat) : List Nat := idxA C n C.length
def flatA (C : List Nat) : Nat → List Nat
  | 0 => []
  | n + 1 => flatA C n ++ idx C (n + 1)
theorem take_countS {C : List Nat} {k n : Nat} (h : k < C.length) : (C.take (k + 1)).count n = (C.take k).count n + if C.getD k 0 = n then 1 else 0 := by
  rw [List.take_add_one, List.getElem?_eq_getElem h, List.count_append, List.getD_eq_getElem?_getD, List.getElem?_eq_getElem h]
  simp [List.count_singleton, beq_iff_eq]
theorem idxA_length (C : List Nat) (n : Nat) : ∀ k, k ≤ C.length → (idxA C n k).length = (C.take k).count n
  | 0, _ => by simp [idxA]
  | k + 1, h => by
    rw [idxA, List.length_append, idxA_length C n k (by omega), take_countS (by omega)]
    split <;> simp
theorem idx_length (C : List Nat) (n : Nat) : (idx C n).length = C.count n := by
  unfold idx; rw [idxA_length C n _ (Nat.le_refl _), List.take_length]
theorem idxA_at (C : List Nat) (n : Nat) : ∀ k, k ≤ C.length → ∀ r, r < (idxA C n k).length → (idxA C n k).getD r 0 < k ∧ C.getD ((idxA C n k).getD r 0) 0 = n ∧ (C.take ((idxA C n k).getD r 0)).count n = r
  | 0, _, r, hr => by simp [idxA] at hr
  | k + 1, h, r, hr => by
    have hl := idxA_length C n k (by omega)
    by_cases c : r < (idxA C n k).length
    · obtain ⟨h1, h2, h3⟩ := idxA_at C n k (by omega) r c
      have e : (idxA C n (k + 1)).getD r 0 = (idxA C n k).getD r 0 := by
        rw [idxA, List.getD_eq_getElem?_getD, List.getElem?_append_left c, List.getD_eq_getElem?_getD]
      rw [e]
      exact ⟨by omega, h2, h3⟩
    · rw [idxA, List.length_append] at hr
      by_cases c2 : C.getD k 0 = n
      · rw [if_pos c2] at hr
        have hr2 : r = (idxA C n k).length := by simp at hr; omega
        have e : (idxA C n (k + 1)).getD r 0 = k := by
          rw [idxA, if_pos c2, hr2, List.getD_eq_getElem?_getD, List.getElem?_append_right (Nat.le_refl _), Nat.sub_self]; rfl
        rw [e]
        exact ⟨by omega, c2, by omega⟩
      · rw [if_neg c2] at hr
        simp at hr; omega
theorem idx_at (C : List Nat) (n r : Nat) (hr : r < C.count n) : (idx C n).getD r 0 < C.length ∧ C.getD ((idx C n).getD r 0) 0 = n ∧ (C.take ((idx C n).getD r 0)).count n = r :=
  idxA_at C n C.length (Nat.le_refl _) r (by have := idx_length C n; unfold idx at this; omega)
theorem count_mono (C : List Nat) (n : Nat) : ∀ {i j}, i ≤ j → (C.take i).count n ≤ (C.take j).count n := by
  intro i j h
  exact List.Sublist.count_le _ ((List.take_prefix_take_left h).sublist)
theorem rank_inj {C : List Nat} {n i j : Nat} (hi : i < C.length) (hj : j < C.length) (h1 : C.getD i 0 = n) (h2 : C.getD j 0 = n) (h : (C.take i).count n = (C.take j).count n) : i = j := by
  have key : ∀ {i j}, i < C.length → C.getD i 0 = n → i < j → (C.take i).count n < (C.take j).count n := by
    intro i j hi h1 hij
    have := count_mono C n (show i + 1 ≤ j by omega)
    rw [take_countS hi, if_pos h1] at this
    omega
  by_cases c : i < j
  · have := key hi h1 c; omega
  · by_cases c2 : j < i
    · have := key hj h2 c2; omega
    · omega
theorem rank_lt {C : List Nat} {n i : Nat} (hi : i < C.length) (h1 : C.getD i 0 = n) : (C.take i).count n < C.count n := by
  have := count_mono C n (show i + 1 ≤ C.length by omega)
  rw [take_countS hi, if_pos h1, List.take_length] at this
  omega
def symAt (D : List UInt8) (C : List Nat) (p n : Nat) : Prop := fst C n ≤ hi D p n ∧ hi D p n < fst C n + C.count n
instance (D : List UInt8) (C : List Nat) (p n : Nat) : Decidable (symAt D C p n) := by unfold symAt; infer_instance
def nth (D : List UInt8) (C : List Nat) (p n : Nat) : Nat := (idx C n).getD (hi D p n - fst C n) 0
def symF (D : List UInt8) (C : List Nat) (p : Nat) : Nat → Nat → Except Nat (Nat × Nat)
  | 0, _ => .error 4
  | k + 1, n => if p + (n + 1) ≤ 8 * D.length then (if symAt D C p (n + 1) then .ok (nth D C p (n + 1), p + (n + 1)) else symF D C p k (n + 1)) else .error 2
def sym (D : List UInt8) (C : List Nat) (p : Nat) : Except Nat (Nat × Nat) := symF D C p 15 0
theorem nth_at {D : List UInt8} {C : List Nat} {p n : Nat} (h : symAt D C p n) : nth D C p n < C.length ∧ C.getD (nth D C p n) 0 = n ∧ fst C n + (C.take (nth D C p n)).count n = hi D p n := by
  obtain ⟨h1, h2⟩ := h
  obtain ⟨k1, k2, k3⟩ := idx_at C n (hi D p n - fst C n) (by omega)
  exact ⟨k1, k2, by show fst C n + (C.take ((idx C n).getD (hi D p n - fst C n) 0)).count n = _; rw [k3]; omega⟩
theorem nth_only {D : List UInt8} {C : List Nat} {p n i : Nat} (hi1 : i < C.length) (h1 : C.getD i 0 = n) (h2 : fst C n + (C.take i).count n = hi D p n) : symAt D C p n ∧ nth D C p n = i := by
  have h3 := rank_lt hi1 h1
  have h : symAt D C p n := ⟨by omega, by omega⟩
  obtain ⟨k1, k2, k3⟩ := nth_at h
  exact ⟨h, rank_inj k1 hi1 k2 h1 (by omega)⟩
theorem symF_le {D : List UInt8} {C : List Nat} {p : Nat} : ∀ {k n : Nat} {x q : Nat}, symF D C p k n = .ok (x, q) → p + n < q ∧ q ≤ 8 * D.length ∧ q ≤ p + n + k ∧ x < C.length
  | 0, n, x, q, h => by simp [symF] at h
  | k + 1, n, x, q, h => by
    unfold symF at h
    split at h
    · split at h
      · rename_i c1 c2
        injection h with h; injection h with h1 h2
        have := (nth_at c2).1
        omega
      · have := symF_le h; omega
    · cases h
theorem sym_le {D : List UInt8} {C : List Nat} {p x q : Nat} (h : sym D C p = .ok (x, q)) : p < q ∧ q ≤ 8 * D.length ∧ q ≤ p + 15 ∧ x < C.length := by
  have := symF_le h; omega
theorem symF_err {D : List UInt8} {C : List Nat} {p : Nat} : ∀ {k n e : Nat}, symF D C p k n = .error e → e = 2 ∨ e = 4
  | 0, n, e, h => by injection h with h; exact .inr h.symm
  | k + 1, n, e, h => by
    unfold symF at h
    split at h
    · split at h
      · cases h
      · exact symF_err h
    · injection h with h; exact .inl h.symm
def rep (M back : Nat) : Nat → List UInt8 → Except Nat (List UInt8)
  | 0, P => .ok P
  | n + 1, P => if M ≤ P.length then .error 7 else rep M back n (P ++ [P.getD (P.length - back) 0])
def stoF (D : List UInt8) (M : Nat) : Nat → Nat → List UInt8 → Except Nat (Nat × List UInt8)
  | 0, a, P => .ok (8 * a, P)
  | k + 1, a, P => if a < D.length then (if M ≤ P.length then .error 7 else stoF D M k (a + 1) (P ++ [D.getD a 0])) else .error 2
def storedX (D : List UInt8) (M p : Nat) (P : List UInt8) : Except Nat (Nat × List UInt8) :=
  if 8 * ((p + 7) / 8) + 32 ≤ 8 * D.length then
    if bitsN D (8 * ((p + 7) / 8)) 16 + bitsN D (8 * ((p + 7) / 8) + 16) 16 = 65535 then stoF D M (bitsN D (8 * ((p + 7) / 8)) 16) ((p + 7) / 8 + 4) P else .error 4
  else .error 2
def copyX (D : List UInt8) (M : Nat) (B : List Nat) (s p : Nat) (P : List UInt8) : Except Nat (Nat × List UInt8) :=
  if 285 < s then .error 4 else
  match takeE D p (lenW s) with
  | .error e => .error e
  | .ok x => match sym D B (p + lenW s) with
    | .error e => .error e
    | .ok (c, q) => if 30 ≤ c then .error 4 else match takeE D q (dstW c) with
      | .error e => .error e
      | .ok y => if P.length < dstOf c y then .error 4 else match rep M (dstOf c y) (lenOf s x) P with
        | .error e => .error e
        | .ok P' => .ok (q + dstW c, P')
def codedX (D : List UInt8) (M : Nat) (A B : List Nat) : Nat → Nat → List UInt8 → Except Nat (Nat × List UInt8)
  | 0, _, _ => .error 2
  | k + 1, p, P => match sym D A p with
    | .error e => .error e
    | .ok (s, q) => if s = 256 then .ok (q, P) else if s < 256 then (if M ≤ P.length then .error 7 else codedX D M A B k q (P ++ [UInt8.ofNat s])) else match copyX D M B s q P with
      | .error e => .error e
      | .ok (r, P') => codedX D M A B k r P'
def headX (D : List UInt8) (p : Nat) : Except Nat (Nat × Nat × Nat) :=
  match takeE D p 5 with
  | .error e => .error e
  | .ok n => if 29 < n then .error 4 else match takeE D (p + 5) 5 with
    | .error e => .error e
    | .ok d => if 29 < d then .error 4 else match takeE D (p + 10) 4 with
      | .error e => .error e
      | .ok k => .ok (n + 257, d + 1, k + 4)
def order : List Nat := [16, 17, 18, 0, 8, 7, 9, 6, 10, 5, 11, 4, 12, 3, 13, 2, 14, 1, 15]
def ownX (D : List UInt8) : List Nat → Nat → List Nat → Except Nat (List Nat × Nat)
  | [], p, o => .ok (o, p)
  | i :: r, p, o => match takeE D p 3 with
    | .error e => .error e
    | .ok x => ownX D r (p + 3) (o.set i x)
def sumC : List Nat → Nat
  | [] => 0
  | n :: r => (if 0 < n then 2 ^ (15 - n) else 0) + sumC r
def manyC : List Nat → Nat
  | [] => 0
  | n :: r => (if 0 < n then 1 else 0) + manyC r
def mayC (C : List Nat) : Prop := sumC C = 32768 ∨ (sumC C < 32768 ∧ manyC C ≤ 1)
instance (C : List Nat) : Decidable (mayC C) := by unfold mayC; infer_instance
def againX (D : List UInt8) (s p : Nat) (l : List Nat) : Except Nat (Nat × Nat × Nat) :=
  if s = 16 then (if l.length = 0 then .error 4 else match takeE D p 2 with | .error e => .error e | .ok n => .ok (l.getD (l.length - 1) 0, 3 + n, p + 2))
  else if s = 17 then (match takeE D p 3 with | .error e => .error e | .ok n => .ok (0, 3 + n, p + 3))
  else if s = 18 then (match takeE D p 7 with | .error e => .error e | .ok n => .ok (0, 11 + n, p + 7))
  else .ok (s, 1, p)
def lensX (D : List UInt8) (C : List Nat) (many : Nat) : Nat → Nat → List Nat → Except Nat (List Nat × Nat)
  | 0, _, _ => .error 2
  | k + 1, p, l => if many ≤ l.length then .ok (l, p) else match sym D C p with
    | .error e => .error e
    | .ok (s, q) => match againX D s q l with
      | .error e => .error e
      | .ok (x, n, r) => if many < l.length + n then .error 4 else lensX D C many k r (l ++ List.replicate n x)
def dynX (N : Nat) (D : List UInt8) (p : Nat) : Except Nat ((List Nat × List Nat) × Nat) :=
  match headX D p with
  | .error e => .error e
  | .ok (n, d, k) => match ownX D (order.take k) (p + 14) (List.replicate 19 0) with
    | .error e => .error e
    | .ok (o, q) => if mayC o then (match lensX D o (n + d) N q [] with
      | .error e => .error e
      | .ok (l, r) => if mayC (l.take n) ∧ mayC (l.drop n) ∧ l.getD 256 0 ≠ 0 then .ok ((l.take n, l.drop n), r) else .error 4) else .error 4
def fixedL : List Nat := (List.range 288).map fun s => (symC s).2
def fixedD : List Nat := List.replicate 32 5
def bodyX (N : Nat) (D : List UInt8) (M kind p : Nat) (P : List UInt8) : Except Nat (Nat × List UInt8) :=
  if kind = 0 then storedX D M p P
  else if kind = 1 then codedX D M fixedL fixedD N p P
  else if kind = 2 then (match dynX N D p with
    | .error e => .error e
    | .ok ((a, b), q) => codedX D M a b N q P)
  else .error 4
def blockX (N : Nat) (D : List UInt8) (M p : Nat) (P : List UInt8) : Except Nat (Nat × Nat × List UInt8) :=
  match takeE D p 1 with
  | .error e => .error e
  | .ok last => match takeE D (p + 1) 2 with
    | .error e => .error e
    | .ok kind => match bodyX N D M kind (p + 3) P with
      | .error e => .error e
      | .ok (q, P') => .ok (last, q, P')
def blocksX (N : Nat) (D : List UInt8) (M : Nat) : Nat → Nat → List UInt8 → Except Nat (Nat × List UInt8)
  | 0, _, _ => .error 2
  | k + 1, p, P => match blockX N D M p P with
    | .error e => .error e
    | .ok (last, q, P') => if last = 1 then .ok (q, P') else blocksX N D M k q P'
def inflX (N : Nat) (D : List UInt8) (M : Nat) : Except Nat (Nat × List UInt8) := blocksX N D M N 0 []
end Go.Cl.Nf
namespace Go.Cl.Nf
open Go.Cl.Sto Go.Cl.Fx
def Ext {α : Type} (x y : Except Nat α) : Prop := x = .error 2 ∨ x = y
theorem Ext.refl {α : Type} (x : Except Nat α) : Ext x x := .inr rfl
theorem Ext.bind {α β : Type} {x y : Except Nat α} (h : Ext x y) {f g : Except Nat α → Except Nat β} (he : ∀ e, f (.error e) = .error e) (hk : ∀ a, y = .ok a → Ext (f (.ok a)) (g (.ok a))) (hg : ∀ e, g (.error e) = .error e) : Ext (f x) (g y) := by
  rcases h with h | h
  · subst h; exact .inl (he 2)
  · subst h
    cases x with
    | error e => rw [he, hg]; exact Ext.refl _
    | ok a => exact hk a rfl
theorem bit_ext (D T : List UInt8) {k : Nat} (h : k < 8 * D.length) : bit (D ++ T) k = bit D k := by
  unfold bit
  rw [List.getD_eq_getElem?_getD, List.getElem?_append_left (by omega), List.getD_eq_getElem?_getD]
theorem bitsN_ext (D T : List UInt8) {p : Nat} : ∀ n, p + n ≤ 8 * D.length → bitsN (D ++ T) p n = bitsN D p n
  | 0, _ => rfl
  | n + 1, h => by simp only [bitsN]; rw [bitsN_ext D T n (by omega), bit_ext D T (by omega)]
theorem hi_ext (D T : List UInt8) {p : Nat} : ∀ n, p + n ≤ 8 * D.length → hi (D ++ T) p n = hi D p n
  | 0, _ => rfl
  | n + 1, h => by simp only [hi]; rw [hi_ext D T n (by omega), bit_ext D T (by omega)]
theorem takeE_ext (D T : List UInt8) (p n : Nat) : Ext (takeE D p n) (takeE (D ++ T) p n) := by
  by_cases h : p + n ≤ 8 * D.length
  · rw [takeE_ok h, takeE_ok (by rw [List.length_append]; omega), bitsN_ext D T n h]; exact Ext.refl _
  · rw [takeE_no h]; exact .inl rfl
theorem symF_ext (D T : List UInt8) (C : List Nat) (p : Nat) : ∀ k n, Ext (symF D C p k n) (symF (D ++ T) C p k n)
  | 0, n => Ext.refl _
  | k + 1, n => by
    unfold symF
    by_cases h : p + (n + 1) ≤ 8 * D.length
    · have e : symAt (D ++ T) C p (n + 1) = symAt D C p (n + 1) := by unfold symAt; rw [hi_ext D T _ h]
      have hT : p + (n + 1) ≤ 8 * (D ++ T).length := by rw [List.length_append]; omega
      rw [if_pos h, if_pos hT]
      by_cases c : symAt D C p (n + 1)
      · rw [if_pos c, if_pos (by rw [e]; exact c)]; unfold nth; rw [hi_ext D T _ h]; exact Ext.refl _
      · rw [if_neg c, if_neg (by rw [e]; exact c)]; exact symF_ext D T C p k (n + 1)
    · rw [if_neg h]; exact .inl rfl
theorem sym_ext (D T : List UInt8) (C : List Nat) (p : Nat) : Ext (sym D C p) (sym (D ++ T) C p) := symF_ext D T C p 15 0
theorem stoF_ext (D T : List UInt8) (M : Nat) : ∀ k a P, Ext (stoF D M k a P) (stoF (D ++ T) M k a P)
  | 0, a, P => Ext.refl _
  | k + 1, a, P => by
    unfold stoF
    by_cases h : a < D.length
    · have hT : a < (D ++ T).length := by rw [List.length_append]; omega
      rw [if_pos h, if_pos hT]
      have e : (D ++ T).getD a 0 = D.getD a 0 := by rw [List.getD_eq_getElem?_getD, List.getElem?_append_left h, List.getD_eq_getElem?_getD]
      rw [e]
      split
      · exact Ext.refl _
      · exact stoF_ext D T M k (a + 1) _
    · rw [if_neg h]; exact .inl rfl
theorem storedX_ext (D T : List UInt8) (M p : Nat) (P : List UInt8) : Ext (storedX D M p P) (storedX (D ++ T) M p P) := by
  unfold storedX
  by_cases h : 8 * ((p + 7) / 8) + 32 ≤ 8 * D.length
  · have hT : 8 * ((p + 7) / 8) + 32 ≤ 8 * (D ++ T).length := by rw [List.length_append]; omega
    rw [if_pos h, if_pos hT, bitsN_ext D T 16 (by omega), bitsN_ext D T 16 (by omega)]
    split
    · exact stoF_ext ..
    · exact Ext.refl _
  · rw [if_neg h]; exact .inl rfl
theorem copyX_ext (D T : List UInt8) (M : Nat) (B : List Nat) (s p : Nat) (P : List UInt8) : Ext (copyX D M B s p P) (copyX (D ++ T) M B s p P) := by
  unfold copyX
  split
  · exact Ext.refl _
  · rcases takeE_ext D T p (lenW s) with h | h
    · rw [h]; exact .inl rfl
    rw [← h]
    cases takeE D p (lenW s) with
    | error e => exact Ext.refl _
    | ok x =>
      dsimp only
      rcases sym_ext D T B (p + lenW s) with h | h
      · rw [h]; exact .inl rfl
      rw [← h]
      cases sym D B (p + lenW s) with
      | error e => exact Ext.refl _
      | ok c =>
        dsimp only
        split
        · exact Ext.refl _
        rcases takeE_ext D T c.2 (dstW c.1) with h | h
        · rw [h]; exact .inl rfl
        rw [← h]
        exact Ext.refl _
theorem codedX_ext (D T : List UInt8) (M : Nat) (A B : List Nat) : ∀ k p P, Ext (codedX D M A B k p P) (codedX (D ++ T) M A B k p P)
  | 0, p, P => Ext.refl _
  | k + 1, p, P => by
    unfold codedX
    rcases sym_ext D T A p with h | h
    · rw [h]; exact .inl rfl
    rw [← h]
    cases sym D A p with
    | error e => exact Ext.refl _
    | ok c =>
      dsimp only
      split
      · exact Ext.refl _
      split
      · split
        · exact Ext.refl _
        · exact codedX_ext D T M A B k _ _
      rcases copyX_ext D T M B c.1 c.2 P with h | h
      · rw [h]; exact .inl rfl
      rw [← h]
      cases copyX D M B c.1 c.2 P with
      | error e => exact Ext.refl _
      | ok c => exact codedX_ext D T M A B k _ _
theorem headX_ext (D T : List UInt8) (p : Nat) : Ext (headX D p) (headX (D ++ T) p) := by
  unfold headX
  rcases takeE_ext D T p 5 with h | h
  · rw [h]; exact .inl rfl
  rw [← h]
  cases takeE D p 5 with
  | error e => exact Ext.refl _
  | ok n =>
    dsimp only
    split
    · exact Ext.refl _
    rcases takeE_ext D T (p + 5) 5 with h | h
    · rw [h]; exact .inl rfl
    rw [← h]
    cases takeE D (p + 5) 5 with
    | error e => exact Ext.refl _
    | ok d =>
      dsimp only
      split
      · exact Ext.refl _
      rcases takeE_ext D T (p + 10) 4 with h | h
      · rw [h]; exact .inl rfl
      rw [← h]
      exact Ext.refl _
theorem ownX_ext (D T : List UInt8) : ∀ r p o, Ext (ownX D r p o) (ownX (D ++ T) r p o)
  | [], p, o => Ext.refl _
  | i :: r, p, o => by
    unfold ownX
    rcases takeE_ext D T p 3 with h | h
    · rw [h]; exact .inl rfl
    rw [← h]
    cases takeE D p 3 with
    | error e => exact Ext.refl _
    | ok x => exact ownX_ext D T r _ _
theorem againX_ext (D T : List UInt8) (s p : Nat) (l : List Nat) : Ext (againX D s p l) (againX (D ++ T) s p l) := by
  unfold againX
  split
  · split
    · exact Ext.refl _
    · rcases takeE_ext D T p 2 with h | h
      · rw [h]; exact .inl rfl
      · rw [← h]; exact Ext.refl _
  split
  · rcases takeE_ext D T p 3 with h | h
    · rw [h]; exact .inl rfl
    · rw [← h]; exact Ext.refl _
  split
  · rcases takeE_ext D T p 7 with h | h
    · rw [h]; exact .inl rfl
    · rw [← h]; exact Ext.refl _
  · exact Ext.refl _
theorem lensX_ext (D T : List UInt8) (C : List Nat) (many : Nat) : ∀ k p l, Ext (lensX D C many k p l) (lensX (D ++ T) C many k p l)
  | 0, p, l => Ext.refl _
  | k + 1, p, l => by
    unfold lensX
    split
    · exact Ext.refl _
    rcases sym_ext D T C p with h | h
    · rw [h]; exact .inl rfl
    rw [← h]
    cases sym D C p with
    | error e => exact Ext.refl _
    | ok c =>
      dsimp only
      rcases againX_ext D T c.1 c.2 l with h | h
      · rw [h]; exact .inl rfl
      rw [← h]
      cases againX D c.1 c.2 l with
      | error e => exact Ext.refl _
      | ok c =>
        dsimp only
        split
        · exact Ext.refl _
        · exact lensX_ext D T C many k _ _
theorem dynX_ext (N : Nat) (D T : List UInt8) (p : Nat) : Ext (dynX N D p) (dynX N (D ++ T) p) := by
  unfold dynX
  rcases headX_ext D T p with h | h
  · rw [h]; exact .inl rfl
  rw [← h]
  cases headX D p with
  | error e => exact Ext.refl _
  | ok c =>
    dsimp only
    rcases ownX_ext D T (order.take c.2.2) (p + 14) (List.replicate 19 0) with h | h
    · rw [h]; exact .inl rfl
    rw [← h]
    cases ownX D (order.take c.2.2) (p + 14) (List.replicate 19 0) with
    | error e => exact Ext.refl _
    | ok o =>
      dsimp only
      split
      · rcases lensX_ext D T o.1 (c.1 + c.2.1) N o.2 [] with h | h
        · rw [h]; exact .inl rfl
        · rw [← h]; exact Ext.refl _
      · exact Ext.refl _
theorem bodyX_ext (N : Nat) (D T : List UInt8) (M kind p : Nat) (P : List UInt8) : Ext (bodyX N D M kind p P) (bodyX N (D ++ T) M kind p P) := by
  unfold bodyX
  split
  · exact storedX_ext ..
  split
  · exact codedX_ext ..
  split
  · rcases dynX_ext N D T p with h | h
    · rw [h]; exact .inl rfl
    rw [← h]
    cases dynX N D p with
    | error e => exact Ext.refl _
    | ok c => exact codedX_ext ..
  · exact Ext.refl _
theorem blockX_ext (N : Nat) (D T : List UInt8) (M p : Nat) (P : List UInt8) : Ext (blockX N D M p P) (blockX N (D ++ T) M p P) := by
  unfold blockX
  rcases takeE_ext D T p 1 with h | h
  · rw [h]; exact .inl rfl
  rw [← h]
  cases takeE D p 1 with
  | error e => exact Ext.refl _
  | ok c =>
    dsimp only
    rcases takeE_ext D T (p + 1) 2 with h | h
    · rw [h]; exact .inl rfl
    rw [← h]
    cases takeE D (p + 1) 2 with
    | error e => exact Ext.refl _
    | ok d =>
      dsimp only
      rcases bodyX_ext N D T M d (p + 3) P with h | h
      · rw [h]; exact .inl rfl
      rw [← h]
      exact Ext.refl _
theorem blocksX_ext (N : Nat) (D T : List UInt8) (M : Nat) : ∀ k p P, Ext (blocksX N D M k p P) (blocksX N (D ++ T) M k p P)
  | 0, p, P => Ext.refl _
  | k + 1, p, P => by
    unfold blocksX
    rcases blockX_ext N D T M p P with h | h
    · rw [h]; exact .inl rfl
    rw [← h]
    cases blockX N D M p P with
    | error e => exact Ext.refl _
    | ok c =>
      dsimp only
      split
      · exact Ext.refl _
      · exact blocksX_ext N D T M k _ _
theorem inflX_ext (N : Nat) (D T : List UInt8) (M : Nat) : Ext (inflX N D M) (inflX N (D ++ T) M) := blocksX_ext N D T M N 0 []
theorem takeE_le {D : List UInt8} {p n x : Nat} (h : takeE D p n = .ok x) : p + n ≤ 8 * D.length ∧ x = bitsN D p n := by
  unfold takeE at h
  split at h
  · rename_i c; injection h with h; exact ⟨c, h.symm⟩
  · cases h
theorem rep_len {M back : Nat} : ∀ {n : Nat} {P P' : List UInt8}, rep M back n P = .ok P' → P.length ≤ M → P'.length ≤ M
  | 0, P, P', h, hp => by injection h with h; subst h; exact hp
  | n + 1, P, P', h, hp => by
    unfold rep at h
    split at h
    · cases h
    · rename_i c; exact rep_len h (by rw [List.length_append]; simp; omega)
theorem stoF_le {D : List UInt8} {M : Nat} : ∀ {k a : Nat} {P : List UInt8} {q : Nat} {P' : List UInt8}, stoF D M k a P = .ok (q, P') → a ≤ D.length → P.length ≤ M → 8 * a ≤ q ∧ q ≤ 8 * D.length ∧ P'.length ≤ M
  | 0, a, P, q, P', h, ha, hp => by injection h with h; injection h with h1 h2; subst h2; exact ⟨by omega, by omega, hp⟩
  | k + 1, a, P, q, P', h, ha, hp => by
    unfold stoF at h
    split at h
    · split at h
      · cases h
      · have := stoF_le h (by omega) (by rw [List.length_append]; simp; omega); omega
    · cases h
theorem storedX_le {D : List UInt8} {M p : Nat} {P : List UInt8} {q : Nat} {P' : List UInt8} (h : storedX D M p P = .ok (q, P')) (hp : P.length ≤ M) : p ≤ q ∧ q ≤ 8 * D.length ∧ P'.length ≤ M := by
  unfold storedX at h
  split at h
  · split at h
    · have := stoF_le h (by omega) hp; omega
    · cases h
  · cases h
theorem copyX_le {D : List UInt8} {M : Nat} {B : List Nat} {s p : Nat} {P : List UInt8} {q : Nat} {P' : List UInt8} (h : copyX D M B s p P = .ok (q, P')) (hp : P.length ≤ M) : p ≤ q ∧ q ≤ 8 * D.length ∧ P'.length ≤ M := by
  unfold copyX at h
  split at h
  · cases h
  cases h1 : takeE D p (lenW s) with
  | error e => rw [h1] at h; cases h
  | ok x =>
    rw [h1] at h
    dsimp only at h
    cases h2 : sym D B (p + lenW s) with
    | error e => rw [h2] at h; cases h
    | ok c =>
      rw [h2] at h
      dsimp only at h
      split at h
      · cases h
      cases h3 : takeE D c.2 (dstW c.1) with
      | error e => rw [h3] at h; cases h
      | ok y =>
        rw [h3] at h
        dsimp only at h
        split at h
        · cases h
        cases h4 : rep M (dstOf c.1 y) (lenOf s x) P with
        | error e => rw [h4] at h; cases h
        | ok P2 =>
          rw [h4] at h
          injection h with h; injection h with e1 e2
          subst e2
          have := sym_le h2
          have := takeE_le h3
          have := rep_len h4 hp
          omega
theorem codedX_le {D : List UInt8} {M : Nat} {A B : List Nat} : ∀ {k p : Nat} {P : List UInt8} {q : Nat} {P' : List UInt8}, codedX D M A B k p P = .ok (q, P') → P.length ≤ M → p ≤ q ∧ q ≤ 8 * D.length ∧ P'.length ≤ M
  | 0, p, P, q, P', h, hp => by cases h
  | k + 1, p, P, q, P', h, hp => by
    unfold codedX at h
    cases h1 : sym D A p with
    | error e => rw [h1] at h; cases h
    | ok c =>
      rw [h1] at h
      have hs := sym_le h1
      dsimp only at h
      split at h
      · injection h with h; injection h with e1 e2
        subst e2; exact ⟨by omega, by omega, hp⟩
      split at h
      · split at h
        · cases h
        · have := codedX_le h (by rw [List.length_append]; simp; omega); omega
      cases h2 : copyX D M B c.1 c.2 P with
      | error e => rw [h2] at h; cases h
      | ok c2 =>
        rw [h2] at h
        have := copyX_le h2 hp
        have := codedX_le h (by omega)
        omega
theorem bodyX_le {N : Nat} {D : List UInt8} {M kind p : Nat} {P : List UInt8} {q : Nat} {P' : List UInt8} (h : bodyX N D M kind p P = .ok (q, P')) (hp : P.length ≤ M) : q ≤ 8 * D.length ∧ P'.length ≤ M := by
  unfold bodyX at h
  split at h
  · exact (storedX_le h hp).2
  split at h
  · exact (codedX_le h hp).2
  split at h
  · cases h1 : dynX N D p with
    | error e => rw [h1] at h; cases h
    | ok c => rw [h1] at h; exact (codedX_le h hp).2
  · cases h
theorem blockX_le {N : Nat} {D : List UInt8} {M p : Nat} {P : List UInt8} {last q : Nat} {P' : List UInt8} (h : blockX N D M p P = .ok (last, q, P')) (hp : P.length ≤ M) : q ≤ 8 * D.length ∧ P'.length ≤ M ∧ last < 2 := by
  unfold blockX at h
  cases h1 : takeE D p 1 with
  | error e => rw [h1] at h; cases h
  | ok c =>
    rw [h1] at h
    dsimp only at h
    cases h2 : takeE D (p + 1) 2 with
    | error e => rw [h2] at h; cases h
    | ok d =>
      rw [h2] at h
      dsimp only at h
      cases h3 : bodyX N D M d (p + 3) P with
      | error e => rw [h3] at h; cases h
      | ok r =>
        rw [h3] at h
        injection h with h; injection h with e0 h; injection h with e1 e2
        have := bodyX_le h3 hp
        have hb := (takeE_le h1).2
        have hl := bitsN_lt D p 1
        subst e0 e1 e2
        exact ⟨this.1, this.2, by omega⟩
theorem blocksX_le {N : Nat} {D : List UInt8} {M : Nat} : ∀ {k p : Nat} {P : List UInt8} {q : Nat} {P' : List UInt8}, blocksX N D M k p P = .ok (q, P') → P.length ≤ M → q ≤ 8 * D.length ∧ P'.length ≤ M
  | 0, p, P, q, P', h, hp => by cases h
  | k + 1, p, P, q, P', h, hp => by
    unfold blocksX at h
    cases h1 : blockX N D M p P with
    | error e => rw [h1] at h; cases h
    | ok c =>
      rw [h1] at h
      have hb := blockX_le h1 hp
      dsimp only at h
      split at h
      · injection h with h; injection h with e1 e2
        subst e1 e2; exact ⟨hb.1, hb.2.1⟩
      · exact blocksX_le h hb.2.1
theorem inflX_le {N : Nat} {D : List UInt8} {M q : Nat} {P : List UInt8} (h : inflX N D M = .ok (q, P)) : q ≤ 8 * D.length ∧ P.length ≤ M := blocksX_le h (Nat.zero_le _)
theorem inflX_cut {N : Nat} {D T : List UInt8} {M q : Nat} {P : List UInt8} (h : inflX N (D ++ T) M = .ok (q, P)) (hq : 8 * D.length < q) : inflX N D M = .error 2 := by
  rcases inflX_ext N D T M with e | e
  · exact e
  · rw [h] at e
    have := inflX_le e
    omega
def takeV (D : List UInt8) (x : Except Nat Nat) (n : Nat) : Nat := match x with | .ok p => if p + n ≤ 8 * D.length then bitsN D p n else 0 | .error _ => 0
def takeS (D : List UInt8) (x : Except Nat Nat) (n : Nat) : Except Nat Nat := match x with | .ok p => if p + n ≤ 8 * D.length then .ok (p + n) else .error 2 | .error e => .error e
def badV : Except Nat Nat → Nat
  | .ok _ => 0
  | .error e => e
end Go.Cl.Nf
