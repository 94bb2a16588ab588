/-
  Deflate by the fixed codes: the plain law.
-/
import Derived.Test.YtnclklboogdoiaaRowP
import Derived.Test.YtnclklboogdoiaaStoP
namespace Go.Cl.Fx
open Go.Cl.Rw Go.Cl.Sto
def codeP (p : List UInt8 × Nat) (n : Nat) : Nat → List UInt8 × Nat
  | 0 => p
  | w + 1 => codeP (rput p ((n : Int).fdiv (2 ^ w)) 1) n w
theorem codeP_snd (n : Nat) : ∀ (w : Nat) (p : List UInt8 × Nat), (codeP p n w).2 = p.2 + w
  | 0, p => rfl
  | w + 1, p => by
    unfold codeP
    rw [codeP_snd n w, rput_snd]; omega
theorem codeP_ok (n : Nat) : ∀ (w : Nat) (p : List UInt8 × Nat), Ok p → Ok (codeP p n w)
  | 0, p, h => h
  | w + 1, p, h => by
    unfold codeP
    exact codeP_ok n w _ (rput_ok h 1)
def symC (s : Nat) : Nat × Nat := if s < 144 then (48 + s, 8) else if s < 256 then (256 + s, 9) else if s < 280 then (s - 256, 7) else (s - 88, 8)
def symP (p : List UInt8 × Nat) (s : Nat) : List UInt8 × Nat := codeP p (symC s).1 (symC s).2
theorem symC_snd (s : Nat) : 7 ≤ (symC s).2 ∧ (symC s).2 ≤ 9 := by
  unfold symC
  split
  · simp
  · split
    · simp
    · split <;> simp
def gb : Nat → Nat → Nat → Nat
  | 0, _, _ => 0
  | f + 1, n, g => if n < 2 * g then 0 else gb f (n / 2) g + 1
def graded (n g : Nat) : Nat × Nat × Nat := ((gb 16 n g + 1) * g + n / 2 ^ gb 16 n g - g, n % 2 ^ gb 16 n g, gb 16 n g)
def lenC (n : Nat) : Nat × Nat × Nat := if n = 258 then (285, 0, 0) else (257 + (graded (n - 3) 4).1, (graded (n - 3) 4).2)
def dstC (n : Nat) : Nat × Nat × Nat := graded (n - 1) 2
def lenD (n : Nat) : Nat → Nat × Nat × Nat
  | 0 => (n + 254, 0, 0)
  | k + 1 => if (4 + k % 4) * 2 ^ ((4 + k) / 4) + 3 ≤ n then (265 + k, n - ((4 + k % 4) * 2 ^ ((4 + k) / 4) + 3), (4 + k) / 4) else lenD n k
def dstD (n : Nat) : Nat → Nat × Nat × Nat
  | 0 => (n - 1, 0, 0)
  | k + 1 => if (2 + k % 2) * 2 ^ ((4 + k) / 2 - 1) + 1 ≤ n then (4 + k, n - ((2 + k % 2) * 2 ^ ((4 + k) / 2 - 1) + 1), (4 + k) / 2 - 1) else dstD n k
def lenAll : Nat → Bool
  | 0 => true
  | n + 1 => decide (lenD (n + 3) 20 = lenC (n + 3)) && decide ((lenC (n + 3)).1 ≤ 284 ∧ 257 ≤ (lenC (n + 3)).1 ∧ (lenC (n + 3)).2.2 ≤ 5 ∧ (lenC (n + 3)).2.1 < 2 ^ (lenC (n + 3)).2.2) && lenAll n
theorem lenAll_at : ∀ {m : Nat}, lenAll m = true → ∀ n, n < m → lenD (n + 3) 20 = lenC (n + 3) ∧ (lenC (n + 3)).1 ≤ 284 ∧ 257 ≤ (lenC (n + 3)).1 ∧ (lenC (n + 3)).2.2 ≤ 5 ∧ (lenC (n + 3)).2.1 < 2 ^ (lenC (n + 3)).2.2
  | m + 1, h, n, hn => by
    simp only [lenAll, Bool.and_eq_true, decide_eq_true_eq] at h
    by_cases e : n = m
    · subst e; exact ⟨h.1.1, h.1.2⟩
    · exact lenAll_at h.2 n (by omega)
theorem len_same {n : Nat} (h3 : 3 ≤ n) (h : n < 258) : lenD n 20 = lenC n ∧ (lenC n).1 ≤ 284 ∧ 257 ≤ (lenC n).1 ∧ (lenC n).2.2 ≤ 5 ∧ (lenC n).2.1 < 2 ^ (lenC n).2.2 := by
  have := lenAll_at (m := 255) (by decide +kernel) (n - 3) (by omega)
  rw [show n - 3 + 3 = n by omega] at this
  exact this
def dstAll : Nat → Bool
  | 0 => true
  | n + 1 => decide (dstD (n + 1) 26 = dstC (n + 1)) && decide ((dstC (n + 1)).1 ≤ 29 ∧ (dstC (n + 1)).2.2 ≤ 4 ∧ (dstC (n + 1)).2.1 < 2 ^ (dstC (n + 1)).2.2) && dstAll n
theorem dstAll_at : ∀ {m : Nat}, dstAll m = true → ∀ n, n < m → dstD (n + 1) 26 = dstC (n + 1) ∧ (dstC (n + 1)).1 ≤ 29 ∧ (dstC (n + 1)).2.2 ≤ 4 ∧ (dstC (n + 1)).2.1 < 2 ^ (dstC (n + 1)).2.2
  | m + 1, h, n, hn => by
    simp only [dstAll, Bool.and_eq_true, decide_eq_true_eq] at h
    by_cases e : n = m
    · subst e; exact ⟨h.1.1, h.1.2⟩
    · exact dstAll_at h.2 n (by omega)
theorem dst_same {n : Nat} (h1 : 1 ≤ n) (h : n ≤ 64) : dstD n 26 = dstC n ∧ (dstC n).1 ≤ 29 ∧ (dstC n).2.2 ≤ 4 ∧ (dstC n).2.1 < 2 ^ (dstC n).2.2 := by
  have := dstAll_at (m := 64) (by decide +kernel) (n - 1) (by omega)
  rw [show n - 1 + 1 = n by omega] at this
  exact this
def comm (l : List UInt8) (a d : Nat) : Nat → Nat → Nat
  | n, 0 => n
  | n, f + 1 => if a + n < l.length ∧ l.getD (a + n - d) 0 = l.getD (a + n) 0 then comm l a d (n + 1) f else n
def com (l : List UInt8) (a d : Nat) : Nat := comm l a d 0 258
theorem comm_le (l : List UInt8) (a d : Nat) : ∀ f n, n ≤ comm l a d n f ∧ comm l a d n f ≤ n + f
  | 0, n => by simp [comm]
  | f + 1, n => by
    unfold comm
    split
    · have := comm_le l a d f (n + 1); omega
    · omega
theorem comm_in (l : List UInt8) (a d : Nat) : ∀ f n, a + n ≤ l.length → a + comm l a d n f ≤ l.length
  | 0, n, h => by simpa [comm] using h
  | f + 1, n, h => by
    unfold comm
    split
    · rename_i c; exact comm_in l a d f (n + 1) (by omega)
    · exact h
theorem com_le (l : List UInt8) (a d : Nat) : com l a d ≤ 258 := by have := (comm_le l a d 258 0).2; unfold com; omega
theorem com_in {l : List UInt8} {a : Nat} (d : Nat) (h : a ≤ l.length) : a + com l a d ≤ l.length := comm_in l a d 258 0 h
theorem comm_eq (l : List UInt8) (a d : Nat) : ∀ f n, (∀ i, i < n → l.getD (a + i - d) 0 = l.getD (a + i) 0) → ∀ i, i < comm l a d n f → l.getD (a + i - d) 0 = l.getD (a + i) 0
  | 0, n, h => by simpa [comm] using h
  | f + 1, n, h => by
    unfold comm
    split
    · rename_i c
      refine comm_eq l a d f (n + 1) (fun i hi => ?_)
      by_cases e : i = n
      · subst e; exact c.2
      · exact h i (by omega)
    · exact h
theorem com_eq (l : List UInt8) (a d : Nat) : ∀ i, i < com l a d → l.getD (a + i - d) 0 = l.getD (a + i) 0 := comm_eq l a d 258 0 (fun i h => absurd h (Nat.not_lt_zero i))
def best (l : List UInt8) (a : Nat) : Nat → Nat × Nat
  | 0 => (0, 0)
  | k + 1 => if (best l a k).1 < com l a (k + 1) then (com l a (k + 1), k + 1) else best l a k
theorem best_is (l : List UInt8) (a : Nat) : ∀ k, (best l a k = (0, 0)) ∨ (1 ≤ (best l a k).2 ∧ (best l a k).2 ≤ k ∧ (best l a k).1 = com l a (best l a k).2)
  | 0 => .inl rfl
  | k + 1 => by
    unfold best
    split
    · exact .inr ⟨by simp, Nat.le_refl _, rfl⟩
    · rcases best_is l a k with h | ⟨h1, h2, h3⟩
      · exact .inl h
      · exact .inr ⟨h1, by omega, h3⟩
theorem best_le (l : List UInt8) (a k : Nat) : (best l a k).1 ≤ 258 ∧ (best l a k).2 ≤ k := by
  rcases best_is l a k with h | ⟨h1, h2, h3⟩
  · rw [h]; simp
  · exact ⟨by rw [h3]; exact com_le .., h2⟩
def putE (p : List UInt8 × Nat) (x w : Nat) : List UInt8 × Nat := rput p (x : Int) w
def againP (p : List UInt8 × Nat) (n d : Nat) : List UInt8 × Nat := putE (codeP (putE (symP p (lenC n).1) (lenC n).2.1 (lenC n).2.2) (dstC d).1 5) (dstC d).2.1 (dstC d).2.2
def far (a : Nat) : Nat := min a 64
def stepA (l : List UInt8) (a : Nat) : Nat := if (best l a (far a)).1 < 3 then a + 1 else a + (best l a (far a)).1
def stepP (l : List UInt8) (a : Nat) (p : List UInt8 × Nat) : List UInt8 × Nat := if (best l a (far a)).1 < 3 then symP p (l.getD a 0).toNat else againP p (best l a (far a)).1 (best l a (far a)).2
def fixN (l : List UInt8) : Nat → Nat → List UInt8 × Nat → List UInt8 × Nat
  | 0, _, p => p
  | f + 1, a, p => if a < l.length then fixN l f (stepA l a) (stepP l a p) else p
def headP : List UInt8 × Nat := rput ([], 0) 3 3
def fixP (l : List UInt8) : List UInt8 × Nat := symP (fixN l (l.length + 1) 0 headP) 256
def fixed (l : List UInt8) : List UInt8 := (fixP l).1
theorem stepA_gt (l : List UInt8) (a : Nat) : a < stepA l a := by unfold stepA; split <;> omega
theorem stepA_le (l : List UInt8) {a : Nat} (h : a < l.length) : stepA l a ≤ l.length := by
  unfold stepA
  split
  · omega
  · rename_i c
    rcases best_is l a (far a) with e | ⟨h1, h2, h3⟩
    · rw [e] at c; simp at c
    · rw [h3]; exact com_in _ (by omega)
theorem best_far {l : List UInt8} {a : Nat} (c : ¬ (best l a (far a)).1 < 3) : 3 ≤ (best l a (far a)).1 ∧ (best l a (far a)).1 ≤ 258 ∧ 1 ≤ (best l a (far a)).2 ∧ (best l a (far a)).2 ≤ 64 ∧ (best l a (far a)).2 ≤ a ∧ (best l a (far a)).1 = com l a (best l a (far a)).2 := by
  rcases best_is l a (far a) with e | ⟨h1, h2, h3⟩
  · rw [e] at c; simp at c
  · have := best_le l a (far a)
    unfold far at *
    exact ⟨by omega, by omega, h1, by omega, by omega, h3⟩
theorem len_small {n : Nat} (h3 : 3 ≤ n) (h : n ≤ 258) : (lenC n).1 ≤ 285 ∧ 257 ≤ (lenC n).1 ∧ (lenC n).2.2 ≤ 5 ∧ (lenC n).2.1 < 2 ^ (lenC n).2.2 := by
  by_cases e : n = 258
  · subst e; decide
  · have := len_same h3 (by omega); omega
theorem symP_snd (p : List UInt8 × Nat) (s : Nat) : (symP p s).2 = p.2 + (symC s).2 := codeP_snd ..
theorem symP_ok {p : List UInt8 × Nat} (h : Ok p) (s : Nat) : Ok (symP p s) := codeP_ok _ _ _ h
theorem putE_snd (p : List UInt8 × Nat) (x w : Nat) : (putE p x w).2 = p.2 + w := rput_snd ..
theorem againP_snd (p : List UInt8 × Nat) (n d : Nat) : (againP p n d).2 = p.2 + (symC (lenC n).1).2 + (lenC n).2.2 + 5 + (dstC d).2.2 := by
  unfold againP
  rw [putE_snd, codeP_snd, putE_snd, symP_snd]
theorem symC_len {s : Nat} (h : 257 ≤ s) : (symC s).2 ≤ 8 := by
  unfold symC
  rw [if_neg (by omega), if_neg (by omega)]
  split <;> simp
theorem againP_le (p : List UInt8 × Nat) {n d : Nat} (h3 : 3 ≤ n) (h : n ≤ 258) (hd : 1 ≤ d) (hd2 : d ≤ 64) : (againP p n d).2 ≤ p.2 + 22 := by
  have h1 := len_small h3 h
  have h2 := symC_len h1.2.1
  have h4 := dst_same hd hd2
  rw [againP_snd]; omega
theorem stepP_le (l : List UInt8) (a : Nat) (p : List UInt8 × Nat) : (stepP l a p).2 + 9 * a ≤ p.2 + 9 * stepA l a := by
  unfold stepP stepA
  split
  · have := symC_snd (l.getD a 0).toNat
    rw [symP_snd]; omega
  · rename_i c
    have h := best_far c
    have := againP_le p h.1 h.2.1 h.2.2.1 h.2.2.2.1
    omega
theorem fixN_end (l : List UInt8) {f a : Nat} (p : List UInt8 × Nat) (h : l.length ≤ a) : fixN l f a p = p := by
  cases f with
  | zero => rfl
  | succ f => unfold fixN; rw [if_neg (by omega)]
theorem fixN_step (l : List UInt8) {f a : Nat} (p : List UInt8 × Nat) (h : a < l.length) : fixN l (f + 1) a p = fixN l f (stepA l a) (stepP l a p) := by rw [fixN, if_pos h]
theorem fixN_more (l : List UInt8) : ∀ (f g a : Nat) (p : List UInt8 × Nat), l.length ≤ a + f → l.length ≤ a + g → fixN l f a p = fixN l g a p
  | 0, g, a, p, h, _ => by rw [fixN_end l p (by omega), fixN_end l p (by omega)]
  | f + 1, 0, a, p, _, h => by rw [fixN_end l p (by omega), fixN_end l p (by omega)]
  | f + 1, g + 1, a, p, h1, h2 => by
    by_cases c : a < l.length
    · rw [fixN_step l p c, fixN_step l p c]
      have := stepA_gt l a
      exact fixN_more l f g _ _ (by omega) (by omega)
    · rw [fixN_end l p (by omega), fixN_end l p (by omega)]
def fixA (l : List UInt8) (a : Nat) (p : List UInt8 × Nat) : List UInt8 × Nat := fixN l (l.length - a) a p
theorem fixA_end (l : List UInt8) {a : Nat} (p : List UInt8 × Nat) (h : l.length ≤ a) : fixA l a p = p := fixN_end l p h
theorem fixA_step (l : List UInt8) {a : Nat} (p : List UInt8 × Nat) (h : a < l.length) : fixA l a p = fixA l (stepA l a) (stepP l a p) := by
  unfold fixA
  obtain ⟨f, hf⟩ : ∃ f, l.length - a = f + 1 := ⟨l.length - a - 1, by omega⟩
  have := stepA_gt l a
  rw [hf, fixN_step l p h, fixN_more l f (l.length - stepA l a) _ _ (by omega) (by omega)]
theorem fixP_eq (l : List UInt8) : fixP l = symP (fixA l 0 headP) 256 := by
  unfold fixP fixA
  rw [fixN_more l (l.length + 1) (l.length - 0) 0 _ (by omega) (by omega)]
theorem fixA_ok (l : List UInt8) : ∀ (k a : Nat) (p : List UInt8 × Nat), l.length ≤ a + k → a ≤ l.length → Ok p → Ok (fixA l a p) ∧ (fixA l a p).2 + 9 * a ≤ p.2 + 9 * l.length
  | 0, a, p, h, h2, hp => by rw [fixA_end l p (by omega)]; exact ⟨hp, by omega⟩
  | k + 1, a, p, h, h2, hp => by
    by_cases c : a < l.length
    · rw [fixA_step l p c]
      have h3 := stepA_gt l a
      have h4 := stepA_le l c
      have hok : Ok (stepP l a p) := by
        unfold stepP
        split
        · exact symP_ok hp _
        · exact rput_ok (codeP_ok _ _ _ (rput_ok (symP_ok hp _) _)) _
      have := fixA_ok l k _ _ (by omega) h4 hok
      have h5 := stepP_le l a p
      exact ⟨this.1, by omega⟩
    · rw [fixA_end l p (by omega)]; exact ⟨hp, by omega⟩
theorem headP_ok : Ok headP ∧ headP.2 = 3 := ⟨rput_ok ⟨Nat.le_refl _, by decide⟩ 3, rfl⟩
theorem fixP_ok (l : List UInt8) : Ok (fixP l) ∧ (fixP l).2 ≤ 10 + 9 * l.length := by
  rw [fixP_eq]
  have h := fixA_ok l l.length 0 headP (by omega) (by omega) headP_ok.1
  have h2 := headP_ok.2
  refine ⟨symP_ok h.1 _, ?_⟩
  rw [symP_snd]
  have : (symC 256).2 = 7 := rfl
  omega
theorem fixed_length (l : List UInt8) : (fixed l).length ≤ 3 + 2 * l.length := by
  have := fixP_ok l
  unfold fixed
  have h := this.1.2
  omega
end Go.Cl.Fx
