/-
  A row that comes again and again, by the fixed codes: how many bits.
-/
import Derived.Test.YtdebapkgofddiaaFixP
namespace Go.Cl.Fx
open Go.Cl.Rw Go.Cl.Sto
/-- A piece again and again, so many bytes. -/
def per (P : List UInt8) (k : Nat) : List UInt8 := (List.range k).map fun i => P.getD (i % P.length) 0
theorem per_length (P : List UInt8) (k : Nat) : (per P k).length = k := by simp [per]
theorem per_getD {P : List UInt8} {k i : Nat} (h : i < k) : (per P k).getD i 0 = P.getD (i % P.length) 0 := by
  simp [per, List.getD_eq_getElem?_getD, List.getElem?_map, List.getElem?_range h]
theorem comm_all {l : List UInt8} {a d : Nat} (h : ∀ i, a + i < l.length → l.getD (a + i - d) 0 = l.getD (a + i) 0) : ∀ f n, a + n ≤ l.length → comm l a d n f = min (n + f) (l.length - a)
  | 0, n, hn => by simp only [comm]; omega
  | f + 1, n, hn => by
    unfold comm
    split
    · rename_i c
      rw [comm_all h f (n + 1) (by omega)]; omega
    · rename_i c
      by_cases e : a + n < l.length
      · exact absurd ⟨e, h n e⟩ c
      · omega
theorem best_per {P : List UInt8} {k a : Nat} (h1 : 1 ≤ P.length) (h64 : P.length ≤ 64) (ha : P.length ≤ a) (hk : a ≤ k) : (best (per P k) a (far a)).1 = min 258 (k - a) := by
  have hl := per_length P k
  have hc : com (per P k) a P.length = min 258 (k - a) := by
    unfold com
    rw [comm_all (fun i hi => by
      rw [hl] at hi
      rw [per_getD (by omega), per_getD hi]
      congr 1
      have : a + i = a + i - P.length + P.length := by omega
      conv => rhs; rw [this, Nat.add_mod_right]) 258 0 (by omega), hl]
  have h2 := best_ge (per P k) a (far a) P.length h1 (by unfold far; omega)
  rw [hc] at h2
  rcases best_is (per P k) a (far a) with e | ⟨k1, k2, k3⟩
  · rw [e] at h2 ⊢
    have h2 : min 258 (k - a) ≤ 0 := h2
    show 0 = _
    omega
  · have k4 := com_le (per P k) a (best (per P k) a (far a)).2
    have k5 := com_in (l := per P k) (a := a) (best (per P k) a (far a)).2 (by omega)
    rw [← k3] at k4 k5
    omega
theorem bits2 {P : List UInt8} {k : Nat} (h1 : 1 ≤ P.length) (h64 : P.length ≤ 64) : ∀ (j a : Nat) (p : List UInt8 × Nat), k ≤ a + j → P.length ≤ a → a ≤ k → (fixA (per P k) a p).2 ≤ p.2 + 17 * ((k - a) / 258) + (if k - a = 0 then 0 else if k - a = 1 then 9 else 22)
  | 0, a, p, h, ha, hk => by rw [fixA_end _ p (by rw [per_length]; omega)]; omega
  | j + 1, a, p, h, ha, hk => by
    by_cases c : a < k
    · have hb := best_per h1 h64 ha hk
      rw [fixA_step _ p (by rw [per_length]; exact c)]
      have hgt := stepA_gt (per P k) a
      have hle := stepA_le (per P k) (a := a) (by rw [per_length]; exact c)
      rw [per_length] at hle
      have ih := bits2 h1 h64 j (stepA (per P k) a) (stepP (per P k) a p) (by omega) (by omega) hle
      by_cases c3 : k - a < 3
      · have e1 : stepA (per P k) a = a + 1 := by unfold stepA; rw [if_pos (by omega)]
        have e2 : (stepP (per P k) a p).2 ≤ p.2 + 9 := by
          unfold stepP; rw [if_pos (by omega), symP_snd]
          have := symC_snd ((per P k).getD a 0).toNat; omega
        rw [e1] at ih ⊢
        have : k - a = 1 ∨ k - a = 2 := by omega
        rcases this with e | e
        · rw [show k - (a + 1) = 0 by omega] at ih
          rw [e]; simp at ih ⊢; omega
        · rw [show k - (a + 1) = 1 by omega] at ih
          rw [e]; simp at ih ⊢; omega
      · have hn : ¬ (best (per P k) a (far a)).1 < 3 := by omega
        have hf := best_far hn
        have e1 : stepA (per P k) a = a + min 258 (k - a) := by unfold stepA; rw [if_neg hn, hb]
        have e2 : stepP (per P k) a p = againP p (min 258 (k - a)) (best (per P k) a (far a)).2 := by unfold stepP; rw [if_neg hn, hb]
        rw [e1, e2] at ih ⊢
        by_cases c258 : 258 ≤ k - a
        · rw [Nat.min_eq_left c258] at ih ⊢
          have hd := dst_same hf.2.2.1 hf.2.2.2.1
          have e3 : (againP p 258 (best (per P k) a (far a)).2).2 ≤ p.2 + 17 := by
            rw [againP_snd]
            have : (symC (lenC 258).1).2 = 8 ∧ (lenC 258).2.2 = 0 := by decide
            omega
          have e4 : (k - (a + 258)) / 258 + 1 = (k - a) / 258 := by
            rw [show k - a = (k - (a + 258)) + 258 by omega, Nat.add_div_right _ (by omega)]
          rw [if_neg (by omega), if_neg (by omega)]
          split at ih
          · omega
          · split at ih <;> omega
        · rw [Nat.min_eq_right (by omega)] at ih ⊢
          have e3 := againP_le p (n := k - a) (by omega) (by omega) hf.2.2.1 hf.2.2.2.1
          rw [show k - (a + (k - a)) = 0 by omega] at ih
          rw [if_neg (by omega), if_neg (by omega)]
          simp at ih
          omega
    · rw [fixA_end _ p (by rw [per_length]; omega)]; omega
theorem bits1 {P : List UInt8} {k : Nat} (h1 : 1 ≤ P.length) (h64 : P.length ≤ 64) : ∀ (j a : Nat) (p : List UInt8 × Nat), P.length ≤ a + j → a ≤ k → (fixA (per P k) a p).2 ≤ p.2 + 9 * (P.length - a) + 35 + 17 * (k / 258)
  | 0, a, p, h, hk => by
    have := bits2 h1 h64 k a p (by omega) (by omega) hk
    have hm : (k - a) / 258 ≤ k / 258 := Nat.div_le_div_right (by omega)
    split at this
    · omega
    · split at this <;> omega
  | j + 1, a, p, h, hk => by
    by_cases ca : P.length ≤ a
    · have := bits2 h1 h64 k a p (by omega) ca hk
      have hm : (k - a) / 258 ≤ k / 258 := Nat.div_le_div_right (by omega)
      split at this
      · omega
      · split at this <;> omega
    · by_cases c : a < k
      · rw [fixA_step _ p (by rw [per_length]; exact c)]
        have hgt := stepA_gt (per P k) a
        have hle := stepA_le (per P k) (a := a) (by rw [per_length]; exact c)
        rw [per_length] at hle
        by_cases c3 : (best (per P k) a (far a)).1 < 3
        · have ih := bits1 h1 h64 j (stepA (per P k) a) (stepP (per P k) a p) (by omega) hle
          have e1 : stepA (per P k) a = a + 1 := by unfold stepA; rw [if_pos c3]
          have e2 : (stepP (per P k) a p).2 ≤ p.2 + 9 := by
            unfold stepP; rw [if_pos c3, symP_snd]
            have := symC_snd ((per P k).getD a 0).toNat; omega
          rw [e1] at ih ⊢
          omega
        · have hf := best_far c3
          have e1 : a + 3 ≤ stepA (per P k) a := by unfold stepA; rw [if_neg c3]; omega
          have e2 : (stepP (per P k) a p).2 ≤ p.2 + 22 := by
            unfold stepP; rw [if_neg c3]
            exact againP_le p hf.1 hf.2.1 hf.2.2.1 hf.2.2.2.1
          by_cases cm : stepA (per P k) a < P.length
          · have ih := bits1 h1 h64 j (stepA (per P k) a) (stepP (per P k) a p) (by omega) hle
            omega
          · have := bits2 h1 h64 k (stepA (per P k) a) (stepP (per P k) a p) (by omega) (by omega) hle
            have hm : (k - stepA (per P k) a) / 258 ≤ k / 258 := Nat.div_le_div_right (by omega)
            split at this
            · omega
            · split at this <;> omega
      · rw [fixA_end _ p (by rw [per_length]; omega)]; omega
theorem fixed_per {P : List UInt8} (k : Nat) (h1 : 1 ≤ P.length) (h64 : P.length ≤ 64) : (fixed (per P k)).length ≤ 2 * P.length + 5 + 4 * (k / 258 + 1) := by
  have h := bits1 h1 h64 P.length 0 headP (by omega) (Nat.zero_le k)
  have hok := fixP_ok (per P k)
  have e : (fixP (per P k)).2 = (fixA (per P k) 0 headP).2 + 7 := by rw [fixP_eq, symP_snd]; rfl
  have h2 := headP_ok.2
  have h3 := hok.1.2
  unfold fixed
  omega
end Go.Cl.Fx
