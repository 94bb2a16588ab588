/-
  Bits that were written, read again: the plain law.
-/
import Derived.Test.YtnclklboogdoiaaFixP
namespace Go.Cl.Fx
open Go.Cl.Rw Go.Cl.Sto
theorem tb (z j : Nat) : z / 2 ^ j % 2 = (z.testBit j).toNat := by
  rw [Nat.testBit_eq_decide_div_mod_eq]
  have : z / 2 ^ j % 2 < 2 := Nat.mod_lt _ (by omega)
  generalize z / 2 ^ j % 2 = q at this
  have : q = 0 ∨ q = 1 := by omega
  rcases this with rfl | rfl <;> rfl
theorem bit_setb (y : UInt8) (x : Int) {k j : Nat} (hk : k < 8) : (setb y x k).toNat / 2 ^ j % 2 = if j = k ∧ x % 2 = 1 then 1 else y.toNat / 2 ^ j % 2 := by
  unfold setb
  have hb : (x % 2) = 0 ∨ (x % 2) = 1 := by omega
  rcases hb with hb | hb
  · rw [hb]
    have : (UInt8.ofNat ((0 : Int).toNat * 2 ^ k)) = 0 := by simp
    rw [this]
    simp
  · rw [hb]
    have hp : 2 ^ k < 256 := by
      have : 2 ^ k ≤ 2 ^ 7 := Nat.pow_le_pow_right (by omega) (by omega)
      have : (2 : Nat) ^ 7 = 128 := rfl
      omega
    have e : (UInt8.ofNat ((1 : Int).toNat * 2 ^ k)).toNat = 2 ^ k := by
      rw [UInt8.toNat_ofNat', show (1 : Int).toNat = 1 from rfl, Nat.one_mul, Nat.mod_eq_of_lt hp]
    rw [tb, tb, UInt8.toNat_or, e, Nat.testBit_or, Nat.testBit_two_pow]
    by_cases c : j = k
    · subst c; simp
    · have : ¬ k = j := fun h => c h.symm
      simp [c, this]
theorem getD_room (p : List UInt8 × Nat) (q : Nat) : (room p).getD q 0 = p.1.getD q 0 := by
  unfold room
  split
  · simp only [List.getD_eq_getElem?_getD]
    by_cases c : q < p.1.length
    · rw [List.getElem?_append_left c]
    · rw [List.getElem?_append_right (by omega), List.getElem?_eq_none (by omega : p.1.length ≤ q)]
      by_cases c2 : q - p.1.length = 0
      · rw [c2]; rfl
      · rw [List.getElem?_eq_none (by simp; omega)]
  · rfl
theorem rbit_bits {p : List UInt8 × Nat} (h : Ok p) (x : Int) (i : Nat) : bit (rbit p x).1 i = if i = p.2 ∧ x % 2 = 1 then 1 else bit p.1 i := by
  obtain ⟨h1, h2⟩ := room_len h
  unfold rbit bit
  have hs : ∀ v : UInt8, ((room p).set (p.2 / 8) v).getD (i / 8) 0 = if i / 8 = p.2 / 8 then v else p.1.getD (i / 8) 0 := by
    intro v
    by_cases c : i / 8 = p.2 / 8
    · rw [if_pos c, c, List.getD_eq_getElem?_getD, List.getElem?_set_self h1]; rfl
    · rw [if_neg c, ← getD_room, List.getD_eq_getElem?_getD, List.getElem?_set_ne (Ne.symm c), List.getD_eq_getElem?_getD]
  simp only [hs]
  by_cases c : i / 8 = p.2 / 8
  · rw [if_pos c, bit_setb _ _ (Nat.mod_lt _ (by omega)), getD_room, c]
    by_cases c2 : i = p.2
    · subst c2; simp
    · rw [if_neg (by omega), if_neg (by omega)]
  · rw [if_neg c, if_neg (by intro e; rw [e.1] at c; exact c rfl)]
def Zs (p : List UInt8 × Nat) : Prop := ∀ i, p.2 ≤ i → bit p.1 i = 0
structure Pre (p q : List UInt8 × Nat) : Prop where
  le : p.2 ≤ q.2
  bits : ∀ i, i < p.2 → bit q.1 i = bit p.1 i
theorem Pre.refl (p : List UInt8 × Nat) : Pre p p := ⟨Nat.le_refl _, fun _ _ => rfl⟩
theorem Pre.trans {p q r : List UInt8 × Nat} (h : Pre p q) (k : Pre q r) : Pre p r := ⟨Nat.le_trans h.le k.le, fun i hi => by rw [k.bits i (Nat.lt_of_lt_of_le hi h.le), h.bits i hi]⟩
structure Fine (p : List UInt8 × Nat) : Prop where
  ok : Ok p
  zs : Zs p
theorem rbit_fine {p : List UInt8 × Nat} (h : Fine p) (x : Int) : Fine (rbit p x) ∧ Pre p (rbit p x) ∧ bit (rbit p x).1 p.2 = (x % 2).toNat := by
  refine ⟨⟨rbit_ok h.ok, fun i hi => ?_⟩, ⟨by show p.2 ≤ p.2 + 1; omega, fun i hi => ?_⟩, ?_⟩
  · have hi : p.2 + 1 ≤ i := hi
    rw [rbit_bits h.ok, if_neg (by omega)]; exact h.zs i (by omega)
  · rw [rbit_bits h.ok, if_neg (by omega)]
  · rw [rbit_bits h.ok, h.zs p.2 (Nat.le_refl _)]
    have hb : (x % 2) = 0 ∨ (x % 2) = 1 := by omega
    rcases hb with hb | hb <;> simp [hb]
theorem rput_fine {p : List UInt8 × Nat} (h : Fine p) (x : Int) : ∀ w, Fine (rput p x w) ∧ Pre p (rput p x w) ∧ ∀ i, i < w → bit (rput p x w).1 (p.2 + i) = (x.fdiv (2 ^ i) % 2).toNat
  | 0 => ⟨h, Pre.refl p, fun i hi => absurd hi (Nat.not_lt_zero i)⟩
  | w + 1 => by
    obtain ⟨h1, h2, h3⟩ := rput_fine h x w
    obtain ⟨k1, k2, k3⟩ := rbit_fine h1 (x.fdiv (2 ^ w))
    have e : (rput p x w).2 = p.2 + w := rput_snd p x w
    refine ⟨k1, h2.trans k2, fun i hi => ?_⟩
    show bit (rbit (rput p x w) (x.fdiv (2 ^ w))).1 (p.2 + i) = _
    by_cases c : i = w
    · subst c; rw [← e, k3]
    · rw [k2.bits _ (by rw [e]; omega), h3 i (by omega)]
theorem natDiv (n i : Nat) : (((n : Int).fdiv (2 ^ i)) % 2).toNat = n / 2 ^ i % 2 := by
  rw [Int.fdiv_eq_ediv_of_nonneg _ (by exact Int.pow_nonneg (by omega))]
  have : (n : Int) / (2 : Int) ^ i = ((n / 2 ^ i : Nat) : Int) := by norm_cast
  rw [this]; omega
theorem bitsN_of {D : List UInt8} {a n : Nat} : ∀ w, (∀ i, i < w → bit D (a + i) = n / 2 ^ i % 2) → bitsN D a w = n % 2 ^ w
  | 0, _ => by simp [bitsN, Nat.mod_one]
  | w + 1, h => by
    simp only [bitsN]
    rw [bitsN_of w (fun i hi => h i (by omega)), h w (by omega), Nat.mod_pow_succ, Nat.mul_comm]
theorem putE_read {p : List UInt8 × Nat} (h : Fine p) (x w : Nat) {D : List UInt8} {nb : Nat} (hD : Pre (putE p x w) (D, nb)) : bitsN D p.2 w = x % 2 ^ w := by
  obtain ⟨h1, h2, h3⟩ := rput_fine h (x : Int) w
  refine bitsN_of w (fun i hi => ?_)
  have e : (rput p (x : Int) w).2 = p.2 + w := rput_snd ..
  have : bit D (p.2 + i) = bit (rput p (x : Int) w).1 (p.2 + i) := hD.bits _ (by show p.2 + i < (rput p (x : Int) w).2; rw [e]; omega)
  rw [this, h3 i hi, natDiv]
theorem putE_fine {p : List UInt8 × Nat} (h : Fine p) (x w : Nat) : Fine (putE p x w) ∧ Pre p (putE p x w) := ⟨(rput_fine h _ w).1, (rput_fine h _ w).2.1⟩
def hi (D : List UInt8) (a : Nat) : Nat → Nat
  | 0 => 0
  | k + 1 => 2 * hi D a k + bit D (a + k)
theorem codeP_fine {n : Nat} : ∀ (w : Nat) {p : List UInt8 × Nat}, Fine p → Fine (codeP p n w) ∧ Pre p (codeP p n w) ∧ ∀ i, i < w → bit (codeP p n w).1 (p.2 + i) = n / 2 ^ (w - 1 - i) % 2
  | 0, p, h => ⟨h, Pre.refl p, fun i hi => absurd hi (Nat.not_lt_zero i)⟩
  | w + 1, p, h => by
    obtain ⟨h1, h2, h3⟩ := rput_fine h ((n : Int).fdiv (2 ^ w)) 1
    obtain ⟨k1, k2, k3⟩ := codeP_fine (n := n) w h1
    have e : (rput p ((n : Int).fdiv (2 ^ w)) 1).2 = p.2 + 1 := rput_snd ..
    refine ⟨k1, h2.trans k2, fun i hi => ?_⟩
    show bit (codeP (rput p ((n : Int).fdiv (2 ^ w)) 1) n w).1 (p.2 + i) = _
    cases i with
    | zero =>
      rw [Nat.add_zero, k2.bits _ (by rw [e]; omega)]
      have := h3 0 (by omega)
      rw [Nat.add_zero, show ((n : Int).fdiv (2 ^ w)).fdiv (2 ^ 0) = (n : Int).fdiv (2 ^ w) by simp, natDiv] at this
      rw [this, show w + 1 - 1 - 0 = w by omega]
    | succ i =>
      have := k3 i (by omega)
      rw [e] at this
      rw [show p.2 + (i + 1) = p.2 + 1 + i by omega, this, show w + 1 - 1 - (i + 1) = w - 1 - i by omega]
theorem hi_of {D : List UInt8} {a n w : Nat} : ∀ k, k ≤ w → (∀ i, i < w → bit D (a + i) = n / 2 ^ (w - 1 - i) % 2) → hi D a k = n / 2 ^ (w - k) % 2 ^ k
  | 0, _, _ => by simp [hi, Nat.mod_one]
  | k + 1, hk, h => by
    simp only [hi]
    rw [hi_of k (by omega) h, h k (by omega), show w - 1 - k = w - (k + 1) by omega]
    have e : n / 2 ^ (w - k) = n / 2 ^ (w - (k + 1)) / 2 := by
      rw [Nat.div_div_eq_div_mul, ← Nat.pow_succ, show (w - (k + 1)).succ = w - k by omega]
    rw [e]
    generalize n / 2 ^ (w - (k + 1)) = q
    rw [Nat.pow_succ, Nat.mul_comm (2 ^ k) 2, Nat.mod_mul]
    omega
theorem codeP_read {p : List UInt8 × Nat} (h : Fine p) (n w : Nat) {D : List UInt8} {nb : Nat} (hD : Pre (codeP p n w) (D, nb)) {k : Nat} (hk : k ≤ w) : hi D p.2 k = n / 2 ^ (w - k) % 2 ^ k := by
  obtain ⟨h1, h2, h3⟩ := codeP_fine (n := n) w h
  refine hi_of k hk (fun i hi => ?_)
  have : bit D (p.2 + i) = bit (codeP p n w).1 (p.2 + i) := hD.bits _ (by show p.2 + i < (codeP p n w).2; rw [codeP_snd]; omega)
  rw [this, h3 i hi]
theorem symC_lt {s : Nat} (h : s < 288) : (symC s).1 < 2 ^ (symC s).2 := by
  unfold symC
  split
  · show 48 + s < 256; omega
  · split
    · show 256 + s < 512; omega
    · split
      · show s - 256 < 128; omega
      · show s - 88 < 256; omega
theorem symC_pre {s i k : Nat} (hs : s < 288) (hi : i < 288) (hk : k ≤ (symC s).2) (h2 : (symC i).2 = k) (h1 : (symC i).1 = (symC s).1 / 2 ^ ((symC s).2 - k) % 2 ^ k) : i = s := by
  unfold symC at *
  repeat' split at h2
  all_goals
    repeat' split at h1
    all_goals
      first
      | omega
      | (simp only at h1 h2 hk
         subst h2
         simp at h1 hk
         omega)
def lenOf (s x : Nat) : Nat := if s ≤ 264 then s - 254 else if s = 285 then 258 else (4 + (s - 265) % 4) * 2 ^ ((s - 261) / 4) + 3 + x
def lenW (s : Nat) : Nat := if s ≤ 264 ∨ s = 285 then 0 else (s - 261) / 4
def dstOf (c x : Nat) : Nat := if c ≤ 3 then c + 1 else (2 + c % 2) * 2 ^ (c / 2 - 1) + 1 + x
def dstW (c : Nat) : Nat := if c ≤ 3 then 0 else c / 2 - 1
def lenBack : Nat → Bool
  | 0 => true
  | n + 1 => decide (lenOf (lenC (n + 3)).1 (lenC (n + 3)).2.1 = n + 3 ∧ lenW (lenC (n + 3)).1 = (lenC (n + 3)).2.2) && lenBack n
theorem lenBack_at : ∀ {m : Nat}, lenBack m = true → ∀ n, n < m → lenOf (lenC (n + 3)).1 (lenC (n + 3)).2.1 = n + 3 ∧ lenW (lenC (n + 3)).1 = (lenC (n + 3)).2.2
  | m + 1, h, n, hn => by
    simp only [lenBack, Bool.and_eq_true, decide_eq_true_eq] at h
    by_cases e : n = m
    · subst e; exact h.1
    · exact lenBack_at h.2 n (by omega)
theorem len_back {n : Nat} (h3 : 3 ≤ n) (h : n ≤ 258) : lenOf (lenC n).1 (lenC n).2.1 = n ∧ lenW (lenC n).1 = (lenC n).2.2 := by
  have := lenBack_at (m := 256) (by decide +kernel) (n - 3) (by omega)
  rw [show n - 3 + 3 = n by omega] at this
  exact this
def dstBack : Nat → Bool
  | 0 => true
  | n + 1 => decide (dstOf (dstC (n + 1)).1 (dstC (n + 1)).2.1 = n + 1 ∧ dstW (dstC (n + 1)).1 = (dstC (n + 1)).2.2) && dstBack n
theorem dstBack_at : ∀ {m : Nat}, dstBack m = true → ∀ n, n < m → dstOf (dstC (n + 1)).1 (dstC (n + 1)).2.1 = n + 1 ∧ dstW (dstC (n + 1)).1 = (dstC (n + 1)).2.2
  | m + 1, h, n, hn => by
    simp only [dstBack, Bool.and_eq_true, decide_eq_true_eq] at h
    by_cases e : n = m
    · subst e; exact h.1
    · exact dstBack_at h.2 n (by omega)
theorem dst_back {n : Nat} (h1 : 1 ≤ n) (h : n ≤ 64) : dstOf (dstC n).1 (dstC n).2.1 = n ∧ dstW (dstC n).1 = (dstC n).2.2 := by
  have := dstBack_at (m := 64) (by decide +kernel) (n - 1) (by omega)
  rw [show n - 1 + 1 = n by omega] at this
  exact this
end Go.Cl.Fx
namespace Go.Cl.Fx
open Go.Cl.Rw Go.Cl.Sto
theorem symP_fine {p : List UInt8 × Nat} (h : Fine p) (s : Nat) : Fine (symP p s) ∧ Pre p (symP p s) := ⟨(codeP_fine _ h).1, (codeP_fine _ h).2.1⟩
theorem againP_fine {p : List UInt8 × Nat} (h : Fine p) (n d : Nat) : Fine (againP p n d) ∧ Pre p (againP p n d) := by
  obtain ⟨h1, k1⟩ := symP_fine h (lenC n).1
  obtain ⟨h2, k2⟩ := putE_fine h1 (lenC n).2.1 (lenC n).2.2
  obtain ⟨h3, k3, -⟩ := codeP_fine (n := (dstC d).1) 5 h2
  obtain ⟨h4, k4⟩ := putE_fine h3 (dstC d).2.1 (dstC d).2.2
  exact ⟨h4, ((k1.trans k2).trans k3).trans k4⟩
theorem stepP_fine (l : List UInt8) (a : Nat) {p : List UInt8 × Nat} (h : Fine p) : Fine (stepP l a p) ∧ Pre p (stepP l a p) := by
  unfold stepP
  split
  · exact symP_fine h _
  · exact againP_fine h _ _
theorem fixA_fine (l : List UInt8) : ∀ (k a : Nat) (p : List UInt8 × Nat), l.length ≤ a + k → Fine p → Fine (fixA l a p) ∧ Pre p (fixA l a p)
  | 0, a, p, h, hp => by rw [fixA_end l p (by omega)]; exact ⟨hp, Pre.refl p⟩
  | k + 1, a, p, h, hp => by
    by_cases c : a < l.length
    · rw [fixA_step l p c]
      have h3 := stepA_gt l a
      obtain ⟨h4, h5⟩ := stepP_fine l a hp
      obtain ⟨h6, h7⟩ := fixA_fine l k (stepA l a) (stepP l a p) (by omega) h4
      exact ⟨h6, h5.trans h7⟩
    · rw [fixA_end l p (by omega)]; exact ⟨hp, Pre.refl p⟩
theorem nil_fine : Fine ([], 0) := ⟨⟨Nat.le_refl _, by decide⟩, fun i _ => by simp [bit]⟩
theorem headP_fine : Fine headP := (rput_fine nil_fine 3 3).1
end Go.Cl.Fx
