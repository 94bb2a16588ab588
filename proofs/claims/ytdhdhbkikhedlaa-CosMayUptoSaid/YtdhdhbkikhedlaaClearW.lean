/-
  builtin clear, of a slice's end.
-/
import Derived.Test.YtdhdhbkikhedlaaAgg
namespace Go.Cl
theorem repeatL_ok {zs : List Value} (h : zs.all okCell = true) : ∀ n, (repeatL zs n).all okCell = true
  | 0 => rfl
  | n + 1 => by rw [repeatL, List.all_append, h, repeatL_ok h n]; rfl
theorem Own.clearEnd {P : Program} {t e : TypeId} {z : Nat} {zv : Value} {zs : List Value} (hu : P.underlying t = some (.slice e)) (hsz : sizeB P e = some z) (hzv : zeroB P e = some zv) (hp : plainV zv = true) (hzs : zv.cells.toList = zs) (hzl : zs.length = z) (hz0 : 0 < z) (hok : zs.all okCell = true)
    {s : ASt} {v : Value} {n : Nat} {l : List Value} (h : Own s z v n l) {k : Nat} (hk : k ≤ n) :
    ∃ s', clearA P s t (cutS z v k n) = some (undef, s') ∧ Own s' z v n (l.take (k * z) ++ repeatL zs (n - k)) ∧ Turns v s s' := by
  cases h with
  | nil =>
    obtain rfl : k = 0 := by omega
    refine ⟨s, ?_, by rw [Nat.sub_self, repeatL, List.append_nil, List.take_nil]; exact .nil, Nat.le_refl _, fun _ _ _ => rfl⟩
    simp only [cutS, clearA, hu]
  | of i n low l hi hb hl hlen =>
    by_cases hkn : k = n
    · subst hkn
      refine ⟨s, ?_, ?_, Nat.le_refl _, fun _ _ _ => rfl⟩
      · simp only [cutS, clearA, hu, Nat.sub_self]
      · rw [Nat.sub_self, repeatL, List.append_nil, List.take_of_length_le (by omega)]
        exact .of i k low l hi hb hl hlen
    obtain ⟨m, hm⟩ : ∃ m, n - k = m + 1 := ⟨n - k - 1, by omega⟩
    have hkz : k * z + (n - k) * z = n * z := by rw [← Nat.add_mul]; congr 1; omega
    have hrl : (repeatL zs (m + 1)).length = (n - k) * z := by rw [repeatL_length, hzl, hm]
    have hset := setAt_eq l (0 + k * z) (repeatL zs (m + 1)) (by omega)
    have hcond : (true && Nat.ble low (l.length + 1) && Nat.beq (l.length + 1) (l.length + 1) && (repeatL zs (m + 1)).all okCell) = true := by
      simp only [repeatL_ok hok, Bool.and_true, Bool.true_and, Bool.and_eq_true, Nat.ble_eq, Nat.beq_eq]; exact ⟨hl, trivial⟩
    have hpl : (plainV zv && Nat.beq zs.length z && Nat.blt 0 z) = true := by
      rw [hp, hzl]
      simp only [Bool.true_and, Bool.and_eq_true, Nat.beq_eq]
      exact ⟨trivial, by rw [Nat.blt_eq]; exact hz0⟩
    have hst : s.storeAt i (0 + k * z) (l.length + 1) (repeatL zs (m + 1)) = some (s.put i (.blk ⟨l.take (0 + k * z) ++ repeatL zs (m + 1) ++ l.drop (0 + k * z + (repeatL zs (m + 1)).length), l.length + 1, true, z⟩)) := by
      unfold ASt.storeAt
      simp only [hb, hcond, if_true, hset]
      split
      · rename_i he; rw [he] at hrl
        have : 0 < (n - k) * z := Nat.mul_pos (by omega) hz0
        simp at hrl; omega
      · rfl
    have hd : l.drop (0 + k * z + (repeatL zs (m + 1)).length) = [] := List.drop_eq_nil_of_le (by omega)
    rw [hd, List.append_nil, Nat.zero_add] at hst
    have hnl : (l.take (k * z) ++ repeatL zs (m + 1)).length = l.length := by rw [List.length_append, List.length_take, hrl]; omega
    refine ⟨s.put i (.blk ⟨l.take (k * z) ++ repeatL zs (m + 1), l.length + 1, true, z⟩), ?_, ?_, ⟨by simp [ASt.put], fun q _ hq => ?_⟩⟩
    rotate_left
    · rw [hm, ← hnl]
      exact .of i n _ _ (by simpa [ASt.put] using hi) (ASt.blk?_put_self _ _ _ (by omega)) (Nat.le_refl _) (by omega)
    · rw [ASt.get_put_ne]
      intro e; subst e; exact hq rfl
    · simp only [cutS, clearA, hu, hm, hsz, hzv, hzs, hpl, if_true, Nat.zero_add, hst, hnl]
section
variable {P : Program} {lib : Prims} {all r : List Oper} {f : AFr} {s : ASt} {d : Option Tmp} {Q : AFr → ASt → Prop}
theorem wstep_clearEnd {t e : TypeId} {z : Nat} {zv : Value} {zs : List Value} (hu : P.underlying t = some (.slice e)) (hsz : sizeB P e = some z) (hzv : zeroB P e = some zv) (hp : plainV zv = true) (hzs : zv.cells.toList = zs) (hzl : zs.length = z) (hz0 : 0 < z) (hok : zs.all okCell = true)
    {v : Value} {n : Nat} {l : List Value} (h : Own s z v n l) {k : Nat} (hk : k ≤ n)
    (K : ∀ s', Own s' z v n (l.take (k * z) ++ repeatL zs (n - k)) → Turns v s s' → wstep P lib all r f s d Q (some (.val undef s'))) : wstep P lib all r f s d Q (pOf (clearA P s t (cutS z v k n))) := by
  obtain ⟨s', h1, h2, h3⟩ := h.clearEnd hu hsz hzv hp hzs hzl hz0 hok hk
  rw [h1, pOf_some]
  exact K s' h2 h3
end
end Go.Cl
