/-
  Rows of one byte: the plain law, on: how long rows of one byte are, and bytes of which no two neighbours are alike.
-/
import Derived.Test.YtcchnnmomigleaaRunsP2
namespace Go.Cl.Runs

theorem rowOf_replicate (c : UInt8) (k : Nat) : rowOf (List.replicate k c) = min 128 k := by
  unfold rowOf
  cases k with
  | zero => simp
  | succ k =>
    have h0 : (List.replicate (k + 1) c).getD 0 0 = c := rfl
    rw [h0]
    have : ((List.replicate (k + 1) c).takeWhile (fun x => x == c)).length = k + 1 := by
      apply takeWhile_eq
      · simp
      · intro j hj
        rw [getD_lt (by simpa using hj)]; simp
      · left; simp
    rw [this]
theorem litLen_small (c : UInt8) {k : Nat} (h1 : 1 ≤ k) (h2 : k < 3) : litLen (List.replicate k c) = k := by
  obtain rfl | rfl : k = 1 ∨ k = 2 := by omega
  · unfold litLen litFrom; simp
  · unfold litLen litFrom
    rw [if_pos (by rw [List.drop_replicate, rowOf_replicate]; simp)]
    unfold litFrom; simp
def rest (k : Nat) : Nat := if 3 ≤ k % 128 then 2 else if 0 < k % 128 then 1 + k % 128 else 0
theorem encode_alike (c : UInt8) : ∀ k : Nat, (encode (List.replicate k c)).length = 2 * (k / 128) + 1 + rest k := by
  intro k
  induction k using Nat.strongRecOn with
  | _ k ih =>
    by_cases h0 : k = 0
    · subst h0; rw [List.replicate_zero, encode_nil]; rfl
    · have hne : List.replicate k c ≠ [] := by cases k with
        | zero => exact absurd rfl h0
        | succ k => simp [List.replicate_succ]
      by_cases h3 : 3 ≤ k
      · have hr : rowOf (List.replicate k c) = min 128 k := rowOf_replicate c k
        rw [encode_row hne (by omega), List.length_cons, List.length_cons, hr, List.drop_replicate, ih _ (by omega)]
        unfold rest
        by_cases hk : 128 ≤ k
        · have e1 : (k - min 128 k) / 128 = k / 128 - 1 := by omega
          have e2 : (k - min 128 k) % 128 = k % 128 := by omega
          rw [e1, e2]
          omega
        · have e1 : k - min 128 k = 0 := by omega
          rw [e1]
          have e2 : k / 128 = 0 := by omega
          have e3 : k % 128 = k := by omega
          rw [e2, e3, if_pos h3]
          rfl
      · have hr : rowOf (List.replicate k c) = min 128 k := rowOf_replicate c k
        rw [encode_lit hne (by omega), litLen_small c (by omega) (by omega), List.length_cons, List.length_append, List.drop_replicate, Nat.sub_self, List.replicate_zero, encode_nil]
        unfold rest
        have e2 : k / 128 = 0 := by omega
        have e3 : k % 128 = k := by omega
        rw [e2, e3]
        simp only [List.take_replicate, List.length_replicate, List.length_singleton]
        rw [if_neg (by omega), if_pos (by omega)]
        omega

/-- No two neighbours are alike. -/
def Unlike (l : List UInt8) : Prop := ∀ i, i + 1 < l.length → l.getD i 0 ≠ l.getD (i + 1) 0
theorem Unlike.drop {l : List UInt8} (h : Unlike l) (n : Nat) : Unlike (l.drop n) := by
  intro i hi
  rw [List.length_drop] at hi
  rw [drop_getD, drop_getD, ← Nat.add_assoc]
  exact h (n + i) (by omega)
theorem Unlike.row {l : List UInt8} (h : Unlike l) : rowOf l < 3 := by
  by_cases hl : l.length ≤ 2
  · have := rowOf_le l; omega
  · by_cases hr : 3 ≤ rowOf l
    · have := rowOf_all l 1 (by omega)
      exact absurd this.symm (h 0 (by omega))
    · omega
theorem Unlike.litFrom {l : List UInt8} (h : Unlike l) : ∀ (f k : Nat), k ≤ l.length → litFrom l f k = min (k + f) l.length := by
  intro f
  induction f with
  | zero => intro k hk; unfold Runs.litFrom; omega
  | succ f ih =>
    intro k hk
    unfold Runs.litFrom
    by_cases hkl : k < l.length
    · rw [if_pos ⟨hkl, (h.drop k).row⟩, ih (k + 1) (by omega)]; omega
    · rw [if_neg (by omega)]; omega
theorem encode_unlike : ∀ (l : List UInt8), Unlike l → (encode l).length = l.length + (l.length + 127) / 128 + 1 := by
  intro l
  refine enc_cases (motive := fun l => Unlike l → (encode l).length = l.length + (l.length + 127) / 128 + 1) ?_ ?_ ?_ l
  · intro _; rw [encode_nil]; rfl
  · intro l hl h3 _ hu
    have := hu.row; omega
  · intro l hl h3 ih hu
    have hp : 0 < l.length := List.length_pos_iff.mpr hl
    have hlit : litLen l = min 128 l.length := hu.litFrom 127 1 hp
    rw [encode_lit hl h3, List.length_cons, List.length_append, ih (hu.drop _), List.length_drop, List.length_take, hlit]
    omega
end Go.Cl.Runs
