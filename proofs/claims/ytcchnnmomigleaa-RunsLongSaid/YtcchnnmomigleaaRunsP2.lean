/-
  Rows of one byte: the plain law, on: what was written is read as it was; how long it is.
-/
import Derived.Test.YtcchnnmomigleaaRunsP
namespace Go.Cl.Runs

theorem toNat_row {n : Nat} (h1 : 3 ≤ n) (h2 : n ≤ 128) : (UInt8.ofNat (257 - n)).toNat = 257 - n := by rw [UInt8.toNat_ofNat']; omega
theorem toNat_lit {n : Nat} (h1 : 1 ≤ n) (h2 : n ≤ 128) : (UInt8.ofNat (n - 1)).toNat = n - 1 := by rw [UInt8.toNat_ofNat']; omega
theorem replicate_row (l : List UInt8) : List.replicate (rowOf l) (l.getD 0 0) = l.take (rowOf l) := by
  apply List.ext_getElem
  · rw [List.length_replicate, List.length_take]; have := rowOf_le l; omega
  · intro i h1 h2
    rw [List.getElem_replicate, List.getElem_take]
    rw [List.length_replicate] at h1
    have := rowOf_all l i h1
    have hl : i < l.length := by have := rowOf_le l; omega
    rw [getD_lt hl] at this
    exact this.symm
theorem room_append {most : Int} {P Q : List UInt8} (h : Q.length ≤ room most P) : room most (P ++ Q) = room most P - Q.length := by
  unfold room at *; rw [List.length_append]; omega
theorem encode_ne (l : List UInt8) : encode l ≠ [] := by
  by_cases h : l = []
  · subst h; rw [encode_nil]; simp
  · by_cases h3 : 3 ≤ rowOf l
    · rw [encode_row h h3]; simp
    · rw [encode_lit h (by omega)]; simp

/-- The three ways of a list of bytes. -/
theorem enc_cases {motive : List UInt8 → Prop} (nil : motive [])
    (row : ∀ l, l ≠ [] → 3 ≤ rowOf l → motive (l.drop (rowOf l)) → motive l)
    (lit : ∀ l, l ≠ [] → rowOf l < 3 → motive (l.drop (litLen l)) → motive l) : ∀ l, motive l := by
  intro l
  generalize hn : l.length = n
  induction n using Nat.strongRecOn generalizing l with
  | _ n ih =>
    by_cases h : l = []
    · subst h; exact nil
    · have hp : 0 < l.length := List.length_pos_iff.mpr h
      by_cases h3 : 3 ≤ rowOf l
      · exact row l h h3 (ih _ (by rw [← hn]; rw [List.length_drop]; omega) _ rfl |> fun q => q)
      · have := litLen_pos l
        exact lit l h (by omega) (ih (l.drop (litLen l)).length (by rw [List.length_drop]; omega) _ rfl)

theorem dec_encode (most : Int) (more : List UInt8) : ∀ (l P : List UInt8), l.length ≤ room most P → dec most (encode l ++ more) P = (P ++ l, 0) := by
  intro l
  refine enc_cases (motive := fun l => ∀ P, l.length ≤ room most P → dec most (encode l ++ more) P = (P ++ l, 0)) ?_ ?_ ?_ l
  · intro P _
    rw [encode_nil, List.cons_append, dec_end (by decide)]; simp
  · intro l h h3 ih P hr
    have h1 := rowOf_le128 l
    have h2 := rowOf_le l
    rw [encode_row h h3, List.cons_append, List.cons_append, dec_row (by rw [toNat_row h3 h1]; omega) (by rw [toNat_row h3 h1]; omega), toNat_row h3 h1, show 257 - (257 - rowOf l) = rowOf l by omega, replicate_row]
    have hl : (l.take (rowOf l)).length = rowOf l := by rw [List.length_take]; omega
    rw [ih _ (by rw [room_append (by omega), hl, List.length_drop]; omega), List.append_assoc, List.take_append_drop]
  · intro l h h3 ih P hr
    have hp : 0 < l.length := List.length_pos_iff.mpr h
    have h1 := litLen_le128 l
    have h2 := litLen_le hp
    have h0 := litLen_pos l
    have hl : (l.take (litLen l)).length = litLen l := by rw [List.length_take]; omega
    have e1 : litLen l - 1 + 1 = litLen l := by omega
    rw [encode_lit h h3, List.cons_append, dec_lit (by rw [toNat_lit h0 h1]; omega) (by rw [toNat_lit h0 h1, List.append_assoc, List.length_append, hl]; omega) (by rw [toNat_lit h0 h1]; omega), toNat_lit h0 h1, e1, List.append_assoc]
    rw [show (l.take (litLen l) ++ (encode (l.drop (litLen l)) ++ more)).drop (litLen l) = encode (l.drop (litLen l)) ++ more by
      rw [List.drop_append_of_le_length (by omega), List.drop_of_length_le (by omega), List.nil_append]]
    rw [show (l.take (litLen l) ++ (encode (l.drop (litLen l)) ++ more)).take (litLen l) = l.take (litLen l) by
      rw [List.take_append_of_le_length (by omega), List.take_of_length_le (by omega)]]
    rw [ih _ (by rw [room_append (by omega), hl, List.length_drop]; omega), List.append_assoc, List.take_append_drop]

theorem dec_limit (most : Int) : ∀ (l P : List UInt8), room most P < l.length → dec most (encode l) P = ([], 7) := by
  intro l
  refine enc_cases (motive := fun l => ∀ P, room most P < l.length → dec most (encode l) P = ([], 7)) ?_ ?_ ?_ l
  · intro P h; simp at h
  · intro l h h3 ih P hr
    have h1 := rowOf_le128 l
    have h2 := rowOf_le l
    rw [encode_row h h3]
    by_cases hc : rowOf l ≤ room most P
    · rw [dec_row (by rw [toNat_row h3 h1]; omega) (by rw [toNat_row h3 h1]; omega), toNat_row h3 h1, show 257 - (257 - rowOf l) = rowOf l by omega, replicate_row]
      have hl : (l.take (rowOf l)).length = rowOf l := by rw [List.length_take]; omega
      exact ih _ (by rw [room_append (by omega), hl, List.length_drop]; omega)
    · rw [dec_row_limit (by rw [toNat_row h3 h1]; omega) (by rw [toNat_row h3 h1]; omega)]
  · intro l h h3 ih P hr
    have hp : 0 < l.length := List.length_pos_iff.mpr h
    have h1 := litLen_le128 l
    have h2 := litLen_le hp
    have h0 := litLen_pos l
    have hl : (l.take (litLen l)).length = litLen l := by rw [List.length_take]; omega
    have e1 : litLen l - 1 + 1 = litLen l := by omega
    rw [encode_lit h h3]
    by_cases hc : litLen l ≤ room most P
    · rw [dec_lit (by rw [toNat_lit h0 h1]; omega) (by rw [toNat_lit h0 h1, List.length_append, hl]; omega) (by rw [toNat_lit h0 h1]; omega), toNat_lit h0 h1, e1]
      rw [List.drop_append_of_le_length (by omega), List.drop_of_length_le (by omega), List.nil_append, List.take_append_of_le_length (by omega), List.take_of_length_le (by omega)]
      exact ih _ (by rw [room_append (by omega), hl, List.length_drop]; omega)
    · rw [dec_lit_limit (by rw [toNat_lit h0 h1]; omega) (by rw [List.length_append, hl]; omega) (by rw [toNat_lit h0 h1]; omega)]

theorem dec_short (most : Int) : ∀ (l P : List UInt8), l.length ≤ room most P → dec most (encode l).dropLast P = ([], 2) := by
  intro l
  refine enc_cases (motive := fun l => ∀ P, l.length ≤ room most P → dec most (encode l).dropLast P = ([], 2)) ?_ ?_ ?_ l
  · intro P _
    rw [encode_nil]; exact dec_nil _ _
  · intro l h h3 ih P hr
    have h1 := rowOf_le128 l
    have h2 := rowOf_le l
    have hne := encode_ne (l.drop (rowOf l))
    rw [encode_row h h3, List.dropLast_cons_of_ne_nil (by simp), List.dropLast_cons_of_ne_nil hne, dec_row (by rw [toNat_row h3 h1]; omega) (by rw [toNat_row h3 h1]; omega), toNat_row h3 h1, show 257 - (257 - rowOf l) = rowOf l by omega, replicate_row]
    have hl : (l.take (rowOf l)).length = rowOf l := by rw [List.length_take]; omega
    exact ih _ (by rw [room_append (by omega), hl, List.length_drop]; omega)
  · intro l h h3 ih P hr
    have hp : 0 < l.length := List.length_pos_iff.mpr h
    have h1 := litLen_le128 l
    have h2 := litLen_le hp
    have h0 := litLen_pos l
    have hl : (l.take (litLen l)).length = litLen l := by rw [List.length_take]; omega
    have e1 : litLen l - 1 + 1 = litLen l := by omega
    have hne := encode_ne (l.drop (litLen l))
    rw [encode_lit h h3, List.dropLast_cons_of_ne_nil (by simp [hne]), List.dropLast_append_of_ne_nil hne, dec_lit (by rw [toNat_lit h0 h1]; omega) (by rw [toNat_lit h0 h1, List.length_append, hl]; omega) (by rw [toNat_lit h0 h1]; omega), toNat_lit h0 h1, e1]
    rw [List.drop_append_of_le_length (by omega), List.drop_of_length_le (by omega), List.nil_append, List.take_append_of_le_length (by omega), List.take_of_length_le (by omega)]
    exact ih _ (by rw [room_append (by omega), hl, List.length_drop]; omega)

theorem litFrom_stops (l : List UInt8) : ∀ (f k : Nat), litFrom l f k = k + f ∨ l.length ≤ litFrom l f k ∨ 3 ≤ rowOf (l.drop (litFrom l f k)) := by
  intro f
  induction f with
  | zero => intro k; left; rfl
  | succ f ih =>
    intro k
    unfold litFrom
    split
    · rcases ih (k + 1) with h | h
      · left; omega
      · right; exact h
    · rename_i h; right; omega
theorem encode_tight : ∀ l : List UInt8, (encode l).length ≤ l.length + 2 + l.length / 128 ∧ ((l = [] ∨ 3 ≤ rowOf l) → (encode l).length ≤ l.length + 1 + l.length / 128) := by
  intro l
  refine enc_cases (motive := fun l => (encode l).length ≤ l.length + 2 + l.length / 128 ∧ ((l = [] ∨ 3 ≤ rowOf l) → (encode l).length ≤ l.length + 1 + l.length / 128)) ?_ ?_ ?_ l
  · rw [encode_nil]; simp
  · intro l h h3 ih
    have h2 := rowOf_le l
    have ih1 := ih.1
    rw [encode_row h h3]
    simp only [List.length_cons, List.length_drop] at ih1 ⊢
    constructor
    · omega
    · intro _; omega
  · intro l h h3 ih
    have hp : 0 < l.length := List.length_pos_iff.mpr h
    have h1 := litLen_le128 l
    have h2 := litLen_le hp
    have h0 := litLen_pos l
    obtain ⟨ih1, ih2⟩ := ih
    rw [encode_lit h h3]
    simp only [List.length_cons, List.length_append, List.length_take, List.length_drop] at ih1 ih2 ⊢
    refine ⟨?_, fun hx => ?_⟩
    · rcases litFrom_stops l 127 1 with hs | hs | hs
      · have hs' : litLen l = 128 := hs
        omega
      · have hs' : l.length ≤ litLen l := hs
        have := ih2 (.inl (List.drop_eq_nil_of_le hs'))
        omega
      · have hs' : 3 ≤ rowOf (l.drop (litLen l)) := hs
        have := ih2 (.inr hs')
        omega
    · rcases hx with hx | hx
      · exact absurd hx h
      · omega
theorem encode_hardly (l : List UInt8) : (encode l).length ≤ l.length + 2 + l.length / 3 := by
  have := (encode_tight l).1; omega
end Go.Cl.Runs
