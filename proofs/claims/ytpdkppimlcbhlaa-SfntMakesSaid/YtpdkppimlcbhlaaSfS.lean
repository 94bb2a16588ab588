/-
  Fonts in tables: what was made is read.
-/
import Derived.Test.YtpdkppimlcbhlaaSfR
namespace Go.Cl.Sf
theorem part_app {a b : List UInt8} {i n : Nat} (h : i + n ≤ a.length) : ((a ++ b).drop i).take n = (a.drop i).take n := by
  rw [List.drop_append_of_le_length (by omega), List.take_append_of_le_length (by rw [List.length_drop]; omega)]
theorem part_later {a b : List UInt8} {i n : Nat} (h : a.length = i) : ((a ++ b).drop i).take n = b.take n := by
  subst h; rw [List.drop_left]
theorem part_off {a b : List UInt8} {i n : Nat} (k : Nat) (h : a.length + k = i) : ((a ++ b).drop i).take n = (b.drop k).take n := by
  subst h; rw [List.drop_append, List.drop_of_length_le (by omega), List.nil_append]; congr 2; omega
theorem half_app {a b : List UInt8} {i : Nat} (h : i + 2 ≤ a.length) : half (a ++ b) i = half a i := by unfold half; rw [part_app h]
theorem word_app {a b : List UInt8} {i : Nat} (h : i + 4 ≤ a.length) : word (a ++ b) i = word a i := by unfold word; rw [part_app h]
theorem half_take {b : List UInt8} {i m : Nat} (h : i + 2 ≤ m) : half (b.take m) i = half b i := by
  unfold half; rw [List.drop_take, List.take_take, Nat.min_eq_left (by omega)]
theorem word_take {b : List UInt8} {i m : Nat} (h : i + 4 ≤ m) : word (b.take m) i = word b i := by
  unfold word; rw [List.drop_take, List.take_take, Nat.min_eq_left (by omega)]
/-- The rows are where they are. -/
theorem outTo_row (L : List (List UInt8)) : ∀ n k, k < n → n ≤ 5 → ((outTo L n).drop (12 + 16 * k)).take 16 = rowB L k := by
  intro n
  induction n with
  | zero => intro k h; omega
  | succ n ih =>
    intro k hk hn
    have hl := outTo_length L n (by omega)
    rw [outTo]
    by_cases h : k < n
    · rw [part_app (by omega)]; exact ih k h (by omega)
    · obtain rfl : k = n := by omega
      rw [part_later hl, List.take_of_length_le (by rw [rowB_length L (by omega)]; omega)]
theorem outTo_head (L : List (List UInt8)) : ∀ n, n ≤ 5 → (outTo L n).take 12 = outTo L 0 := by
  intro n
  induction n with
  | zero => intro _; rw [List.take_of_length_le]; rw [outTo_length L 0 (by omega)]; omega
  | succ n ih =>
    intro hn
    have hl := outTo_length L n (by omega)
    show (outTo L n ++ rowB L n).take 12 = outTo L 0
    rw [List.take_append_of_le_length (by omega)]
    exact ih (by omega)
/-- The parts are where they are. -/
theorem body_part (L : List (List UInt8)) : ∀ n k, k < n → ((bodyTo L n).drop (bodyTo L k).length).take (L.getD k []).length = L.getD k [] ∧ (bodyTo L k).length + (L.getD k []).length ≤ (bodyTo L n).length := by
  intro n
  induction n with
  | zero => intro k h; omega
  | succ n ih =>
    intro k hk
    by_cases h : k < n
    · obtain ⟨h1, h2⟩ := ih k h
      rw [bodyTo, List.append_assoc]
      refine ⟨?_, by rw [List.length_append]; omega⟩
      rw [part_app h2]; exact h1
    · obtain rfl : k = n := by omega
      rw [bodyTo, List.append_assoc]
      refine ⟨?_, by simp only [List.length_append]; omega⟩
      rw [part_later rfl, List.take_append_of_le_length (Nat.le_refl _), List.take_length]
/-- A font that is made, with bytes behind it. -/
structure Made (b : List UInt8) (L : List (List UInt8)) : Prop where
  len : 92 + (bodyTo L 5).length ≤ b.length
  head : b.take 12 = outTo L 0
  name : ∀ k, k < 5 → (b.drop (12 + 16 * k)).take 4 = namesB.getD k []
  place : ∀ k, k < 5 → word b (12 + 16 * k + 8) = 92 + (bodyTo L k).length
  size : ∀ k, k < 5 → word b (12 + 16 * k + 12) = (L.getD k []).length
  part : ∀ k, k < 5 → (b.drop (92 + (bodyTo L k).length)).take (L.getD k []).length = L.getD k []
theorem made (L : List (List UInt8)) (more : List UInt8) (hb : (bodyTo L 5).length < 4000000) : Made ((outTo L 5 ++ bodyTo L 5) ++ more) L := by
  have hol := outTo_length L 5 (by omega)
  have hrow : ∀ k, k < 5 → (((outTo L 5 ++ bodyTo L 5) ++ more).drop (12 + 16 * k)).take 16 = rowB L k := fun k hk => by
    rw [List.append_assoc, part_app (by omega)]; exact outTo_row L 5 k hk (by omega)
  have sub : ∀ (k j n : Nat), k < 5 → j + n ≤ 16 → (((outTo L 5 ++ bodyTo L 5) ++ more).drop (12 + 16 * k + j)).take n = ((rowB L k).drop j).take n := fun k j n hk hj => by
    rw [← hrow k hk, List.drop_take, List.take_take, List.drop_drop, Nat.min_eq_left (by omega)]
  have hnl : ∀ k, k < 5 → (namesB.getD k []).length = 4 := fun k hk => by
    have : k = 0 ∨ k = 1 ∨ k = 2 ∨ k = 3 ∨ k = 4 := by omega
    rcases this with rfl | rfl | rfl | rfl | rfl <;> rfl
  have hbk : ∀ k, k < 5 → (bodyTo L k).length + (L.getD k []).length ≤ (bodyTo L 5).length := fun k hk => (body_part L 5 k hk).2
  refine ⟨by simp only [List.length_append]; omega, ?_, fun k hk => ?_, fun k hk => ?_, fun k hk => ?_, fun k hk => ?_⟩
  · rw [List.append_assoc, List.take_append_of_le_length (by omega)]; exact outTo_head L 5 (by omega)
  · have := sub k 0 4 hk (by omega)
    rw [Nat.add_zero] at this
    rw [this, rowB, List.drop_zero, List.append_assoc, List.append_assoc, List.take_append_of_le_length (Nat.le_of_eq (hnl k hk).symm), List.take_of_length_le (Nat.le_of_eq (hnl k hk))]
  · unfold word
    rw [sub k 8 4 hk (by omega), rowB, part_app (by simp only [List.length_append, hnl k hk, be_length]; decide)]
    have := hbk k hk
    rw [part_later (by rw [List.length_append, hnl k hk]; rfl), List.take_of_length_le (Nat.le_of_eq (be_length _ _)), bigOf_be (by omega)]
  · unfold word
    have := hbk k hk
    rw [sub k 12 4 hk (by omega), rowB, part_later (by simp only [List.length_append, hnl k hk, be_length]; rfl), List.take_of_length_le (Nat.le_of_eq (be_length _ _)), bigOf_be (by omega)]
  · obtain ⟨h1, h2⟩ := body_part L 5 k hk
    rw [List.append_assoc, part_off (bodyTo L k).length (by omega), part_app h2]
    exact h1
theorem tabsF_made {b : List UInt8} {L : List (List UInt8)} (h : Made b L) : ∀ k, k ≤ 5 → tabsF b k (5 - k) ((List.range (5 - k)).map fun j => (namesB.getD j [], L.getD j [])) = .ok ((List.range 5).map fun j => (namesB.getD j [], L.getD j [])) := by
  intro k
  induction k with
  | zero => intro _; rfl
  | succ k ih =>
    intro hk
    have ih := ih (by omega)
    obtain ⟨i, hi⟩ : ∃ i, i = 5 - (k + 1) := ⟨_, rfl⟩
    have e : 5 - k = i + 1 := by omega
    rw [e] at ih
    rw [← hi, tabsF, h.name i (by omega), h.place i (by omega), h.size i (by omega), h.part i (by omega)]
    have hbk : (bodyTo L i).length + (L.getD i []).length ≤ (bodyTo L 5).length := (body_part L 5 i (by omega)).2
    have hl := h.len
    have hno : lookT ((List.range i).map fun j => (namesB.getD j [], L.getD j [])) (namesB.getD i []) = none := by
      rw [look_none_iff]
      intro e he
      obtain ⟨j, hj, rfl⟩ := List.mem_map.mp he
      have hj := List.mem_range.mp hj
      have : i = 0 ∨ i = 1 ∨ i = 2 ∨ i = 3 ∨ i = 4 := by omega
      have hd : ∀ a b : Fin 5, b < a → namesB.getD b.1 [] ≠ namesB.getD a.1 [] := by decide
      exact hd ⟨i, by omega⟩ ⟨j, by omega⟩ hj
    rw [if_neg (fun h => by
      rcases h with h | h | h
      · omega
      · omega
      · rw [hno] at h; cases h)]
    rw [List.range_succ, List.map_append] at ih
    exact ih
theorem tabsX_made {b : List UInt8} {L : List (List UInt8)} (h : Made b L) : tabsX b = .ok ((List.range 5).map fun j => (namesB.getD j [], L.getD j [])) := by
  have hl := h.len
  have h4 : b.take 4 = [0, 1, 0, 0] := by
    have : b.take 4 = (b.take 12).take 4 := by rw [List.take_take]; rfl
    rw [this, h.head]; rfl
  have h5 : half b 4 = 5 := by
    have : half b 4 = half (b.take 12) 4 := (half_take (by omega)).symm
    rw [this, h.head]
    show half ([0, 1, 0, 0] ++ be 2 5 ++ List.replicate 6 0) 4 = 5
    decide +kernel
  unfold tabsX
  rw [if_neg (by omega), if_neg (by simp [h4]), h5, if_neg (by omega)]
  exact tabsF_made h 5 (by omega)
end Go.Cl.Sf
