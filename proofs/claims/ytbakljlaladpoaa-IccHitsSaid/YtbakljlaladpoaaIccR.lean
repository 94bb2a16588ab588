/-
  Profiles: what was made is read.
-/
import Derived.Test.YtbakljlaladpoaaIccQ
set_option linter.unusedSimpArgs false
set_option linter.unusedVariables false
namespace Go.Cl.Icc
theorem four_mid {A x R : List UInt8} {k : Nat} (hk : k = A.length) (hx : x.length = 4) : four (A ++ (x ++ R)) k = x := by
  subst hk
  unfold four
  rw [List.drop_left, List.take_append_of_le_length (by omega), List.take_of_length_le (by omega)]
theorem bodyTo_mono (T : List (List UInt8 × Int × Int)) {i j : Nat} (h : i ≤ j) : bodyTo T i ≤ bodyTo T j := by
  induction j with
  | zero => have : i = 0 := by omega
            subst this; exact Nat.le_refl _
  | succ j ih =>
    rcases Nat.lt_or_ge i (j + 1) with h1 | h1
    · have := ih (by omega); simp only [bodyTo]; omega
    · have : i = j + 1 := by omega
      subst this; exact Nat.le_refl _
theorem rowsTo_split (T : List (List UInt8 × Int × Int)) {i n : Nat} (h : i < n) : ∃ R, rowsTo T n = rowsTo T i ++ (rowAt T i ++ R) := by
  induction n with
  | zero => omega
  | succ n ih =>
    rcases Nat.lt_or_ge i n with h1 | h1
    · obtain ⟨R, hR⟩ := ih h1
      exact ⟨R ++ rowAt T n, by simp only [rowsTo]; rw [hR, List.append_assoc, List.append_assoc]⟩
    · have : i = n := by omega
      subst this
      exact ⟨[], by rw [List.append_nil]; rfl⟩
/-- The first tags, in their places. -/
def placed (T : List (List UInt8 × Int × Int)) : Nat → List (List UInt8 × Int × Int)
  | 0 => []
  | i + 1 => placed T i ++ [((T.getD i nought).1, ((132 + 12 * T.length + bodyTo T i : Nat) : Int), (T.getD i nought).2.2)]
theorem placed_any (T : List (List UInt8 × Int × Int)) (a : List UInt8) : ∀ i, i ≤ T.length → ((placed T i).any fun u => decide (u.1 = a)) = ((T.take i).any fun u => decide (u.1 = a)) := by
  intro i
  induction i with
  | zero => intro _; simp [placed]
  | succ i ih =>
    intro h
    rw [List.take_add_one, List.getElem?_eq_getElem (by omega), List.any_append, ← ih (by omega)]
    simp only [placed, List.any_append, List.any_cons, List.any_nil, Bool.or_false, Option.toList_some]
    rw [tagsGet T (show i < T.length by omega)]
where
  tagsGet (T : List (List UInt8 × Int × Int)) {i : Nat} (h : i < T.length) : T.getD i nought = T[i] := by simp [List.getD, List.getElem?_eq_getElem h]
theorem placed_length (T : List (List UInt8 × Int × Int)) : ∀ i, (placed T i).length = i := by
  intro i
  induction i with
  | zero => rfl
  | succ i ih => simp only [placed, List.length_append, ih]; rfl
theorem placed_get (T : List (List UInt8 × Int × Int)) : ∀ n i, i < n → (placed T n)[i]? = some ((T.getD i nought).1, ((132 + 12 * T.length + bodyTo T i : Nat) : Int), (T.getD i nought).2.2) := by
  intro n
  induction n with
  | zero => intro i h; omega
  | succ n ih =>
    intro i h
    simp only [placed]
    rcases Nat.lt_or_ge i n with h1 | h1
    · rw [List.getElem?_append_left (by rw [placed_length]; omega)]; exact ih i h1
    · have : i = n := by omega
      subst this
      rw [List.getElem?_append_right (by rw [placed_length]; omega), placed_length, Nat.sub_self]; rfl
theorem bytesM_length {sp : List UInt8} {T : List (List UInt8 × Int × Int)} (h : okAll sp T) : (bytesM sp T).length = 132 + 12 * T.length + bodyTo T T.length := by
  unfold bytesM
  rw [List.length_append, List.length_append, List.length_append, headM_length (parts_len h.1), be_length, rowsTo_length h.2.2, List.length_replicate]; omega
/-- The head, in pieces. -/
theorem headM_at {total : Nat} {sp R : List UInt8} (h : sp.length = 4) : four (headM total sp ++ R) 0 = be 4 total ∧ (headM total sp ++ R).getD 8 0 = 2 ∧ four (headM total sp ++ R) 12 = [109, 110, 116, 114] ∧ four (headM total sp ++ R) 16 = sp ∧ four (headM total sp ++ R) 20 = [88, 89, 90, 32] ∧ four (headM total sp ++ R) 36 = [97, 99, 115, 112] := by
  obtain ⟨a, b, c, d, rfl⟩ : ∃ a b c d, sp = [a, b, c, d] := by
    match sp, h with
    | [a, b, c, d], _ => exact ⟨a, b, c, d, rfl⟩
  unfold headM
  rw [be_four]
  exact ⟨rfl, rfl, rfl, rfl, rfl, rfl⟩
end Go.Cl.Icc
namespace Go.Proofs.Ytbakljlaladpoaa
open Go.Cl Go.Cl.Icc
theorem made_head {sp : List UInt8} {T : List (List UInt8 × Int × Int)} (h : okAll sp T) : okHead (bytesM sp T) ∧ num (bytesM sp T) 128 = T.length ∧ okMany (bytesM sp T) ∧ headIs (bytesM sp T) = headC ((bytesM sp T).length : Nat) 2 (parts sp) [109, 110, 116, 114] sp [88, 89, 90, 32] := by
  have hl := bytesM_length h
  have hsp := parts_len h.1
  have hbl := bodyTo_le h.2.2
  have hle := h.2.1
  have htl : 132 + (rowsTo T T.length).length + bodyTo T T.length = (bytesM sp T).length := by rw [hl, rowsTo_length h.2.2]
  have hdef : bytesM sp T = headM (bytesM sp T).length sp ++ (be 4 T.length ++ (rowsTo T T.length ++ List.replicate (bodyTo T T.length) 0)) := by
    rw [← htl]; rfl
  obtain ⟨h1, h2, h3, h4, h5, h6⟩ := headM_at (total := (bytesM sp T).length) (R := be 4 T.length ++ (rowsTo T T.length ++ List.replicate (bodyTo T T.length) 0)) hsp
  rw [← hdef] at h1 h2 h3 h4 h5 h6
  have h0 : num (bytesM sp T) 0 = (bytesM sp T).length := by
    unfold num; rw [h1, bigOf_be (by omega)]
  have h7 : num (bytesM sp T) 128 = T.length := by
    unfold num
    rw [hdef, four_mid (by rw [headM_length hsp]) (be_length _ _), bigOf_be (by omega)]
  refine ⟨⟨h0, by rw [h2]; decide, by rw [h2]; decide, by rw [h3]; decide, by rw [h4]; have := h.1; omega, .inl h5, h6⟩, h7, ⟨by rw [h7]; omega, by rw [h7]; omega⟩, ?_⟩
  unfold headIs
  rw [h0, h2, h3, h4, h5]
  rfl
theorem made_tag {sp : List UInt8} {T : List (List UInt8 × Int × Int)} (h : okAll sp T) {i : Nat} (hi : i < T.length) : tagAt (bytesM sp T) i = ((T.getD i nought).1, ((132 + 12 * T.length + bodyTo T i : Nat) : Int), (T.getD i nought).2.2) := by
  have hsp := parts_len h.1
  have hle := h.2.1
  have hk := h.2.2 i hi
  have hbl := bodyTo_le (T := T) (i := i) (fun j hj => h.2.2 j (by omega))
  have hrl := rowsTo_length (T := T) (i := i) (fun j hj => h.2.2 j (by omega))
  obtain ⟨R, hR⟩ := rowsTo_split T hi
  obtain ⟨H, hH⟩ : ∃ H, H = headM (132 + (rowsTo T T.length).length + bodyTo T T.length) sp := ⟨_, rfl⟩
  have hHl : H.length = 128 := by rw [hH]; exact headM_length hsp
  have hb : bytesM sp T = (H ++ be 4 T.length ++ rowsTo T i) ++ ((T.getD i nought).1 ++ (be 4 (132 + 12 * T.length + bodyTo T i) ++ (be 4 (T.getD i nought).2.2.toNat ++ (R ++ List.replicate (bodyTo T T.length) 0)))) := by
    unfold bytesM
    rw [← hH, hR]
    unfold Icc.rowAt
    simp only [List.append_assoc]
  have hP : (H ++ be 4 T.length ++ rowsTo T i).length = 132 + 12 * i := by rw [List.length_append, List.length_append, hHl, be_length, hrl]
  obtain ⟨P, hPd⟩ : ∃ P, P = H ++ be 4 T.length ++ rowsTo T i := ⟨_, rfl⟩
  rw [← hPd] at hb hP
  unfold tagAt num
  have g1 : four (bytesM sp T) (132 + 12 * i) = (T.getD i nought).1 := by rw [hb]; exact four_mid hP.symm hk.1
  have g2 : four (bytesM sp T) (132 + 12 * i + 4) = be 4 (132 + 12 * T.length + bodyTo T i) := by
    rw [hb, ← List.append_assoc]; exact four_mid (by rw [List.length_append, hP, hk.1]) (be_length _ _)
  have g3 : four (bytesM sp T) (132 + 12 * i + 8) = be 4 (T.getD i nought).2.2.toNat := by
    rw [hb, ← List.append_assoc, ← List.append_assoc]; exact four_mid (by rw [List.length_append, List.length_append, hP, hk.1, be_length]) (be_length _ _)
  have hz := hk.2.1
  have hz2 := hk.2.2.1
  rw [g1, g2, g3, bigOf_be (by omega), bigOf_be (by omega)]
  rw [show (((T.getD i nought).2.2.toNat : Nat) : Int) = (T.getD i nought).2.2 by omega]
theorem made_tags {sp : List UInt8} {T : List (List UInt8 × Int × Int)} (h : okAll sp T) : ∀ i, i ≤ T.length → tagsTo (bytesM sp T) T.length i = some (placed T i) := by
  intro i
  induction i with
  | zero => intro _; rfl
  | succ i ih =>
    intro hi
    have hk := h.2.2 i (by omega)
    have hl := bytesM_length h
    have e := made_tag h (i := i) (by omega)
    refine (tagsTo_next (ih (by omega)) ?_).trans ?_
    · rw [e]
      have h1 := bodyTo_mono T (i := i + 1) (j := T.length) hi
      have h2 := pad_le2 (T.getD i nought).2.2
      have hz := hk.2.1
      have h3 : bodyTo T (i + 1) = bodyTo T i + pad (T.getD i nought).2.2 := rfl
      refine ⟨?_, ?_, ?_, ?_⟩
      · show 132 + 12 * (T.length : Int) ≤ ((132 + 12 * T.length + bodyTo T i : Nat) : Int); omega
      · show ((132 + 12 * T.length + bodyTo T i : Nat) : Int) ≤ ((bytesM sp T).length : Int); omega
      · show (T.getD i nought).2.2 ≤ ((bytesM sp T).length : Int) - ((132 + 12 * T.length + bodyTo T i : Nat) : Int); omega
      · rw [placed_any T _ i (by omega)]; exact hk.2.2.2
    · rw [e]; rfl
/-- What was made is read. -/
theorem made_read {sp : List UInt8} {T : List (List UInt8 × Int × Int)} (h : okAll sp T) : readP (bytesM sp T) = if has (placed T T.length) DESC && has (placed T T.length) WTPT then (0, placed T T.length) else (8, []) := by
  obtain ⟨h1, h2, h3, _⟩ := made_head h
  have hl := bytesM_length h
  refine readP_some (by omega) ⟨h1, h3⟩ ?_
  rw [h2]
  exact made_tags h _ (Nat.le_refl _)
end Go.Proofs.Ytbakljlaladpoaa
