/-
  Signs that are written, digits of either case: the plain laws.
-/
import Derived.Test.YtaflcofmphpedaaUnhex
import Derived.Test.YtaflcofmphpedaaB85P
set_option linter.unusedSimpArgs false
set_option linter.unusedVariables false
namespace Go.Proofs.Ytaflcofmphpedaa
open Go.Cl Go.Cl.Uh Go.Cl.Hx Go.Cl.B85
def up (x : UInt8) : UInt8 := if 97 ≤ x.toNat then x - 32 else x
theorem digit_up : ∀ k, k < 16 → white ((up (digits.getD k 0)).toNat : Int) = false ∧ ((up (digits.getD k 0)).toNat : Int) ≠ 62 ∧ digit ((up (digits.getD k 0)).toNat : Int) = (k : Int) := by decide
theorem digit_low : ∀ k, k < 16 → ¬ digit ((digits.getD k 0).toNat : Int) < 0 ∧ ((digits.getD k 0).toNat < 65 ∨ 70 < (digits.getD k 0).toNat) := by decide
theorem hexs_low (l : List UInt8) : ∀ x ∈ hexs l, ¬ digit (x.toNat : Int) < 0 ∧ (x.toNat < 65 ∨ 70 < x.toNat) := by
  intro x hx
  obtain ⟨c, _, hc⟩ := List.mem_flatMap.mp hx
  have hc8 := c.toNat_lt
  simp only [two, List.mem_cons, List.not_mem_nil, or_false] at hc
  rcases hc with rfl | rfl
  · exact digit_low _ (by omega)
  · exact digit_low _ (by omega)
theorem unh_up (M : Int) : ∀ (l P : List UInt8), ((P.length + l.length : Nat) : Int) ≤ M → unh M ((hexs l).map up ++ [62]) (-1) P = (P ++ l, 0)
  | [], P, _ => by simp [hexs, unh, show white 62 = false by decide]
  | c :: l, P, h => by
    have hc8 := c.toNat_lt
    obtain ⟨a1, a2, a3⟩ := digit_up (c.toNat / 16) (by omega)
    obtain ⟨b1, b2, b3⟩ := digit_up (c.toNat % 16) (by omega)
    have e : (hexs (c :: l)).map up ++ [62] = up (digits.getD (c.toNat / 16) 0) :: up (digits.getD (c.toNat % 16) 0) :: ((hexs l).map up ++ [62]) := by simp [hexs, two]
    have hb : byteN (c.toNat / 16 * 16 + c.toNat % 16) = c := by
      apply UInt8.toNat_inj.mp
      unfold byteN; rw [UInt8.toNat_ofNat']; omega
    simp only [List.length_cons] at h
    rw [e, unh, a1, if_neg (by decide), if_neg a2, a3, if_neg (by omega), if_pos (by decide), unh, b1, if_neg (by decide), if_neg b2, b3, if_neg (by omega), if_neg (by omega), if_neg (by omega), Int.toNat_natCast, Int.toNat_natCast, hb]
    rw [unh_up M l (P ++ [c]) (by simp; omega)]
    simp
theorem dig_range (x k : Nat) : 33 ≤ (dig x k).toNat ∧ (dig x k).toNat ≤ 117 := by
  unfold dig; rw [UInt8.toNat_ofNat']
  have : x / 85 ^ (4 - k) % 85 < 85 := Nat.mod_lt _ (by decide)
  omega
theorem b85_parts : ∀ (n : Nat) (l : List UInt8), l.length ≤ n → ∃ B, b85 l = B ++ [126, 62] ∧ (∀ x ∈ B, x.toNat = 122 ∨ (33 ≤ x.toNat ∧ x.toNat ≤ 117)) ∧ B.length ≤ l.length / 4 * 5 + (l.length % 4 + (l.length % 4 + 3) / 4) := by
  intro n
  induction n with
  | zero =>
    intro l hl
    obtain rfl : l = [] := List.eq_nil_of_length_eq_zero (by omega)
    exact ⟨[], by rw [b85_nil]; rfl, by simp, by simp⟩
  | succ n ih =>
    intro l hl
    by_cases h : l = []
    · subst h; exact ⟨[], by rw [b85_nil]; rfl, by simp, by simp⟩
    · have hp : 0 < l.length := List.length_pos_iff.mpr h
      obtain ⟨B, h1, h2, h3⟩ := ih (l.drop (min 4 l.length)) (by rw [List.length_drop]; omega)
      rw [List.length_drop] at h3
      by_cases hz : min 4 l.length = 4 ∧ val l 4 = 0
      · refine ⟨122 :: B, by rw [b85_z h hz, h1]; rfl, ?_, by simp only [List.length_cons]; omega⟩
        intro x hx
        rcases List.mem_cons.mp hx with rfl | hx
        · exact .inl rfl
        · exact h2 x hx
      · have h5 : ((five (val l 4)).take (min 4 l.length + 1)).length = min 4 l.length + 1 := by rw [List.length_take]; show min _ 5 = _; omega
        refine ⟨(five (val l 4)).take (min 4 l.length + 1) ++ B, by rw [b85_five h hz, h1, List.append_assoc], ?_, by rw [List.length_append, h5]; omega⟩
        intro x hx
        rcases List.mem_append.mp hx with hx | hx
        · have := List.mem_of_mem_take hx
          simp only [five, List.mem_cons, List.not_mem_nil, or_false] at this
          rcases this with rfl | rfl | rfl | rfl | rfl <;> exact .inr (dig_range _ _)
        · exact h2 x hx
/-- So many signs are turned. -/
def upAt (l : List UInt8) (i : Nat) : List UInt8 := (l.take i).map up ++ l.drop i
theorem upAt_length (l : List UInt8) (i : Nat) : (upAt l i).length = l.length := by simp [upAt]; omega
theorem upAt_get {l : List UInt8} {i : Nat} (h : i < l.length) : (upAt l i).getD i 0 = l.getD i 0 := by
  have e : ((l.take i).map up).length = i := by rw [List.length_map, List.length_take]; omega
  unfold upAt
  rw [List.getD_eq_getElem?_getD, List.getElem?_append_right (by omega), e, Nat.sub_self, List.getElem?_drop, List.getD_eq_getElem?_getD, Nat.add_zero]
theorem upAt_set {l : List UInt8} {i : Nat} (h : i < l.length) : (upAt l i).set i (up (l.getD i 0)) = upAt l (i + 1) := by
  have e : ((l.take i).map up).length = i := by rw [List.length_map, List.length_take]; omega
  unfold upAt
  rw [List.set_append_right _ _ (by omega), e, Nat.sub_self, List.drop_eq_getElem_cons h, List.set_cons_zero, List.take_succ_eq_append_getElem h, List.map_append, List.append_assoc]
  simp [List.getD, List.getElem?_eq_getElem h]
theorem upAt_same {l : List UInt8} {i : Nat} (h : i < l.length) (hc : ¬ 97 ≤ (l.getD i 0).toNat) : upAt l i = upAt l (i + 1) := by
  have e : (upAt l i).set i (l.getD i 0) = upAt l i := by
    apply List.ext_getElem (by simp)
    intro k h1 h2
    rw [List.getElem_set]
    split
    · rename_i hk; subst hk; have := upAt_get h
      rw [List.getD_eq_getElem?_getD, List.getElem?_eq_getElem h2] at this
      exact this.symm
    · rfl
  have e2 : up (l.getD i 0) = l.getD i 0 := by unfold up; rw [if_neg hc]
  rw [← upAt_set h, e2, e]
theorem upAt_hex (l : List UInt8) : upAt (hex l) (hexs l).length = (hexs l).map up ++ [62] := by
  unfold upAt hex
  rw [List.take_left, List.drop_left]
end Go.Proofs.Ytaflcofmphpedaa
