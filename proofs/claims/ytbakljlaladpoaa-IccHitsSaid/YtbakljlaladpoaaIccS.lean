/-
  Profiles: one that was made, turned in a place, cut, or made longer.
-/
import Derived.Test.YtbakljlaladpoaaIccR
set_option linter.unusedSimpArgs false
set_option linter.unusedVariables false
namespace Go.Cl.Icc
theorem bigOf_inj : ∀ (n : Nat) (a b : List UInt8), a.length = n → b.length = n → bigOf a = bigOf b → a = b := by
  intro n
  induction n with
  | zero => intro a b ha hb _; rw [List.eq_nil_of_length_eq_zero ha, List.eq_nil_of_length_eq_zero hb]
  | succ n ih =>
    intro a b ha hb e
    have hna : a ≠ [] := by intro e; subst e; simp at ha
    have hnb : b ≠ [] := by intro e; subst e; simp at hb
    rw [← List.dropLast_concat_getLast hna, ← List.dropLast_concat_getLast hnb, bigOf_snoc, bigOf_snoc] at e
    have hx := (a.getLast hna).toNat_lt
    have hy := (b.getLast hnb).toNat_lt
    have h1 : bigOf a.dropLast = bigOf b.dropLast := by omega
    have h2 : (a.getLast hna).toNat = (b.getLast hnb).toNat := by omega
    rw [← List.dropLast_concat_getLast hna, ← List.dropLast_concat_getLast hnb, ih _ _ (by rw [List.length_dropLast]; omega) (by rw [List.length_dropLast]; omega) h1, UInt8.toNat_inj.mp h2]
theorem four_set {l : List UInt8} {k j : Nat} (c : UInt8) (hk : k + 4 ≤ l.length) (h1 : k ≤ j) (h2 : j < k + 4) (hc : c ≠ l.getD j 0) : four (l.set j c) k ≠ four l k := by
  intro e
  have h : (four (l.set j c) k)[j - k]? = (four l k)[j - k]? := by rw [e]
  unfold four at h
  rw [List.getElem?_take_of_lt (by omega), List.getElem?_take_of_lt (by omega), List.getElem?_drop, List.getElem?_drop, show k + (j - k) = j by omega, List.getElem?_set_self (by omega)] at h
  rw [List.getD_eq_getElem?_getD, ← h] at hc
  exact hc rfl
theorem four_set_other {l : List UInt8} {k j : Nat} (c : UInt8) (h : j < k ∨ k + 4 ≤ j) : four (l.set j c) k = four l k := by
  refine List.ext_getElem? fun i => ?_
  unfold four
  by_cases hi : i < 4
  · rw [List.getElem?_take_of_lt hi, List.getElem?_take_of_lt hi, List.getElem?_drop, List.getElem?_drop, List.getElem?_set_ne (by omega)]
  · rw [List.getElem?_eq_none (by rw [List.length_take]; omega), List.getElem?_eq_none (by rw [List.length_take]; omega)]
theorem set_same {l : List UInt8} {j : Nat} (h : j < l.length) : l.set j (l.getD j 0) = l := by
  rw [List.getD_eq_getElem?_getD, List.getElem?_eq_getElem h]
  simp
end Go.Cl.Icc
namespace Go.Proofs.Ytbakljlaladpoaa
open Go.Cl Go.Cl.Icc
/-- The places that say what it is. -/
def PLACES : List Nat := [0, 1, 2, 3, 36, 37, 38, 39, 128, 129, 130]
theorem readP_four {l : List UInt8} (h : ¬ l.length < 132) (c : ¬ (okHead l ∧ okMany l)) : (readP l).1 = 4 := by rw [readP_bad h c]
theorem turned {sp : List UInt8} {T : List (List UInt8 × Int × Int)} (h : okAll sp T) {j : Nat} (hj : j ∈ PLACES) {c : UInt8} (hc : c ≠ (bytesM sp T).getD j 0) : (readP ((bytesM sp T).set j c)).1 = 4 := by
  have hl := bytesM_length h
  have hle := h.2.1
  have hbl := bodyTo_le h.2.2
  obtain ⟨h1, h2, h3, _⟩ := made_head h
  obtain ⟨B, hB⟩ : ∃ B, B = bytesM sp T := ⟨_, rfl⟩
  rw [← hB] at hl hc h1 h2 h3 ⊢
  have hsl : (B.set j c).length = B.length := List.length_set
  refine readP_four (by omega) ?_
  simp only [PLACES, List.mem_cons, List.not_mem_nil, or_false] at hj
  rintro ⟨g1, g2⟩
  by_cases c1 : j < 4
  · -- the length
    have e := g1.1
    rw [hsl, ← h1.1] at e
    refine four_set (k := 0) c (by omega) (Nat.zero_le _) (by omega) hc ?_
    exact bigOf_inj 4 _ _ (four_length (by omega)) (four_length (by omega)) e
  · by_cases c2 : j < 40
    · have e := g1.2.2.2.2.2.2
      rw [← h1.2.2.2.2.2.2] at e
      exact four_set (k := 36) c (by omega) (by omega) (by omega) hc e
    · -- how many
      have e := g2.1
      have hq : four B 128 = be 4 T.length := by
        refine bigOf_inj 4 _ _ (four_length (by omega)) (be_length _ _) ?_
        rw [bigOf_be (by omega)]; exact h2
      have hget : ∀ q, q < 4 → B.getD (128 + q) 0 = (be 4 T.length).getD q 0 := fun q hq4 => by
        rw [← hq]
        unfold four
        rw [List.getD_eq_getElem?_getD, List.getD_eq_getElem?_getD, List.getElem?_take_of_lt hq4, List.getElem?_drop]
      have hz : ∀ q, q < 3 → B.getD (128 + q) 0 = 0 := fun q hq3 => by
        rw [hget q (by omega), be_four]
        match q, hq3 with
        | 0, _ => show UInt8.ofNat (T.length / 16777216) = 0; rw [Nat.div_eq_of_lt (by omega)]; rfl
        | 1, _ => show UInt8.ofNat (T.length / 65536) = 0; rw [Nat.div_eq_of_lt (by omega)]; rfl
        | 2, _ => show UInt8.ofNat (T.length / 256) = 0; rw [Nat.div_eq_of_lt (by omega)]; rfl
      -- four bytes as they are then
      have hf : ∀ (l : List UInt8), 132 ≤ l.length → four l 128 = [l.getD 128 0, l.getD 129 0, l.getD 130 0, l.getD 131 0] := fun l hl => by
        refine List.ext_getElem? fun i => ?_
        unfold four
        by_cases hi : i < 4
        · rw [List.getElem?_take_of_lt hi, List.getElem?_drop]
          simp only [List.getD_eq_getElem?_getD]
          match i, hi with
          | 0, _ => rw [List.getElem?_eq_getElem (by omega)]; rfl
          | 1, _ => rw [List.getElem?_eq_getElem (by omega)]; rfl
          | 2, _ => rw [List.getElem?_eq_getElem (by omega)]; rfl
          | 3, _ => rw [List.getElem?_eq_getElem (by omega)]; rfl
        · rw [List.getElem?_eq_none (by rw [List.length_take]; omega), List.getElem?_eq_none (by simp; omega)]
      have hsame : (B.set j c).getD j 0 = c := by rw [List.getD_eq_getElem?_getD, List.getElem?_set_self (by omega)]; rfl
      have hcz : c.toNat ≠ 0 := by
        intro e0
        have hc0 : c = 0 := UInt8.toNat_inj.mp e0
        apply hc
        rw [hc0]
        have := hz (j - 128) (by omega)
        rw [show 128 + (j - 128) = j by omega] at this
        exact this.symm
      unfold num at e
      rw [hf _ (by omega)] at e
      simp only [bigOf, List.foldl_cons, List.foldl_nil] at e
      have hj3 : j = 128 ∨ j = 129 ∨ j = 130 := by omega
      rcases hj3 with rfl | rfl | rfl <;> rw [hsame] at e <;> omega
theorem longer {sp : List UInt8} {T : List (List UInt8 × Int × Int)} (h : okAll sp T) (c : UInt8) : (readP (bytesM sp T ++ [c])).1 = 4 := by
  have hl := bytesM_length h
  obtain ⟨h1, _, _, _⟩ := made_head h
  refine readP_four (by rw [List.length_append]; omega) ?_
  rintro ⟨g1, _⟩
  have e := g1.1
  have : four (bytesM sp T ++ [c]) 0 = four (bytesM sp T) 0 := by
    unfold four
    rw [List.drop_zero, List.drop_zero, List.take_append_of_le_length (by omega)]
  unfold num at e
  rw [this] at e
  have e2 := h1.1
  unfold num at e2
  rw [List.length_append, List.length_singleton] at e
  omega
theorem shorter {sp : List UInt8} {T : List (List UInt8 × Int × Int)} (h : okAll sp T) {m : Nat} (hm : m < (bytesM sp T).length) : (readP ((bytesM sp T).take m)).1 ≠ 0 := by
  have hl := bytesM_length h
  obtain ⟨h1, _, _, _⟩ := made_head h
  have hlm : ((bytesM sp T).take m).length = m := by rw [List.length_take]; omega
  by_cases c1 : m < 132
  · rw [readP_short (by omega)]; decide
  · rw [readP_four (by omega) ?_]
    · decide
    rintro ⟨g1, _⟩
    have e := g1.1
    have : four ((bytesM sp T).take m) 0 = four (bytesM sp T) 0 := by
      unfold four
      rw [List.drop_zero, List.drop_zero, List.take_take, Nat.min_eq_left (by omega)]
    unfold num at e
    rw [this, hlm] at e
    have e2 := h1.1
    unfold num at e2
    omega
/-- The law's profile. -/
def T2 (n : Nat) : List (List UInt8 × Int × Int) := [(DESC, 0, (n : Int)), (WTPT, 0, 20)]
theorem okT2 {n : Nat} (h : n ≤ 65535) : okAll RGB (T2 n) := by
  refine ⟨by decide, by show (2 : Nat) ≤ 100; decide, fun j hj => ?_⟩
  have hj : j < 2 := hj
  match j, hj with
  | 0, _ => exact ⟨rfl, by show (0 : Int) ≤ (n : Int); omega, by show (n : Int) ≤ 65535; omega, rfl⟩
  | 1, _ => exact ⟨rfl, by show (0 : Int) ≤ 20; decide, by show (20 : Int) ≤ 65535; decide, rfl⟩
theorem readT2 {n : Nat} (h : n ≤ 65535) : readP (bytesM RGB (T2 n)) = (0, placed (T2 n) 2) := by
  have e := made_read (okT2 h)
  have l : (T2 n).length = 2 := rfl
  rw [l] at e
  rw [e, if_pos]
  rfl
theorem lenT2 {n : Nat} (h : n ≤ 65535) : (bytesM RGB (T2 n)).length = 132 + 12 * 2 + (pad n + 20) := by
  rw [bytesM_length (okT2 h)]
  show 132 + 12 * 2 + bodyTo (T2 n) 2 = _
  have : bodyTo (T2 n) 2 = 0 + pad n + pad 20 := rfl
  have p20 : pad 20 = 20 := rfl
  omega
end Go.Proofs.Ytbakljlaladpoaa
