/-
  LZW, writing: bits laid into bytes one by one, the highest first.
-/
import Derived.Test.YtoddiggebjbnnaaLzwD
namespace Go.Cl.Lz
theorem or_low : ∀ v : Fin 256, ∀ k : Fin 8, v.val % 2 ^ (k.val + 1) = 0 → (v.val ||| 2 ^ k.val) = v.val + 2 ^ k.val := by decide +kernel
def b8 (l : List Nat) : Nat := l.getD 0 0 * 128 + l.getD 1 0 * 64 + l.getD 2 0 * 32 + l.getD 3 0 * 16 + l.getD 4 0 * 8 + l.getD 5 0 * 4 + l.getD 6 0 * 2 + l.getD 7 0
theorem byte8_eq (l : List Nat) : byte8 l = UInt8.ofNat (b8 l) := rfl
theorem getD_snoc (B : List Nat) (x t : Nat) : (B ++ [x]).getD t 0 = if t = B.length then x else B.getD t 0 := by
  by_cases h : t < B.length
  · rw [if_neg (by omega), getD_app_left h]
  · by_cases h2 : t = B.length
    · subst h2
      have := getD_app_right (L := B) (M := [x]) 0
      rw [Nat.add_zero] at this
      rw [this, if_pos rfl]; rfl
    · rw [if_neg h2, List.getD_eq_getElem?_getD, List.getElem?_eq_none (by simp; omega), List.getD_eq_getElem?_getD, List.getElem?_eq_none (by omega)]
theorem getD_over (B : List Nat) {t : Nat} (h : B.length ≤ t) : B.getD t 0 = 0 := by rw [List.getD_eq_getElem?_getD, List.getElem?_eq_none h]; rfl
/-- One more bit. -/
theorem byte8_or {B : List Nat} (h : ∀ i, B.getD i 0 < 2) (h7 : B.length ≤ 7) {x : Nat} (hx : x < 2) : byte8 B ||| UInt8.ofNat (x * 2 ^ (7 - B.length)) = byte8 (B ++ [x]) := by
  have key : b8 (B ++ [x]) = b8 B + x * 2 ^ (7 - B.length) ∧ b8 B % 2 ^ (7 - B.length + 1) = 0 ∧ b8 B < 256 := by
    have hh := h
    have hs := getD_snoc B x
    have ho : ∀ t, B.length ≤ t → B.getD t 0 = 0 := fun t ht => getD_over B ht
    have a0 := h 0; have a1 := h 1; have a2 := h 2; have a3 := h 3; have a4 := h 4; have a5 := h 5; have a6 := h 6; have a7 := h 7
    unfold b8
    rw [hs 0, hs 1, hs 2, hs 3, hs 4, hs 5, hs 6, hs 7]
    have hr : B.length = 0 ∨ B.length = 1 ∨ B.length = 2 ∨ B.length = 3 ∨ B.length = 4 ∨ B.length = 5 ∨ B.length = 6 ∨ B.length = 7 := by omega
    rcases hr with r | r | r | r | r | r | r | r
    · have o0 := ho 0 (by omega); have o1 := ho 1 (by omega); have o2 := ho 2 (by omega); have o3 := ho 3 (by omega); have o4 := ho 4 (by omega); have o5 := ho 5 (by omega); have o6 := ho 6 (by omega); have o7 := ho 7 (by omega)
      rw [r]; simp only [o0, o1, o2, o3, o4, o5, o6, o7, reduceIte, Nat.reduceSub, Nat.reduceAdd, Nat.reducePow, Nat.reduceEqDiff, eq_self]; exact ⟨by omega, trivial, by omega⟩
    · have o1 := ho 1 (by omega); have o2 := ho 2 (by omega); have o3 := ho 3 (by omega); have o4 := ho 4 (by omega); have o5 := ho 5 (by omega); have o6 := ho 6 (by omega); have o7 := ho 7 (by omega)
      rw [r]; simp only [o1, o2, o3, o4, o5, o6, o7, reduceIte, Nat.reduceSub, Nat.reduceAdd, Nat.reducePow, Nat.reduceEqDiff, eq_self]; omega
    · have o2 := ho 2 (by omega); have o3 := ho 3 (by omega); have o4 := ho 4 (by omega); have o5 := ho 5 (by omega); have o6 := ho 6 (by omega); have o7 := ho 7 (by omega)
      rw [r]; simp only [o2, o3, o4, o5, o6, o7, reduceIte, Nat.reduceSub, Nat.reduceAdd, Nat.reducePow, Nat.reduceEqDiff, eq_self]; omega
    · have o3 := ho 3 (by omega); have o4 := ho 4 (by omega); have o5 := ho 5 (by omega); have o6 := ho 6 (by omega); have o7 := ho 7 (by omega)
      rw [r]; simp only [o3, o4, o5, o6, o7, reduceIte, Nat.reduceSub, Nat.reduceAdd, Nat.reducePow, Nat.reduceEqDiff, eq_self]; omega
    · have o4 := ho 4 (by omega); have o5 := ho 5 (by omega); have o6 := ho 6 (by omega); have o7 := ho 7 (by omega)
      rw [r]; simp only [o4, o5, o6, o7, reduceIte, Nat.reduceSub, Nat.reduceAdd, Nat.reducePow, Nat.reduceEqDiff, eq_self]; omega
    · have o5 := ho 5 (by omega); have o6 := ho 6 (by omega); have o7 := ho 7 (by omega)
      rw [r]; simp only [o5, o6, o7, reduceIte, Nat.reduceSub, Nat.reduceAdd, Nat.reducePow, Nat.reduceEqDiff, eq_self]; omega
    · have o6 := ho 6 (by omega); have o7 := ho 7 (by omega)
      rw [r]; simp only [o6, o7, reduceIte, Nat.reduceSub, Nat.reduceAdd, Nat.reducePow, Nat.reduceEqDiff, eq_self]; omega
    · have o7 := ho 7 (by omega)
      rw [r]; simp only [o7, reduceIte, Nat.reduceSub, Nat.reduceAdd, Nat.reducePow, Nat.reduceEqDiff, eq_self]; omega
  obtain ⟨k1, k2, k3⟩ := key
  rw [byte8_eq, byte8_eq, k1]
  apply UInt8.toNat_inj.mp
  have hp : 2 ^ (7 - B.length) ≤ 2 ^ 7 := Nat.pow_le_pow_right (by omega) (by omega)
  rw [UInt8.toNat_or, UInt8.toNat_ofNat', UInt8.toNat_ofNat', UInt8.toNat_ofNat']
  have hx2 : x = 0 ∨ x = 1 := by omega
  rcases hx2 with rfl | rfl
  · simp
  · have hle : b8 B + 2 ^ (7 - B.length) ≤ 255 := by
      have hor := or_low ⟨b8 B, k3⟩ ⟨7 - B.length, by omega⟩ k2
      simp only at hor
      rw [← hor]
      have h1 : b8 B < 2 ^ 8 := k3
      have h2 : 2 ^ (7 - B.length) < 2 ^ 8 := by omega
      have := Nat.or_lt_two_pow h1 h2
      omega
    rw [Nat.one_mul, Nat.mod_eq_of_lt (by omega), Nat.mod_eq_of_lt (by omega), Nat.mod_eq_of_lt (by omega)]
    exact or_low ⟨b8 B, k3⟩ ⟨7 - B.length, by omega⟩ k2
/-- Whole bytes, and what is begun, behind so many bits. -/
def half (L : List Nat) : List UInt8 × List Nat := L.foldl wone' ([], [])
theorem half_snoc (L : List Nat) (x : Nat) : half (L ++ [x]) = wone' (half L) x := by simp [half]
theorem half_pack (L : List Nat) : (half L).1 ++ pack (half L).2 = pack L := by
  have := (wones_pack L ([], []) (by simp)).1
  simpa [half] using this
theorem half_len (L : List Nat) : ∀ i, i ≤ L.length → (half (L.take i)).1.length = i / 8 ∧ (half (L.take i)).2.length = i % 8
  | 0, h => by simp [half]
  | i + 1, h => by
    obtain ⟨h1, h2⟩ := half_len L i (by omega)
    rw [List.take_succ_eq_append_getElem (by omega), half_snoc]
    unfold wone'
    by_cases c : (half (L.take i)).2.length = 7
    · rw [if_pos c]; simp only [List.length_append, List.length_singleton, List.length_nil]; omega
    · rw [if_neg c]; simp only [List.length_append, List.length_singleton]; omega
theorem half_bit (L : List Nat) (h : ∀ x ∈ L, x < 2) : ∀ i, i ≤ L.length → ∀ k, (half (L.take i)).2.getD k 0 < 2
  | 0, _, k => by simp [half]
  | i + 1, hi, k => by
    have ih := half_bit L h i (by omega)
    rw [List.take_succ_eq_append_getElem (by omega), half_snoc]
    unfold wone'
    by_cases c : (half (L.take i)).2.length = 7
    · rw [if_pos c]; simp
    · rw [if_neg c]
      simp only
      rw [getD_snoc]
      split
      · exact h _ (List.getElem_mem _)
      · exact ih k
/-- What has been laid behind so many bits; and with room for one more. -/
def laid (L : List Nat) (i : Nat) : List UInt8 := pack (L.take i)
def roomy (L : List Nat) (i : Nat) : List UInt8 := (half (L.take i)).1 ++ [byte8 (half (L.take i)).2]
theorem laid_room {L : List Nat} {i : Nat} (hi : i < L.length) : roomy L i = if i % 8 = 0 then laid L i ++ [0] else laid L i := by
  obtain ⟨h1, h2⟩ := half_len L i (by omega)
  unfold roomy laid
  rw [← half_pack (L.take i)]
  by_cases c : i % 8 = 0
  · rw [if_pos c]
    have : (half (L.take i)).2 = [] := List.eq_nil_of_length_eq_zero (by omega)
    rw [this, pack_nil, List.append_nil]; rfl
  · rw [if_neg c]
    have : (half (L.take i)).2 ≠ [] := by intro e; rw [e] at h2; simp at h2; omega
    rw [pack_begun this (by omega)]
theorem laid_next {L : List Nat} (h : ∀ x ∈ L, x < 2) {i : Nat} (hi : i < L.length) :
    i / 8 < (roomy L i).length ∧ (roomy L i).set (i / 8) ((roomy L i).getD (i / 8) 0 ||| UInt8.ofNat (L.getD i 0 * 2 ^ (7 - i % 8))) = laid L (i + 1) := by
  obtain ⟨h1, h2⟩ := half_len L i (by omega)
  have hb := half_bit L h i (by omega)
  have hx : L.getD i 0 < 2 := by rw [List.getD_eq_getElem?_getD, List.getElem?_eq_getElem hi]; exact h _ (List.getElem_mem _)
  have hor := byte8_or hb (by omega) hx
  rw [h2] at hor
  refine ⟨by unfold roomy; rw [List.length_append, h1, List.length_singleton]; omega, ?_⟩
  have hg : (roomy L i).getD (i / 8) 0 = byte8 (half (L.take i)).2 := by
    unfold roomy
    rw [← h1, List.getD_eq_getElem?_getD, List.getElem?_append_right (Nat.le_refl _), Nat.sub_self]; rfl
  rw [hg, hor]
  unfold roomy laid
  rw [← h1, List.set_append_right _ _ (Nat.le_refl _), Nat.sub_self, List.set_cons_zero, ← half_pack (L.take (i + 1)), List.take_succ_eq_append_getElem hi, half_snoc]
  have hxe : L.getD i 0 = L[i] := by rw [List.getD_eq_getElem?_getD, List.getElem?_eq_getElem hi]; rfl
  rw [hxe]
  unfold wone'
  by_cases c : (half (L.take i)).2.length = 7
  · rw [if_pos c]; simp only; rw [pack_nil, List.append_nil]
  · rw [if_neg c]; simp only; rw [pack_begun (by simp) (by rw [List.length_append, List.length_singleton]; omega)]
end Go.Cl.Lz
