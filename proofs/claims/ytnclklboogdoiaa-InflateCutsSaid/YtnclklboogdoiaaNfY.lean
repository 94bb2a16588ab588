/-
  Inflate: what was written is read; what is cut is too short; what is bound is too long.
-/
import Derived.Test.YtnclklboogdoiaaNfB
import Derived.Test.YtnclklboogdoiaaNfZ
set_option linter.unusedSimpArgs false
set_option linter.unusedVariables false
set_option maxRecDepth 100000
namespace Go.Cl.Nf
open Go.Cl.Sto Go.Cl.Fx
theorem rep_mono {M b : Nat} : ∀ {n : Nat} {P P' : List UInt8}, rep M b n P = .ok P' → P.length ≤ P'.length
  | 0, P, P', h => by cases h; exact Nat.le_refl _
  | n + 1, P, P', h => by
    unfold rep at h
    split at h
    · cases h
    · have := rep_mono h
      rw [List.length_append] at this
      omega
theorem stoF_mono {D : List UInt8} {M : Nat} : ∀ {k a : Nat} {P : List UInt8} {q : Nat} {P' : List UInt8}, stoF D M k a P = .ok (q, P') → P.length ≤ P'.length
  | 0, a, P, q, P', h => by cases h; exact Nat.le_refl _
  | k + 1, a, P, q, P', h => by
    unfold stoF at h
    split at h
    · split at h
      · cases h
      · have := stoF_mono h
        rw [List.length_append] at this
        omega
    · cases h
theorem storedX_mono {D : List UInt8} {M p : Nat} {P : List UInt8} {q : Nat} {P' : List UInt8} (h : storedX D M p P = .ok (q, P')) : P.length ≤ P'.length := by
  unfold storedX at h
  repeat' split at h
  all_goals first | (cases h; done) | exact stoF_mono h
theorem copyX_mono {D : List UInt8} {M : Nat} {B : List Nat} {s p : Nat} {P : List UInt8} {q : Nat} {P' : List UInt8} (h : copyX D M B s p P = .ok (q, P')) : P.length ≤ P'.length := by
  unfold copyX at h
  repeat' split at h
  all_goals first | (cases h; done) | (cases h; exact rep_mono ‹_›)
theorem codedX_mono {D : List UInt8} {M : Nat} {A B : List Nat} : ∀ {k p : Nat} {P : List UInt8} {q : Nat} {P' : List UInt8}, codedX D M A B k p P = .ok (q, P') → P.length ≤ P'.length
  | 0, p, P, q, P', h => by cases h
  | k + 1, p, P, q, P', h => by
    unfold codedX at h
    repeat' split at h
    all_goals first
      | (cases h; done)
      | (cases h; exact Nat.le_refl _)
      | (have := codedX_mono h; rw [List.length_append] at this; omega)
      | exact Nat.le_trans (copyX_mono ‹_›) (codedX_mono h)
theorem bodyX_mono {N : Nat} {D : List UInt8} {M kind p : Nat} {P : List UInt8} {q : Nat} {P' : List UInt8} (h : bodyX N D M kind p P = .ok (q, P')) : P.length ≤ P'.length := by
  unfold bodyX at h
  repeat' split at h
  all_goals first | (cases h; done) | exact storedX_mono h | exact codedX_mono h
theorem blockX_mono {N : Nat} {D : List UInt8} {M p : Nat} {P : List UInt8} {b q : Nat} {P' : List UInt8} (h : blockX N D M p P = .ok (b, q, P')) : P.length ≤ P'.length := by
  unfold blockX at h
  repeat' split at h
  all_goals first | (cases h; done) | (cases h; exact bodyX_mono ‹_›)
theorem blocksX_mono {N : Nat} {D : List UInt8} {M : Nat} : ∀ {k p : Nat} {P : List UInt8} {q : Nat} {P' : List UInt8}, blocksX N D M k p P = .ok (q, P') → P.length ≤ P'.length
  | 0, p, P, q, P', h => by cases h
  | k + 1, p, P, q, P', h => by
    unfold blocksX at h
    repeat' split at h
    all_goals first
      | (cases h; done)
      | (cases h; exact blockX_mono ‹_›)
      | exact Nat.le_trans (blockX_mono ‹_›) (blocksX_mono h)
theorem rep_lim {M M' b : Nat} (hM : M ≤ M') : ∀ {n : Nat} {P P' : List UInt8}, rep M' b n P = .ok P' → P.length ≤ M → (P'.length ≤ M ∧ rep M b n P = .ok P') ∨ (M < P'.length ∧ rep M b n P = .error 7)
  | 0, P, P', h, hP => by cases h; exact .inl ⟨hP, rfl⟩
  | n + 1, P, P', h, hP => by
    unfold rep at h ⊢
    by_cases c : M ≤ P.length
    · rw [if_pos c]
      split at h
      · cases h
      · have := rep_mono h
        rw [List.length_append] at this
        exact .inr ⟨by simp at this; omega, rfl⟩
    · rw [if_neg c]
      rw [if_neg (by omega)] at h
      exact rep_lim hM h (by rw [List.length_append]; simp; omega)
theorem stoF_lim {D : List UInt8} {M M' : Nat} (hM : M ≤ M') : ∀ {k a : Nat} {P : List UInt8} {q : Nat} {P' : List UInt8}, stoF D M' k a P = .ok (q, P') → P.length ≤ M → (P'.length ≤ M ∧ stoF D M k a P = .ok (q, P')) ∨ (M < P'.length ∧ stoF D M k a P = .error 7)
  | 0, a, P, q, P', h, hP => by cases h; exact .inl ⟨hP, rfl⟩
  | k + 1, a, P, q, P', h, hP => by
    unfold stoF at h ⊢
    by_cases ca : a < D.length
    rotate_left
    · rw [if_neg ca] at h; cases h
    rw [if_pos ca] at h ⊢
    by_cases c : M ≤ P.length
    · rw [if_pos c]
      split at h
      · cases h
      · have := stoF_mono h
        rw [List.length_append] at this
        exact .inr ⟨by simp at this; omega, rfl⟩
    · rw [if_neg c]
      rw [if_neg (by omega)] at h
      exact stoF_lim hM h (by rw [List.length_append]; simp; omega)
theorem storedX_lim {D : List UInt8} {M M' p : Nat} (hM : M ≤ M') {P : List UInt8} {q : Nat} {P' : List UInt8} (h : storedX D M' p P = .ok (q, P')) (hP : P.length ≤ M) : (P'.length ≤ M ∧ storedX D M p P = .ok (q, P')) ∨ (M < P'.length ∧ storedX D M p P = .error 7) := by
  unfold storedX at h ⊢
  split at h
  · rename_i c1
    rw [if_pos c1]
    split at h
    · rename_i c2
      rw [if_pos c2]
      exact stoF_lim hM h hP
    · cases h
  · cases h
theorem copyX_lim {D : List UInt8} {M M' : Nat} (hM : M ≤ M') {B : List Nat} {s p : Nat} {P : List UInt8} {q : Nat} {P' : List UInt8} (h : copyX D M' B s p P = .ok (q, P')) (hP : P.length ≤ M) : (P'.length ≤ M ∧ copyX D M B s p P = .ok (q, P')) ∨ (M < P'.length ∧ copyX D M B s p P = .error 7) := by
  unfold copyX at h ⊢
  by_cases c1 : 285 < s
  · rw [if_pos c1] at h; cases h
  rw [if_neg c1] at h ⊢
  cases h1 : takeE D p (lenW s) with
  | error e => rw [h1] at h; cases h
  | ok x =>
  rw [h1] at h
  dsimp only at h ⊢
  cases h2 : sym D B (p + lenW s) with
  | error e => rw [h2] at h; cases h
  | ok c =>
  obtain ⟨c, q2⟩ := c
  rw [h2] at h
  dsimp only at h ⊢
  by_cases c2 : 30 ≤ c
  · rw [if_pos c2] at h; cases h
  rw [if_neg c2] at h ⊢
  cases h3 : takeE D q2 (dstW c) with
  | error e => rw [h3] at h; cases h
  | ok y =>
  rw [h3] at h
  dsimp only at h ⊢
  by_cases c3 : P.length < dstOf c y
  · rw [if_pos c3] at h; cases h
  rw [if_neg c3] at h ⊢
  cases h4 : rep M' (dstOf c y) (lenOf s x) P with
  | error e => rw [h4] at h; cases h
  | ok z =>
  rw [h4] at h
  cases h
  rcases rep_lim hM h4 hP with ⟨a, e⟩ | ⟨a, e⟩
  · rw [e]; exact .inl ⟨a, rfl⟩
  · rw [e]; exact .inr ⟨a, rfl⟩
theorem codedX_lim {D : List UInt8} {M M' : Nat} (hM : M ≤ M') {A B : List Nat} : ∀ {k p : Nat} {P : List UInt8} {q : Nat} {P' : List UInt8}, codedX D M' A B k p P = .ok (q, P') → P.length ≤ M → (P'.length ≤ M ∧ codedX D M A B k p P = .ok (q, P')) ∨ (M < P'.length ∧ codedX D M A B k p P = .error 7)
  | 0, p, P, q, P', h, hP => by cases h
  | k + 1, p, P, q, P', h, hP => by
    unfold codedX at h ⊢
    cases h1 : sym D A p with
    | error e => rw [h1] at h; cases h
    | ok c =>
    obtain ⟨s, r⟩ := c
    rw [h1] at h
    dsimp only at h ⊢
    by_cases c1 : s = 256
    · rw [if_pos c1] at h ⊢
      cases h; exact .inl ⟨hP, rfl⟩
    rw [if_neg c1] at h ⊢
    by_cases c2 : s < 256
    · rw [if_pos c2] at h ⊢
      by_cases c : M ≤ P.length
      · rw [if_pos c]
        split at h
        · cases h
        · have := codedX_mono h
          rw [List.length_append] at this
          exact .inr ⟨by simp at this; omega, rfl⟩
      · rw [if_neg c]
        rw [if_neg (by omega)] at h
        exact codedX_lim hM h (by rw [List.length_append]; simp; omega)
    rw [if_neg c2] at h ⊢
    cases h2 : copyX D M' B s r P with
    | error e => rw [h2] at h; cases h
    | ok y =>
    obtain ⟨r2, P2⟩ := y
    rw [h2] at h
    dsimp only at h
    rcases copyX_lim hM h2 hP with ⟨a, e⟩ | ⟨a, e⟩
    · rw [e]; exact codedX_lim hM h a
    · rw [e]; exact .inr ⟨by have := codedX_mono h; omega, rfl⟩
theorem bodyX_lim {N : Nat} {D : List UInt8} {M M' kind p : Nat} (hM : M ≤ M') {P : List UInt8} {q : Nat} {P' : List UInt8} (h : bodyX N D M' kind p P = .ok (q, P')) (hP : P.length ≤ M) : (P'.length ≤ M ∧ bodyX N D M kind p P = .ok (q, P')) ∨ (M < P'.length ∧ bodyX N D M kind p P = .error 7) := by
  unfold bodyX at h ⊢
  by_cases c0 : kind = 0
  · rw [if_pos c0] at h ⊢; exact storedX_lim hM h hP
  rw [if_neg c0] at h ⊢
  by_cases c1 : kind = 1
  · rw [if_pos c1] at h ⊢; exact codedX_lim hM h hP
  rw [if_neg c1] at h ⊢
  by_cases c2 : kind = 2
  · rw [if_pos c2] at h ⊢
    cases h1 : dynX N D p with
    | error e => rw [h1] at h; cases h
    | ok y =>
    obtain ⟨⟨a, b⟩, r⟩ := y
    rw [h1] at h
    exact codedX_lim hM h hP
  · rw [if_neg c2] at h; cases h
theorem blockX_lim {N : Nat} {D : List UInt8} {M M' p : Nat} (hM : M ≤ M') {P : List UInt8} {b q : Nat} {P' : List UInt8} (h : blockX N D M' p P = .ok (b, q, P')) (hP : P.length ≤ M) : (P'.length ≤ M ∧ blockX N D M p P = .ok (b, q, P')) ∨ (M < P'.length ∧ blockX N D M p P = .error 7) := by
  unfold blockX at h ⊢
  cases h1 : takeE D p 1 with
  | error e => rw [h1] at h; cases h
  | ok last =>
  rw [h1] at h
  dsimp only at h ⊢
  cases h2 : takeE D (p + 1) 2 with
  | error e => rw [h2] at h; cases h
  | ok kind =>
  rw [h2] at h
  dsimp only at h ⊢
  cases h3 : bodyX N D M' kind (p + 3) P with
  | error e => rw [h3] at h; cases h
  | ok y =>
  obtain ⟨r, P2⟩ := y
  rw [h3] at h
  cases h
  rcases bodyX_lim hM h3 hP with ⟨a, e⟩ | ⟨a, e⟩
  · rw [e]; exact .inl ⟨a, rfl⟩
  · rw [e]; exact .inr ⟨a, rfl⟩
theorem blocksX_lim {N : Nat} {D : List UInt8} {M M' : Nat} (hM : M ≤ M') : ∀ {k p : Nat} {P : List UInt8} {q : Nat} {P' : List UInt8}, blocksX N D M' k p P = .ok (q, P') → P.length ≤ M → (P'.length ≤ M ∧ blocksX N D M k p P = .ok (q, P')) ∨ (M < P'.length ∧ blocksX N D M k p P = .error 7)
  | 0, p, P, q, P', h, hP => by cases h
  | k + 1, p, P, q, P', h, hP => by
    unfold blocksX at h ⊢
    cases h1 : blockX N D M' p P with
    | error e => rw [h1] at h; cases h
    | ok y =>
    obtain ⟨b, r, P2⟩ := y
    rw [h1] at h
    dsimp only at h
    rcases blockX_lim hM h1 hP with ⟨a, e⟩ | ⟨a, e⟩
    · rw [e]
      dsimp only
      by_cases c : b = 1
      · rw [if_pos c] at h ⊢; cases h; exact .inl ⟨a, rfl⟩
      · rw [if_neg c] at h ⊢; exact blocksX_lim hM h a
    · rw [e]
      refine .inr ⟨?_, rfl⟩
      by_cases c : b = 1
      · rw [if_pos c] at h; cases h; exact a
      · rw [if_neg c] at h; have := blocksX_mono h; omega
theorem inflX_over {N : Nat} {D : List UInt8} {M M' q : Nat} {P : List UInt8} (h : inflX N D M' = .ok (q, P)) (hP : M < P.length) : inflX N D M = .error 7 := by
  have hM : M ≤ M' := by have := (inflX_le h).2; omega
  rcases blocksX_lim hM h (Nat.zero_le _) with ⟨a, e⟩ | ⟨a, e⟩
  · omega
  · exact e
theorem body_read (N : Nat) (l : List UInt8) (hN : l.length + 1 ≤ N) : ∃ q, (q + 7) / 8 = (zbody l).length ∧ ∀ (T : List UInt8) (M : Nat), l.length ≤ M → inflX N (zbody l ++ T) M = .ok (q, l) := by
  unfold zbody
  split
  · exact ⟨8 * (sto l).length, by omega, fun T M hM => sto_read N l T hM (by omega)⟩
  · exact ⟨(fixP l).2, fixed_end' l, fun T M hM => fixed_read N l T hM hN⟩
theorem zfront (l T : List UInt8) : (zlb l ++ T).drop 2 = zbody l ++ (be 4 (adl l) ++ T) := by
  unfold zlb
  simp [List.append_assoc]
theorem zlen (l : List UInt8) : (zlb l).length = 2 + (zbody l).length + 4 := by
  unfold zlb
  rw [List.length_append, List.length_append, be_length]
  simp; omega
theorem zhead (l T : List UInt8) : (zlb l ++ T).getD 0 0 = 120 ∧ (zlb l ++ T).getD 1 0 = 1 := ⟨rfl, rfl⟩
theorem zgood : ¬ hdBad (120 : UInt8).toNat (1 : UInt8).toNat := by decide
theorem zlib_read (N : Nat) (l T : List UInt8) {M : Nat} (hM : l.length ≤ M) (hN : l.length + 1 ≤ N) : zlibX N (zlb l ++ T) M = .ok ((zlb l).length, l) := by
  obtain ⟨q, hq, hr⟩ := body_read N l hN
  have hl := zlen l
  unfold zlibX
  rw [if_neg (by rw [List.length_append]; omega), (zhead l T).1, (zhead l T).2, if_neg zgood, zfront, hr _ M hM]
  dsimp only
  rw [hq, if_neg (by rw [List.length_append]; omega)]
  have e : ((zlb l ++ T).drop (2 + (zbody l).length)).take 4 = be 4 (adl l) := by
    rw [← List.drop_drop, zfront, List.drop_left, List.take_append_of_le_length (by rw [be_length]; exact Nat.le_refl _), List.take_of_length_le (by rw [be_length]; exact Nat.le_refl _)]
  have hal := adl_lt l
  rw [e, bigOf_be (by exact hal), if_pos rfl, hl]
theorem zlib_over (N : Nat) (l : List UInt8) {M : Nat} (hM : M < l.length) (hN : l.length + 1 ≤ N) : zlibX N (zlb l) M = .error 7 := by
  obtain ⟨q, hq, hr⟩ := body_read N l hN
  have hl := zlen l
  have e := zfront l []
  rw [List.append_nil, List.append_nil] at e
  have h1 := hr (be 4 (adl l)) l.length (Nat.le_refl _)
  have hz : (zlb l).getD 0 0 = 120 ∧ (zlb l).getD 1 0 = 1 := ⟨rfl, rfl⟩
  unfold zlibX
  rw [if_neg (by omega), hz.1, hz.2, if_neg zgood, e, inflX_over h1 hM]
theorem zlib_cut (N : Nat) (l : List UInt8) {M k : Nat} (hM : l.length ≤ M) (hN : l.length + 1 ≤ N) (hk : k < (zlb l).length) : zlibX N ((zlb l).take k) M = .error 2 := by
  obtain ⟨q, hq, hr⟩ := body_read N l hN
  have hl := zlen l
  have hkl : ((zlb l).take k).length = k := by rw [List.length_take]; omega
  unfold zlibX
  rw [hkl]
  by_cases c1 : k < 2
  · rw [if_pos c1]
  rw [if_neg c1]
  obtain ⟨j, rfl⟩ : ∃ j, k = j + 2 := ⟨k - 2, by omega⟩
  have hz : ((zlb l).take (j + 2)).getD 0 0 = 120 ∧ ((zlb l).take (j + 2)).getD 1 0 = 1 := ⟨rfl, rfl⟩
  have hd : ((zlb l).take (j + 2)).drop 2 = (zbody l ++ be 4 (adl l)).take j := rfl
  rw [hz.1, hz.2, if_neg zgood, hd]
  by_cases c2 : j < (zbody l).length
  · have e : inflX N ((zbody l ++ be 4 (adl l)).take j) M = .error 2 := by
      refine inflX_cut (T := (zbody l ++ be 4 (adl l)).drop j) (q := q) (P := l) ?_ ?_
      · rw [List.take_append_drop]; exact hr _ M hM
      · rw [List.length_take, List.length_append]; omega
    rw [e]
  · have e : (zbody l ++ be 4 (adl l)).take j = zbody l ++ (be 4 (adl l)).take (j - (zbody l).length) := by
      rw [List.take_append, List.take_of_length_le (by omega)]
    rw [e, hr _ M hM]
    dsimp only
    rw [hq, if_pos (by omega)]
theorem fixed_cut (N : Nat) (l : List UInt8) {M k : Nat} (hM : l.length ≤ M) (hN : l.length + 1 ≤ N) (hk : k < (fixed l).length) : inflX N ((fixed l).take k) M = .error 2 := by
  have h1 := fixed_read N l [] hM hN
  rw [List.append_nil] at h1
  have h2 := fixed_end' l
  refine inflX_cut (T := (fixed l).drop k) (q := (fixP l).2) (P := l) ?_ ?_
  · rw [List.take_append_drop]; exact h1
  · rw [List.length_take]; omega
end Go.Cl.Nf
