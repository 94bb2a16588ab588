/-
  Where a text is found: the reference's way, the program's.
-/
import Derived.Test.YtndlajhkbepafaaCurL
import Derived.Test.YtndlajhkbepafaaCurI
import Derived.Test.YtndlajhkbepafaaCopyW
set_option linter.unusedSimpArgs false
set_option linter.unusedVariables false
set_option maxRecDepth 100000
namespace Go.Cl.Fi
/-- The first place of so many, from a place on. -/
def findF (l b : List UInt8) : Nat → Nat → Int
  | 0, _ => -1
  | n + 1, k => if (l.drop k).take b.length = b then (k : Int) else findF l b n (k + 1)
def findOf (l b : List UInt8) (k : Nat) : Int := findF l b (l.length + 1 - b.length - k) k
theorem occ_iff (l b : List UInt8) (k : Nat) : Lib.occAt l b k = true ↔ (l.drop k).take b.length = b := by
  unfold Lib.occAt
  rw [List.isPrefixOf_iff_prefix, List.prefix_iff_eq_take]
  exact eq_comm
theorem findF_ge {l b : List UInt8} : ∀ {n k : Nat}, findF l b n k = -1 ∨ ∃ i, findF l b n k = ((k + i : Nat) : Int) ∧ i < n ∧ (l.drop (k + i)).take b.length = b ∧ ∀ j, j < i → ¬ (l.drop (k + j)).take b.length = b
  | 0, k => .inl rfl
  | n + 1, k => by
    unfold findF
    by_cases c : (l.drop k).take b.length = b
    · rw [if_pos c]
      exact .inr ⟨0, rfl, by omega, c, fun j h => by omega⟩
    · rw [if_neg c]
      rcases findF_ge (l := l) (b := b) (n := n) (k := k + 1) with h | ⟨i, h1, h2, h3, h4⟩
      · exact .inl h
      · refine .inr ⟨i + 1, by rw [h1]; omega, by omega, by rw [show k + (i + 1) = k + 1 + i by omega]; exact h3, fun j hj => ?_⟩
        cases j with
        | zero => exact c
        | succ j => rw [show k + (j + 1) = k + 1 + j by omega]; exact h4 j (by omega)
theorem findF_none {l b : List UInt8} : ∀ {n k : Nat}, findF l b n k = -1 → ∀ i, i < n → ¬ (l.drop (k + i)).take b.length = b
  | 0, k, _, i, hi => by omega
  | n + 1, k, h, i, hi => by
    unfold findF at h
    by_cases c : (l.drop k).take b.length = b
    · rw [if_pos c] at h; omega
    · rw [if_neg c] at h
      cases i with
      | zero => exact c
      | succ i => rw [show k + (i + 1) = k + 1 + i by omega]; exact findF_none h i (by omega)
/-- The library's first place, from a place on. -/
theorem find_index {l b : List UInt8} {k : Nat} (hk : k ≤ l.length) : findOf l b k = if Lib.index (l.drop k) b < 0 then -1 else (k : Int) + Lib.index (l.drop k) b := by
  have hocc : ∀ j, Lib.occAt (l.drop k) b j = true ↔ (l.drop (k + j)).take b.length = b := fun j => by rw [occ_iff, List.drop_drop]
  have hroom : ∀ j, (l.drop (k + j)).take b.length = b → k + j ≤ l.length → k + j + b.length ≤ l.length := fun j h hj => by
    have := congrArg List.length h
    rw [List.length_take, List.length_drop] at this
    omega
  unfold findOf
  rcases findF_ge (l := l) (b := b) (n := l.length + 1 - b.length - k) (k := k) with h | ⟨i, h1, h2, h3, h4⟩
  · have hno := findF_none h
    have e : Lib.index (l.drop k) b = -1 := Lib.index_none fun j hj => by
      rw [List.length_drop] at hj
      refine Bool.eq_false_iff.2 fun ht => ?_
      have h5 := (hocc j).1 ht
      have h6 := hroom j h5 (by omega)
      exact hno j (by omega) h5
    rw [h, e, if_pos (by decide)]
  · have e : Lib.index (l.drop k) b = i := Lib.index_first (by rw [List.length_drop]; omega) ((hocc i).2 h3) fun j hj => Bool.eq_false_iff.2 fun ht => h4 j hj ((hocc j).1 ht)
    rw [h1, e, if_neg (by omega)]
    omega
end Go.Cl.Fi
namespace Go.Proofs.Ytndlajhkbepafaa
open Go.Cl Go.Cl.Fi
theorem rstands_any {lib : Prims} (hl : lib.at 29 = none) (s : ASt) (x : Value) (l b : List UInt8) (k : Nat) (hx : Sees s 1 x l.length (ofBytes l)) (hk : k + b.length ≤ l.length) (hlen : l.length ≤ 100000) :
    Runs Try.prog lib 29 [x, .int .i64 (k : Nat), .string ⟨b.toArray⟩] s fun v s' => v = .bool (decide ((l.drop k).take b.length = b)) ∧ s' = s := by
  refine Runs.enter 35 Try.func29 rfl hl rfl rfl ?_
  intro f hn hf
  have h0 : f.get 0 = x := hf 0
  have h1 : f.get 1 = .int .i64 (k : Nat) := hf 1
  have h2 : f.get 2 = .string ⟨b.toArray⟩ := hf 2
  clear hf
  have hcut := hx.cutB (lo := k) (hi := k + b.length) (by omega) (by omega)
  rw [show k + b.length - k = b.length by omega] at hcut
  have e1 := hcut.str (P := Try.prog) (dst := 9) Try.underlying22 Try.underlying9 Try.underlying5
  have d1 : ¬ ((k : Nat) : Int) < 0 := by omega
  have d2 : ¬ ((b.length : Nat) : Int) > ((l.length : Nat) : Int) := by omega
  have d3 : ¬ ((k : Nat) : Int) > ((l.length : Nat) : Int) - ((b.length : Nat) : Int) := by omega
  have ek : ((k : Nat) : Int) + ((b.length : Nat) : Int) = ((k + b.length : Nat) : Int) := by omega
  simp (config := { maxSteps := 1000000, implicitDefEqProofs := false }) (disch := omega) only [allW, allR, wfn_ret, wfn_normal, oneOf, evalAll, partsA, optA, Nat.reduceLT, Nat.reduceLeDiff, Nat.reduceEqDiff, Nat.reduceAdd, ↓reduceIte, hn, h0, h1, h2, hx.lenA Try.underlying22, hx.self, str_len Try.underlying9, eq_false d1, eq_false d2, eq_false d3, decide_false, wrapI, ek, hx.sliceBoth Try.underlying22 szU8, Int.toNat_natCast, e1, str_eql, Try.results29]
  try exact ⟨rfl, rfl⟩
theorem max0 (n : Int) : (if (0 : Int) > n then 0 else n) = ((n.toNat : Nat) : Int) := by
  split <;> omega
theorem rfind_any {lib : Prims} (hl : lib.at 21 = none) (hst : lib.at 29 = none) (s : ASt) (x : Value) (l b : List UInt8) (n : Int) (hx : Sees s 1 x l.length (ofBytes l)) (hlen : l.length ≤ 100000) (hbl : b.length ≤ 100000) :
    Runs Try.prog lib 21 [x, .string ⟨b.toArray⟩, .int .i64 n] s fun v s' => v = .int .i64 (findOf l b n.toNat) ∧ s' = s := by
  refine Runs.enter 24 Try.func21 rfl hl rfl rfl ?_
  intro f hn hf
  have h0 : f.get 0 = x := hf 0
  have h1 : f.get 1 = .string ⟨b.toArray⟩ := hf 1
  have h2 : f.get 2 = .int .i64 n := hf 2
  clear hf
  obtain ⟨R, hR⟩ : ∃ R, R = findOf l b n.toNat := ⟨_, rfl⟩
  rw [← hR]
  unfold findOf at hR
  obtain ⟨k0, hk0⟩ : ∃ k, n.toNat = k := ⟨_, rfl⟩
  rw [hk0] at hR
  simp (config := { maxSteps := 1000000, implicitDefEqProofs := false }) (disch := omega) only [allW, allR, oneOf, evalAll, partsA, optA, Nat.reduceLT, Nat.reduceLeDiff, Nat.reduceEqDiff, Nat.reduceAdd, ↓reduceIte, hn, h0, h1, h2, builtin_max, max0, hk0]
  refine Comes.loopOut (fun z f t => ∃ k : Nat, z = l.length + 1 - b.length - k ∧ t = s ∧ f.n = 24 ∧ f.get 0 = x ∧ f.get 1 = .string ⟨b.toArray⟩ ∧ f.get 7 = .int .i64 (k : Nat) ∧ R = findF l b z k)
    (fun z f t => t = s ∧ f.n = 24 ∧ ((z = .exit 0 ∧ R = -1) ∨ (z = .ret ∧ f.get 6 = .int .i64 R)))
    ⟨k0, rfl, rfl, by simp only [get_put, n_put, ↓reduceIte, Nat.reduceEqDiff, hn], by simp only [get_put, n_put, ↓reduceIte, Nat.reduceEqDiff, h0], by simp only [get_put, n_put, ↓reduceIte, Nat.reduceEqDiff, h1], by simp only [get_put, n_put, ↓reduceIte, Nat.reduceEqDiff], hR⟩ ?_ ?_
  · clear hn h0 h1 h2 f
    rintro Q hQ z f t ⟨k, hz, rfl, hn, h0, h1, h7, hr⟩
    by_cases c : k + b.length ≤ l.length
    rotate_left
    · have d1 : ¬ ((k : Nat) : Int) ≤ ((l.length : Nat) : Int) - ((b.length : Nat) : Int) := by omega
      rw [show z = 0 by omega] at hr
      simp (config := { maxSteps := 1000000, implicitDefEqProofs := false }) (disch := omega) only [allW, allR, oneOf, evalAll, partsA, optA, Nat.reduceLT, Nat.reduceLeDiff, Nat.reduceEqDiff, Nat.reduceAdd, ↓reduceIte, hn, h0, h1, h7, hx.lenA Try.underlying22, str_len Try.underlying9, wrapI, eq_false d1, decide_false]
      exact hQ _ _ _ ⟨rfl, by simp only [get_put, n_put, ↓reduceIte, Nat.reduceEqDiff, hn], .inl ⟨rfl, hr⟩⟩
    have d1 : ((k : Nat) : Int) ≤ ((l.length : Nat) : Int) - ((b.length : Nat) : Int) := by omega
    obtain ⟨w, rfl⟩ : ∃ w, z = w + 1 := ⟨z - 1, by omega⟩
    rw [findF] at hr
    simp (config := { maxSteps := 1000000, implicitDefEqProofs := false }) (disch := omega) only [allW, allR, oneOf, evalAll, partsA, optA, Nat.reduceLT, Nat.reduceLeDiff, Nat.reduceEqDiff, Nat.reduceAdd, ↓reduceIte, hn, h0, h1, h7, hx.lenA Try.underlying22, str_len Try.underlying9, wrapI, eq_true d1, decide_true]
    refine (rstands_any hst t x l b k hx (by omega) hlen).mono ?_
    rintro _ t1 ⟨rfl, rfl⟩
    by_cases ce : (l.drop k).take b.length = b
    · rw [if_pos ce] at hr
      simp (config := { maxSteps := 1000000, implicitDefEqProofs := false }) (disch := omega) only [allW, allR, oneOf, evalAll, partsA, optA, Nat.reduceLT, Nat.reduceLeDiff, Nat.reduceEqDiff, Nat.reduceAdd, ↓reduceIte, hn, h0, h1, h7, eq_true ce, decide_true]
      exact hQ _ _ _ ⟨rfl, by simp only [get_put, n_put, ↓reduceIte, Nat.reduceEqDiff, hn], .inr ⟨rfl, by simp only [get_put, n_put, ↓reduceIte, Nat.reduceEqDiff, h7]; rw [hr]⟩⟩
    · rw [if_neg ce] at hr
      simp (config := { maxSteps := 1000000, implicitDefEqProofs := false }) (disch := omega) only [allW, allR, oneOf, evalAll, partsA, optA, Nat.reduceLT, Nat.reduceLeDiff, Nat.reduceEqDiff, Nat.reduceAdd, ↓reduceIte, hn, h0, h1, h7, eq_false ce, decide_false, wrapI]
      exact wround_next w (by omega) ⟨k + 1, by omega, rfl, by simp only [get_put, n_put, ↓reduceIte, Nat.reduceEqDiff, hn], by simp only [get_put, n_put, ↓reduceIte, Nat.reduceEqDiff, h0], by simp only [get_put, n_put, ↓reduceIte, Nat.reduceEqDiff, h1], by simp only [get_put, n_put, ↓reduceIte, Nat.reduceEqDiff]; rfl, hr⟩
  clear hn h0 h1 h2 f
  rintro z f t ⟨rfl, hn, (⟨rfl, hr⟩ | ⟨rfl, h6⟩)⟩
  · simp (config := { maxSteps := 1000000, implicitDefEqProofs := false }) (disch := omega) only [allW, allR, wfn_ret, wfn_normal, oneOf, evalAll, partsA, optA, Nat.reduceLT, Nat.reduceLeDiff, Nat.reduceEqDiff, Nat.reduceAdd, ↓reduceIte, hn, Try.results21]
    rw [hr]
  · simp (config := { maxSteps := 1000000, implicitDefEqProofs := false }) (disch := omega) only [allW, allR, wfn_ret, wfn_normal, oneOf, evalAll, partsA, optA, Nat.reduceLT, Nat.reduceLeDiff, Nat.reduceEqDiff, Nat.reduceAdd, ↓reduceIte, hn, h6, Try.results21]
theorem rlast_any {lib : Prims} (hl : lib.at 23 = none) (hst : lib.at 29 = none) (s : ASt) (x : Value) (l b : List UInt8) (hx : Sees s 1 x l.length (ofBytes l)) (hlen : l.length ≤ 100000) (hbl : b.length ≤ 100000) :
    Runs Try.prog lib 23 [x, .string ⟨b.toArray⟩] s fun v s' => v = .int .i64 (lastOf l b) ∧ s' = s := by
  refine Runs.enter 20 Try.func23 rfl hl rfl rfl ?_
  intro f hn hf
  have h0 : f.get 0 = x := hf 0
  have h1 : f.get 1 = .string ⟨b.toArray⟩ := hf 1
  clear hf
  obtain ⟨R, hR⟩ : ∃ R, R = lastOf l b := ⟨_, rfl⟩
  rw [← hR]
  unfold lastOf at hR
  by_cases c : b.length ≤ l.length
  rotate_left
  · rw [if_neg c] at hR
    have d1 : ¬ ((l.length : Nat) : Int) - ((b.length : Nat) : Int) ≥ 0 := by omega
    simp (config := { maxSteps := 1000000, implicitDefEqProofs := false }) (disch := omega) only [allW, allR, oneOf, evalAll, partsA, optA, Nat.reduceLT, Nat.reduceLeDiff, Nat.reduceEqDiff, Nat.reduceAdd, ↓reduceIte, hn, h0, h1, hx.lenA Try.underlying22, str_len Try.underlying9, wrapI]
    refine Comes.loopOut (fun z f t => z = 0 ∧ t = s ∧ f.n = 20 ∧ f.get 5 = .int .i64 ((l.length : Nat) - (b.length : Nat))) (fun z f t => z = .exit 0 ∧ t = s ∧ f.n = 20) (k := 0) ⟨rfl, rfl, by simp only [get_put, n_put, ↓reduceIte, Nat.reduceEqDiff, hn], by simp only [get_put, n_put, ↓reduceIte, Nat.reduceEqDiff]⟩ ?_ ?_
    · clear hn h0 h1 f
      rintro Q hQ z f t ⟨rfl, rfl, hn, h5⟩
      simp (config := { maxSteps := 1000000, implicitDefEqProofs := false }) (disch := omega) only [allW, allR, oneOf, evalAll, partsA, optA, Nat.reduceLT, Nat.reduceLeDiff, Nat.reduceEqDiff, Nat.reduceAdd, ↓reduceIte, hn, h5, eq_false d1, decide_false]
      exact hQ _ _ _ ⟨rfl, rfl, by simp only [get_put, n_put, ↓reduceIte, Nat.reduceEqDiff, hn]⟩
    clear hn h0 h1 f
    rintro z f t ⟨rfl, rfl, hn⟩
    simp (config := { maxSteps := 1000000, implicitDefEqProofs := false }) (disch := omega) only [allW, allR, wfn_ret, wfn_normal, oneOf, evalAll, partsA, optA, Nat.reduceLT, Nat.reduceLeDiff, Nat.reduceEqDiff, Nat.reduceAdd, ↓reduceIte, hn, Try.results23]
    rw [hR]
  rw [if_pos c] at hR
  have el : ((l.length : Nat) : Int) - ((b.length : Nat) : Int) = ((l.length - b.length : Nat) : Int) := by omega
  simp (config := { maxSteps := 1000000, implicitDefEqProofs := false }) (disch := omega) only [allW, allR, oneOf, evalAll, partsA, optA, Nat.reduceLT, Nat.reduceLeDiff, Nat.reduceEqDiff, Nat.reduceAdd, ↓reduceIte, hn, h0, h1, hx.lenA Try.underlying22, str_len Try.underlying9, wrapI, el]
  refine Comes.loopOut (fun z f t => ∃ k : Nat, z = k ∧ k ≤ l.length - b.length + 1 ∧ t = s ∧ f.n = 20 ∧ f.get 0 = x ∧ f.get 1 = .string ⟨b.toArray⟩ ∧ f.get 5 = .int .i64 ((k : Int) - 1) ∧ R = lastF l b k)
    (fun z f t => t = s ∧ f.n = 20 ∧ ((z = .exit 0 ∧ R = -1) ∨ (z = .ret ∧ f.get 4 = .int .i64 R)))
    ⟨l.length - b.length + 1, rfl, Nat.le_refl _, rfl, by simp only [get_put, n_put, ↓reduceIte, Nat.reduceEqDiff, hn], by simp only [get_put, n_put, ↓reduceIte, Nat.reduceEqDiff, h0], by simp only [get_put, n_put, ↓reduceIte, Nat.reduceEqDiff, h1], by simp only [get_put, n_put, ↓reduceIte, Nat.reduceEqDiff]; congr 1; omega, hR⟩ ?_ ?_
  · clear hn h0 h1 f
    rintro Q hQ k f t ⟨_, rfl, hk, rfl, hn, h0, h1, h5, hr⟩
    cases k with
    | zero =>
      have d1 : ¬ ((0 : Nat) : Int) - 1 ≥ 0 := by omega
      simp (config := { maxSteps := 1000000, implicitDefEqProofs := false }) (disch := omega) only [allW, allR, oneOf, evalAll, partsA, optA, Nat.reduceLT, Nat.reduceLeDiff, Nat.reduceEqDiff, Nat.reduceAdd, ↓reduceIte, hn, h0, h1, h5, eq_false d1, decide_false]
      exact hQ _ _ _ ⟨rfl, by simp only [get_put, n_put, ↓reduceIte, Nat.reduceEqDiff, hn], .inl ⟨rfl, hr⟩⟩
    | succ k =>
      have e1 : (((k + 1 : Nat) : Int)) - 1 = (k : Int) := by omega
      have d1 : ((k : Nat) : Int) ≥ 0 := by omega
      rw [lastF] at hr
      simp (config := { maxSteps := 1000000, implicitDefEqProofs := false }) (disch := omega) only [allW, allR, oneOf, evalAll, partsA, optA, Nat.reduceLT, Nat.reduceLeDiff, Nat.reduceEqDiff, Nat.reduceAdd, ↓reduceIte, hn, h0, h1, h5, e1, eq_true d1, decide_true]
      refine (rstands_any hst t x l b k hx (by omega) hlen).mono ?_
      rintro _ t1 ⟨rfl, rfl⟩
      by_cases ce : (l.drop k).take b.length = b
      · rw [if_pos ce] at hr
        simp (config := { maxSteps := 1000000, implicitDefEqProofs := false }) (disch := omega) only [allW, allR, oneOf, evalAll, partsA, optA, Nat.reduceLT, Nat.reduceLeDiff, Nat.reduceEqDiff, Nat.reduceAdd, ↓reduceIte, hn, h0, h1, h5, e1, eq_true ce, decide_true]
        exact hQ _ _ _ ⟨rfl, by simp only [get_put, n_put, ↓reduceIte, Nat.reduceEqDiff, hn], .inr ⟨rfl, by simp only [get_put, n_put, ↓reduceIte, Nat.reduceEqDiff]; rw [hr]⟩⟩
      · rw [if_neg ce] at hr
        simp (config := { maxSteps := 1000000, implicitDefEqProofs := false }) (disch := omega) only [allW, allR, oneOf, evalAll, partsA, optA, Nat.reduceLT, Nat.reduceLeDiff, Nat.reduceEqDiff, Nat.reduceAdd, ↓reduceIte, hn, h0, h1, h5, e1, eq_false ce, decide_false, wrapI]
        exact wround_next k (by omega) ⟨k, rfl, by omega, rfl, by simp only [get_put, n_put, ↓reduceIte, Nat.reduceEqDiff, hn], by simp only [get_put, n_put, ↓reduceIte, Nat.reduceEqDiff, h0], by simp only [get_put, n_put, ↓reduceIte, Nat.reduceEqDiff, h1], by simp only [get_put, n_put, ↓reduceIte, Nat.reduceEqDiff], hr⟩
  clear hn h0 h1 f
  rintro z f t ⟨rfl, hn, (⟨rfl, hr⟩ | ⟨rfl, h4⟩)⟩
  · simp (config := { maxSteps := 1000000, implicitDefEqProofs := false }) (disch := omega) only [allW, allR, wfn_ret, wfn_normal, oneOf, evalAll, partsA, optA, Nat.reduceLT, Nat.reduceLeDiff, Nat.reduceEqDiff, Nat.reduceAdd, ↓reduceIte, hn, Try.results23]
    rw [hr]
  · simp (config := { maxSteps := 1000000, implicitDefEqProofs := false }) (disch := omega) only [allW, allR, wfn_ret, wfn_normal, oneOf, evalAll, partsA, optA, Nat.reduceLT, Nat.reduceLeDiff, Nat.reduceEqDiff, Nat.reduceAdd, ↓reduceIte, hn, h4, Try.results23]
theorem slF {s : ASt} {z : Nat} {v : Value} {n : Nat} {l : List Value} (h : Sees s z v n l) : ∃ a n c, v = .slice a n c := by cases h <;> exact ⟨_, _, _, rfl⟩
theorem index_any {lib : Prims} (h : lib.at 30 = some pIndex) (s : ASt) (x y : Value) (l b : List UInt8) (hx : Sees s 1 x l.length (ofBytes l)) (hy : Sees s 1 y b.length (ofBytes b)) (hlen : l.length ≤ 100000) (hbl : b.length ≤ 100000) :
    Runs Try.prog lib 30 [x, y] s fun v s' => v = .int .i64 (Lib.index l b) ∧ s' = s := by
  have h1 := hx.src
  have h2 := hy.src
  obtain ⟨a, n, c, rfl⟩ : ∃ a n c, x = .slice a n c := slF hx
  obtain ⟨a2, n2, c2, rfl⟩ : ∃ a n c, y = .slice a n c := slF hy
  exact Runs.prim h pIndex_fr (s' := s) (pIndex_of h1 h2 (by omega) (by omega)) ⟨rfl, rfl⟩
theorem find_any {lib : Prims} (hl : lib.at 20 = none) (hix : lib.at 30 = some pIndex) (s : ASt) (x : Value) (l b : List UInt8) (n : Int) (hx : Sees s 1 x l.length (ofBytes l)) (hlen : l.length ≤ 100000) (hbl : b.length ≤ 100000) :
    Runs Try.prog lib 20 [x, .string ⟨b.toArray⟩, .int .i64 n] s fun v s' => v = .int .i64 (findOf l b n.toNat) ∧ Stay s.next s s' := by
  refine Runs.enter 25 Try.func20 rfl hl rfl rfl ?_
  intro f hn hf
  have h0 : f.get 0 = x := hf 0
  have h1 : f.get 1 = .string ⟨b.toArray⟩ := hf 1
  have h2 : f.get 2 = .int .i64 n := hf 2
  clear hf
  obtain ⟨k, hk⟩ : ∃ k, n.toNat = k := ⟨_, rfl⟩
  rw [hk]
  by_cases c : l.length < k
  · have d1 : ((k : Nat) : Int) > ((l.length : Nat) : Int) := by omega
    have hv : findOf l b k = -1 := by unfold findOf; rw [show l.length + 1 - b.length - k = 0 by omega]; rfl
    simp (config := { maxSteps := 1000000, implicitDefEqProofs := false }) (disch := omega) only [allW, allR, wfn_ret, wfn_normal, oneOf, evalAll, partsA, optA, Nat.reduceLT, Nat.reduceLeDiff, Nat.reduceEqDiff, Nat.reduceAdd, ↓reduceIte, hn, h0, h1, h2, builtin_max, max0, hk, hx.lenA Try.underlying22, eq_true d1, decide_true, Try.results20]
    rw [hv]
    exact ⟨rfl, Stay.refl _ _⟩
  have d1 : ¬ ((k : Nat) : Int) > ((l.length : Nat) : Int) := by omega
  have hv := find_index (l := l) (b := b) (k := k) (by omega)
  have hcut := hx.cutB (lo := k) (hi := l.length) (by omega) (Nat.le_refl _)
  rw [List.take_of_length_le (by rw [List.length_drop]; exact Nat.le_refl _)] at hcut
  simp (config := { maxSteps := 1000000, implicitDefEqProofs := false }) (disch := omega) only [allW, allR, oneOf, evalAll, partsA, optA, Nat.reduceLT, Nat.reduceLeDiff, Nat.reduceEqDiff, Nat.reduceAdd, ↓reduceIte, hn, h0, h1, h2, builtin_max, max0, hk, hx.lenA Try.underlying22, eq_false d1, decide_false, hx.sliceLow Try.underlying22 szU8, Int.toNat_natCast, str_bytes Try.underlying9 Try.underlying22 Try.underlying5]
  refine wstep_newSlice (by rw [ofBytes_length, Nat.mul_one]) ?_
  intro y s1 hy _ k1
  simp (config := { maxSteps := 1000000, implicitDefEqProofs := false }) (disch := omega) only [allW, allR, oneOf, evalAll, partsA, optA, Nat.reduceLT, Nat.reduceLeDiff, Nat.reduceEqDiff, Nat.reduceAdd, ↓reduceIte, hn, h0, h1, h2]
  refine (index_any hix s1 _ y (l.drop k) b (hcut.keeps k1) hy.sees (by rw [List.length_drop]; omega) hbl).mono ?_
  rintro _ s2 ⟨rfl, rfl⟩
  have hge := Lib.index_ge (l.drop k) b
  by_cases ci : Lib.index (l.drop k) b < 0
  · rw [if_pos ci] at hv
    simp (config := { maxSteps := 1000000, implicitDefEqProofs := false }) (disch := omega) only [allW, allR, wfn_ret, wfn_normal, oneOf, evalAll, partsA, optA, Nat.reduceLT, Nat.reduceLeDiff, Nat.reduceEqDiff, Nat.reduceAdd, ↓reduceIte, hn, h0, h1, h2, eq_true ci, decide_true, Try.results20]
    rw [hv]
    exact ⟨rfl, k1⟩
  · rw [if_neg ci] at hv
    have hro := Lib.index_room (l.drop k) b (by omega)
    rw [List.length_drop] at hro
    simp (config := { maxSteps := 1000000, implicitDefEqProofs := false }) (disch := omega) only [allW, allR, wfn_ret, wfn_normal, oneOf, evalAll, partsA, optA, Nat.reduceLT, Nat.reduceLeDiff, Nat.reduceEqDiff, Nat.reduceAdd, ↓reduceIte, hn, h0, h1, h2, eq_false ci, decide_false, wrapI, Try.results20]
    rw [hv]
    exact ⟨rfl, k1⟩
theorem last_any {lib : Prims} (hl0 : lib.at 22 = none) (hl : lib.at 31 = none) (hlb : lib.at 38 = none) (heq : lib.at 34 = none) (hrk : lib.at 39 = none) (hh : lib.at 43 = none) (s : ASt) (x : Value) (l b : List UInt8) (hx : Sees s 1 x l.length (ofBytes l)) (hlen : l.length ≤ 100000) (hbl : b.length ≤ 100000) :
    Runs Try.prog lib 22 [x, .string ⟨b.toArray⟩] s fun v s' => v = .int .i64 (lastOf l b) ∧ Stay s.next s s' := by
  refine Runs.enter 9 Try.func22 rfl hl0 rfl rfl ?_
  intro f hn hf
  have h0 : f.get 0 = x := hf 0
  have h1 : f.get 1 = .string ⟨b.toArray⟩ := hf 1
  clear hf
  simp (config := { maxSteps := 1000000, implicitDefEqProofs := false }) (disch := omega) only [allW, allR, oneOf, evalAll, partsA, optA, Nat.reduceLT, Nat.reduceLeDiff, Nat.reduceEqDiff, Nat.reduceAdd, ↓reduceIte, hn, h0, h1, str_bytes Try.underlying9 Try.underlying22 Try.underlying5]
  refine wstep_newSlice (by rw [ofBytes_length, Nat.mul_one]) ?_
  intro y s1 hy _ k1
  simp (config := { maxSteps := 1000000, implicitDefEqProofs := false }) (disch := omega) only [allW, allR, oneOf, evalAll, partsA, optA, Nat.reduceLT, Nat.reduceLeDiff, Nat.reduceEqDiff, Nat.reduceAdd, ↓reduceIte, hn, h0, h1]
  refine (lastIndex_any hl hlb heq hrk hh s1 x y l b (hx.keeps k1) hy.sees hlen hbl).mono ?_
  rintro _ s2 ⟨rfl, rfl⟩
  simp (config := { maxSteps := 1000000, implicitDefEqProofs := false }) (disch := omega) only [allW, allR, wfn_ret, wfn_normal, oneOf, evalAll, partsA, optA, Nat.reduceLT, Nat.reduceLeDiff, Nat.reduceEqDiff, Nat.reduceAdd, ↓reduceIte, hn, Try.results22]
  first | exact k1 | exact ⟨rfl, k1⟩
end Go.Proofs.Ytndlajhkbepafaa
