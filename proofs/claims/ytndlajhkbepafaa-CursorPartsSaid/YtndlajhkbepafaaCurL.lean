/-
  The program's LastIndex.
-/
import Derived.Test.YtndlajhkbepafaaCurH
set_option linter.unusedSimpArgs false
set_option linter.unusedVariables false
set_option maxRecDepth 100000
namespace Go.Cl.Fi
theorem win_at {l : List UInt8} {k n : Nat} (hn : 1 ≤ n) (h : k + n < l.length) : ∃ r, r.length + 1 = n ∧ (l.drop k).take n = l.getD k 0 :: r ∧ (l.drop (k + 1)).take n = r ++ [l.getD (k + n) 0] := by
  refine ⟨(l.drop (k + 1)).take (n - 1), by rw [List.length_take, List.length_drop]; omega, ?_, ?_⟩
  · rw [drop_at (k := k) (by omega)]
    obtain ⟨m, rfl⟩ : ∃ m, n = m + 1 := ⟨n - 1, by omega⟩
    rfl
  · obtain ⟨m, rfl⟩ : ∃ m, n = m + 1 := ⟨n - 1, by omega⟩
    rw [List.take_add_one, Nat.add_sub_cancel, List.getElem?_drop, List.getElem?_eq_getElem (by omega), List.getD_eq_getElem?_getD, List.getElem?_eq_getElem (by omega)]
    simp only [Option.toList_some, Option.getD_some]
    congr 3
    omega
end Go.Cl.Fi
namespace Go.Proofs.Ytndlajhkbepafaa
open Go.Cl Go.Cl.Fi
theorem equal_any {lib : Prims} (hl : lib.at 34 = none) (s : ASt) (x y : Value) (a b : List UInt8) (hx : Sees s 1 x a.length (ofBytes a)) (hy : Sees s 1 y b.length (ofBytes b)) :
    Runs Try.prog lib 34 [x, y] s fun v s' => v = .bool (decide (a = b)) ∧ s' = s := by
  refine Runs.enter 10 Try.func34 rfl hl rfl rfl ?_
  intro f hn hf
  have h0 : f.get 0 = x := hf 0
  have h1 : f.get 1 = y := hf 1
  clear hf
  have e1 := hx.str (P := Try.prog) (dst := 9) Try.underlying22 Try.underlying9 Try.underlying5
  have e2 := hy.str (P := Try.prog) (dst := 9) Try.underlying22 Try.underlying9 Try.underlying5
  simp (config := { maxSteps := 1000000, implicitDefEqProofs := false }) (disch := omega) only [allW, allR, wfn_ret, wfn_normal, oneOf, evalAll, partsA, optA, Nat.reduceLT, Nat.reduceLeDiff, Nat.reduceEqDiff, Nat.reduceAdd, ↓reduceIte, hn, h0, h1, e1, e2, str_eql, Try.results34]
  try exact ⟨rfl, rfl⟩
set_option maxRecDepth 100000 in
set_option maxHeartbeats 8000000 in
theorem lastRK_any {lib : Prims} (hl : lib.at 39 = none) (hh : lib.at 43 = none) (s : ASt) (x y : Value) (l b : List UInt8) (hx : Sees s 1 x l.length (ofBytes l)) (hy : Sees s 1 y b.length (ofBytes b)) (hlen : l.length ≤ 100000) (hb1 : 1 ≤ b.length) (hbl : b.length < l.length) :
    Runs Try.prog lib 39 [x, y] s fun v s' => v = .int .i64 (lastF l b (l.length - b.length + 1)) ∧ s' = s := by
  refine Runs.enter 94 Try.func39 rfl hl rfl rfl ?_
  intro f hn hf
  have h0 : f.get 0 = x := hf 0
  have h1 : f.get 1 = y := hf 1
  clear hf
  obtain ⟨last, hlast⟩ : ∃ n, n = l.length - b.length := ⟨_, rfl⟩
  obtain ⟨R, hR⟩ : ∃ R, R = lastF l b (last + 1) := ⟨_, rfl⟩
  rw [← hlast, ← hR]
  have e2 := hy.str (P := Try.prog) (dst := 9) Try.underlying22 Try.underlying9 Try.underlying5
  have el : (l.length : Int) - (b.length : Int) = (last : Int) := by omega
  simp (config := { maxSteps := 1000000, implicitDefEqProofs := false }) (disch := omega) only [allW, allR, oneOf, evalAll, partsA, optA, Nat.reduceLT, Nat.reduceLeDiff, Nat.reduceEqDiff, Nat.reduceAdd, ↓reduceIte, hn, h0, h1]
  refine (hash_any hh s y b hy (by omega)).mono ?_
  rintro _ s1 ⟨rfl, rfl⟩
  simp (config := { maxSteps := 1000000, implicitDefEqProofs := false }) (disch := omega) only [allW, allR, oneOf, evalAll, partsA, optA, Nat.reduceLT, Nat.reduceLeDiff, Nat.reduceEqDiff, Nat.reduceAdd, ↓reduceIte, hn, h0, h1, extractA, List.getElem?_toArray, List.getElem?_cons_zero, List.getElem?_cons_succ, hx.lenA Try.underlying22, hy.lenA Try.underlying22, wrapI, el]
  refine Comes.loopOut (fun z f t => ∃ k : Nat, z = k - last ∧ last ≤ k ∧ k ≤ l.length ∧ t = s1 ∧ f.n = 94 ∧ f.get 0 = x ∧ f.get 1 = y ∧ f.get 5 = .int .u32 (hN b : Nat) ∧ f.get 6 = .int .u32 (pw b.length : Nat) ∧ f.get 7 = .int .i64 (b.length : Nat) ∧ f.get 8 = .int .i64 (last : Nat) ∧ f.get 9 = .int .u32 (hN (l.drop k) : Nat) ∧ f.get 10 = .int .i64 ((k : Int) - 1))
    (fun z f t => z = .exit 0 ∧ t = s1 ∧ f.n = 94 ∧ f.get 0 = x ∧ f.get 1 = y ∧ f.get 5 = .int .u32 (hN b : Nat) ∧ f.get 6 = .int .u32 (pw b.length : Nat) ∧ f.get 7 = .int .i64 (b.length : Nat) ∧ f.get 8 = .int .i64 (last : Nat) ∧ f.get 9 = .int .u32 (hN (l.drop last) : Nat))
    ⟨l.length, rfl, by omega, Nat.le_refl _, rfl, by simp only [get_put, n_put, ↓reduceIte, Nat.reduceEqDiff, hn], by simp only [get_put, n_put, ↓reduceIte, Nat.reduceEqDiff, h0], by simp only [get_put, n_put, ↓reduceIte, Nat.reduceEqDiff, h1], by simp only [get_put, n_put, ↓reduceIte, Nat.reduceEqDiff], by simp only [get_put, n_put, ↓reduceIte, Nat.reduceEqDiff], by simp only [get_put, n_put, ↓reduceIte, Nat.reduceEqDiff], by simp only [get_put, n_put, ↓reduceIte, Nat.reduceEqDiff], by simp only [get_put, n_put, ↓reduceIte, Nat.reduceEqDiff]; rw [List.drop_of_length_le (Nat.le_refl _)]; rfl, by simp only [get_put, n_put, ↓reduceIte, Nat.reduceEqDiff]⟩ ?_ ?_
  · clear hn h0 h1 f
    rintro Q hQ z f t ⟨k, rfl, hk0, hk, rfl, hn, h0, h1, h5, h6, h7, h8, h9, h10⟩
    by_cases c : last < k
    rotate_left
    · obtain rfl : k = last := by omega
      have d1 : ¬ ((k : Nat) : Int) - 1 ≥ (k : Nat) := by omega
      simp (config := { maxSteps := 1000000, implicitDefEqProofs := false }) (disch := omega) only [allW, allR, oneOf, evalAll, partsA, optA, Nat.reduceLT, Nat.reduceLeDiff, Nat.reduceEqDiff, Nat.reduceAdd, ↓reduceIte, hn, h0, h1, h5, h6, h7, h8, h9, h10, eq_false d1, decide_false]
      exact hQ _ _ _ ⟨rfl, rfl, by simp only [get_put, n_put, ↓reduceIte, Nat.reduceEqDiff, hn], by simp only [get_put, n_put, ↓reduceIte, Nat.reduceEqDiff, h0], by simp only [get_put, n_put, ↓reduceIte, Nat.reduceEqDiff, h1], by simp only [get_put, n_put, ↓reduceIte, Nat.reduceEqDiff, h5], by simp only [get_put, n_put, ↓reduceIte, Nat.reduceEqDiff, h6], by simp only [get_put, n_put, ↓reduceIte, Nat.reduceEqDiff, h7], by simp only [get_put, n_put, ↓reduceIte, Nat.reduceEqDiff, h8], by simp only [get_put, n_put, ↓reduceIte, Nat.reduceEqDiff, h9]⟩
    obtain ⟨j, rfl⟩ : ∃ j, k = j + 1 := ⟨k - 1, by omega⟩
    have e1 : (((j + 1 : Nat) : Int)) - 1 = (j : Int) := by omega
    have d1 : ((j : Nat) : Int) ≥ (last : Nat) := by omega
    have hii := hx.indexAddr (P := Try.prog) (k := .i64) (x := (j : Int)) Try.underlying22 szU8 (by omega) (by omega)
    rw [Int.toNat_natCast] at hii
    have hli := hx.load1 (P := Try.prog) agU8 (k := j) (by omega)
    rw [ofBytes_getD (by omega)] at hli
    have hb := (l.getD j 0).toNat_lt
    have hd : ((((hN (l.drop (j + 1)) : Nat) : Int) * 16777619) % 4294967296 + (((l.getD j 0).toNat : Nat) : Int) % 4294967296) % 4294967296 = ((hN (l.drop j) : Nat) : Int) := by
      rw [drop_at (k := j) (by omega), hN]; omega
    simp (config := { maxSteps := 1000000, implicitDefEqProofs := false }) (disch := omega) only [allW, allR, oneOf, evalAll, partsA, optA, Nat.reduceLT, Nat.reduceLeDiff, Nat.reduceEqDiff, Nat.reduceAdd, ↓reduceIte, hn, h0, h1, h5, h6, h7, h8, h9, h10, e1, eq_true d1, decide_true, hii, hli, conv_int Try.underlying5 Try.underlying57, wrapu32m, hd, wrapI]
    exact wround_next (j - last) (by omega) ⟨j, rfl, by omega, by omega, rfl, by simp only [get_put, n_put, ↓reduceIte, Nat.reduceEqDiff, hn], by simp only [get_put, n_put, ↓reduceIte, Nat.reduceEqDiff, h0], by simp only [get_put, n_put, ↓reduceIte, Nat.reduceEqDiff, h1], by simp only [get_put, n_put, ↓reduceIte, Nat.reduceEqDiff, h5], by simp only [get_put, n_put, ↓reduceIte, Nat.reduceEqDiff, h6], by simp only [get_put, n_put, ↓reduceIte, Nat.reduceEqDiff, h7], by simp only [get_put, n_put, ↓reduceIte, Nat.reduceEqDiff, h8], by simp only [get_put, n_put, ↓reduceIte, Nat.reduceEqDiff], by simp only [get_put, n_put, ↓reduceIte, Nat.reduceEqDiff]⟩
  clear hn h0 h1 f
  rintro z f t ⟨rfl, rfl, hn, h0, h1, h5, h6, h7, h8, h9⟩
  have hcut := hx.cutB (lo := last) (hi := l.length) (by omega) (Nat.le_refl _)
  rw [List.take_of_length_le (by rw [List.length_drop]; exact Nat.le_refl _)] at hcut
  have e1 := hcut.str (P := Try.prog) (dst := 9) Try.underlying22 Try.underlying9 Try.underlying5
  have ew : (l.drop last).take b.length = l.drop last := List.take_of_length_le (by rw [List.length_drop]; omega)
  rw [lastF, ew] at hR
  by_cases ce : l.drop last = b
  · rw [if_pos ce] at hR
    rw [ce] at e1
    have h9 : f.get 9 = .int .u32 (hN b : Nat) := by rw [h9, ce]
    simp (config := { maxSteps := 1000000, implicitDefEqProofs := false }) (disch := omega) only [allW, allR, wfn_ret, wfn_normal, oneOf, evalAll, partsA, optA, Nat.reduceLT, Nat.reduceLeDiff, Nat.reduceEqDiff, Nat.reduceAdd, ↓reduceIte, undef, hn, h0, h1, h5, h6, h7, h8, h9, hx.self, hy.self, hcut.self, valEq_int, valEq_string, valEq_bool, valEq_cutS, Try.underlying3, Try.underlying5, Try.underlying22, Try.underlying9, Try.underlying57, Try.underlying50, decide_true, hx.sliceLow Try.underlying22 szU8, Int.toNat_natCast, hcut.self, e1, e2, str_eql, Try.results39]
    rw [hR]
  rw [if_neg ce] at hR
  by_cases ch : hN (l.drop last) = hN b
  · have dh : ((hN (l.drop last) : Nat) : Int) = ((hN b : Nat) : Int) := by omega
    simp (config := { maxSteps := 1000000, implicitDefEqProofs := false }) (disch := omega) only [allW, allR, oneOf, evalAll, partsA, optA, Nat.reduceLT, Nat.reduceLeDiff, Nat.reduceEqDiff, Nat.reduceAdd, ↓reduceIte, undef, hn, h0, h1, h5, h6, h7, h8, h9, hx.self, hy.self, hcut.self, valEq_int, valEq_string, valEq_bool, valEq_cutS, Try.underlying3, Try.underlying5, Try.underlying22, Try.underlying9, Try.underlying57, Try.underlying50, hx.sliceLow Try.underlying22 szU8, Int.toNat_natCast, e1, e2, str_eql, eq_true dh, eq_false ce, decide_true, decide_false, wrapI]
    refine Comes.loopOut (fun z f t' => ∃ k : Nat, z = k ∧ k ≤ last ∧ t' = t ∧ f.n = 94 ∧ f.get 0 = x ∧ f.get 1 = y ∧ f.get 5 = .int .u32 (hN b : Nat) ∧ f.get 6 = .int .u32 (pw b.length : Nat) ∧ f.get 7 = .int .i64 (b.length : Nat) ∧ f.get 9 = .int .u32 (hN ((l.drop k).take b.length) : Nat) ∧ f.get 11 = .int .i64 ((k : Int) - 1) ∧ R = lastF l b k)
      (fun z f t' => t' = t ∧ f.n = 94 ∧ ((z = .exit 2 ∧ R = -1) ∨ (z = .ret ∧ f.get 4 = .int .i64 R)))
      ⟨last, rfl, Nat.le_refl _, rfl, by simp only [get_put, n_put, ↓reduceIte, Nat.reduceEqDiff, hn], by simp only [get_put, n_put, ↓reduceIte, Nat.reduceEqDiff, h0], by simp only [get_put, n_put, ↓reduceIte, Nat.reduceEqDiff, h1], by simp only [get_put, n_put, ↓reduceIte, Nat.reduceEqDiff, h5], by simp only [get_put, n_put, ↓reduceIte, Nat.reduceEqDiff, h6], by simp only [get_put, n_put, ↓reduceIte, Nat.reduceEqDiff, h7], by simp only [get_put, n_put, ↓reduceIte, Nat.reduceEqDiff, h9]; rw [ew], by simp only [get_put, n_put, ↓reduceIte, Nat.reduceEqDiff], hR⟩ ?_ ?_
    · clear hn h0 h1 h5 h6 h7 h8 h9 f hcut e1
      rintro Q hQ k f t' ⟨_, rfl, hk, rfl, hn, h0, h1, h5, h6, h7, h9, h11, hr⟩
      cases k with
      | zero =>
        have d1 : ¬ ((0 : Nat) : Int) - 1 ≥ 0 := by omega
        simp (config := { maxSteps := 1000000, implicitDefEqProofs := false }) (disch := omega) only [allW, allR, oneOf, evalAll, partsA, optA, Nat.reduceLT, Nat.reduceLeDiff, Nat.reduceEqDiff, Nat.reduceAdd, ↓reduceIte, hn, h0, h1, h5, h6, h7, h9, h11, eq_false d1, decide_false]
        exact hQ _ _ _ ⟨rfl, by simp only [get_put, n_put, ↓reduceIte, Nat.reduceEqDiff, hn], .inl ⟨rfl, hr⟩⟩
      | succ j =>
        have ej : (((j + 1 : Nat) : Int)) - 1 = (j : Int) := by omega
        have d1 : ((j : Nat) : Int) ≥ 0 := by omega
        have ejn : ((j : Nat) : Int) + (b.length : Nat) = ((j + b.length : Nat) : Int) := by omega
        have hii := hx.indexAddr (P := Try.prog) (k := .i64) (x := (j : Int)) Try.underlying22 szU8 (by omega) (by omega)
        have hij := hx.indexAddr (P := Try.prog) (k := .i64) (x := ((j + b.length : Nat) : Int)) Try.underlying22 szU8 (by omega) (by omega)
        rw [Int.toNat_natCast] at hii hij
        have hli := hx.load1 (P := Try.prog) agU8 (k := j) (by omega)
        have hlj := hx.load1 (P := Try.prog) agU8 (k := j + b.length) (by omega)
        rw [ofBytes_getD (by omega)] at hli hlj
        obtain ⟨r, hr1, hw0, hw1⟩ := win_at (l := l) (k := j) (n := b.length) hb1 (by omega)
        have hro := roll (l.getD j 0) r (l.getD (j + b.length) 0)
        rw [← hw0, ← hw1, hr1] at hro
        have hc8 := (l.getD j 0).toNat_lt
        have hz8 := (l.getD (j + b.length) 0).toNat_lt
        have hd : ((((hN ((l.drop (j + 1)).take b.length) : Nat) : Int) * 16777619 % 4294967296 + (((l.getD j 0).toNat : Nat) : Int) % 4294967296) % 4294967296 - ((pw b.length : Nat) : Int) * ((((l.getD (j + b.length) 0).toNat : Nat) : Int) % 4294967296) % 4294967296) % 4294967296 = ((hN ((l.drop j).take b.length) : Nat) : Int) := by
          rw [Int.emod_eq_of_lt (a := (((l.getD j 0).toNat : Nat) : Int)) (by omega) (by omega), Int.emod_eq_of_lt (a := (((l.getD (j + b.length) 0).toNat : Nat) : Int)) (by omega) (by omega), lt32, hro]
        have hcut := hx.cutB (lo := j) (hi := j + b.length) (by omega) (by omega)
        rw [show j + b.length - j = b.length by omega] at hcut
        have e1 := hcut.str (P := Try.prog) (dst := 9) Try.underlying22 Try.underlying9 Try.underlying5
        rw [lastF] at hr
        by_cases cm : (l.drop j).take b.length = b
        · rw [if_pos cm] at hr
          rw [cm] at e1 hd
          simp (config := { maxSteps := 1000000, implicitDefEqProofs := false }) (disch := omega) only [allW, allR, oneOf, evalAll, partsA, optA, Nat.reduceLT, Nat.reduceLeDiff, Nat.reduceEqDiff, Nat.reduceAdd, ↓reduceIte, undef, hn, h0, h1, h5, h6, h7, h9, h11, hx.self, hy.self, hcut.self, valEq_int, valEq_string, valEq_bool, valEq_cutS, Try.underlying3, Try.underlying5, Try.underlying22, Try.underlying9, Try.underlying57, Try.underlying50, ej, eq_true d1, decide_true, hii, hli, hij, hlj, ejn, conv_int Try.underlying5 Try.underlying57, wrapu32m, hd, wrapI, hx.sliceBoth Try.underlying22 szU8, Int.toNat_natCast, e1, e2, str_eql]
          exact hQ _ _ _ ⟨rfl, by simp only [get_put, n_put, ↓reduceIte, Nat.reduceEqDiff, hn], .inr ⟨rfl, by simp only [get_put, n_put, ↓reduceIte, Nat.reduceEqDiff]; rw [hr]⟩⟩
        rw [if_neg cm] at hr
        by_cases cq : hN ((l.drop j).take b.length) = hN b
        · have dq : ((hN ((l.drop j).take b.length) : Nat) : Int) = ((hN b : Nat) : Int) := by omega
          simp (config := { maxSteps := 1000000, implicitDefEqProofs := false }) (disch := omega) only [allW, allR, oneOf, evalAll, partsA, optA, Nat.reduceLT, Nat.reduceLeDiff, Nat.reduceEqDiff, Nat.reduceAdd, ↓reduceIte, undef, hn, h0, h1, h5, h6, h7, h9, h11, hx.self, hy.self, hcut.self, valEq_int, valEq_string, valEq_bool, valEq_cutS, Try.underlying3, Try.underlying5, Try.underlying22, Try.underlying9, Try.underlying57, Try.underlying50, ej, eq_true d1, decide_true, hii, hli, hij, hlj, ejn, conv_int Try.underlying5 Try.underlying57, wrapu32m, hd, wrapI, hx.sliceBoth Try.underlying22 szU8, Int.toNat_natCast, e1, e2, str_eql, eq_true dq, eq_false cm, decide_false]
          exact wround_next j (by omega) ⟨j, rfl, by omega, rfl, by simp only [get_put, n_put, ↓reduceIte, Nat.reduceEqDiff, hn], by simp only [get_put, n_put, ↓reduceIte, Nat.reduceEqDiff, h0], by simp only [get_put, n_put, ↓reduceIte, Nat.reduceEqDiff, h1], by simp only [get_put, n_put, ↓reduceIte, Nat.reduceEqDiff, h5], by simp only [get_put, n_put, ↓reduceIte, Nat.reduceEqDiff, h6], by simp only [get_put, n_put, ↓reduceIte, Nat.reduceEqDiff, h7], by simp only [get_put, n_put, ↓reduceIte, Nat.reduceEqDiff], by simp only [get_put, n_put, ↓reduceIte, Nat.reduceEqDiff], hr⟩
        · have dq : ¬ ((hN ((l.drop j).take b.length) : Nat) : Int) = ((hN b : Nat) : Int) := by omega
          simp (config := { maxSteps := 1000000, implicitDefEqProofs := false }) (disch := omega) only [allW, allR, oneOf, evalAll, partsA, optA, Nat.reduceLT, Nat.reduceLeDiff, Nat.reduceEqDiff, Nat.reduceAdd, ↓reduceIte, undef, hn, h0, h1, h5, h6, h7, h9, h11, hx.self, hy.self, hcut.self, valEq_int, valEq_string, valEq_bool, valEq_cutS, Try.underlying3, Try.underlying5, Try.underlying22, Try.underlying9, Try.underlying57, Try.underlying50, ej, eq_true d1, decide_true, hii, hli, hij, hlj, ejn, conv_int Try.underlying5 Try.underlying57, wrapu32m, hd, wrapI, eq_false dq, decide_false]
          exact wround_next j (by omega) ⟨j, rfl, by omega, rfl, by simp only [get_put, n_put, ↓reduceIte, Nat.reduceEqDiff, hn], by simp only [get_put, n_put, ↓reduceIte, Nat.reduceEqDiff, h0], by simp only [get_put, n_put, ↓reduceIte, Nat.reduceEqDiff, h1], by simp only [get_put, n_put, ↓reduceIte, Nat.reduceEqDiff, h5], by simp only [get_put, n_put, ↓reduceIte, Nat.reduceEqDiff, h6], by simp only [get_put, n_put, ↓reduceIte, Nat.reduceEqDiff, h7], by simp only [get_put, n_put, ↓reduceIte, Nat.reduceEqDiff], by simp only [get_put, n_put, ↓reduceIte, Nat.reduceEqDiff], hr⟩
    clear hn h0 h1 h5 h6 h7 h8 h9 f
    rintro z f t' ⟨rfl, hn, (⟨rfl, hr⟩ | ⟨rfl, h4⟩)⟩
    · simp (config := { maxSteps := 1000000, implicitDefEqProofs := false }) (disch := omega) only [allW, allR, wfn_ret, wfn_normal, oneOf, evalAll, partsA, optA, Nat.reduceLT, Nat.reduceLeDiff, Nat.reduceEqDiff, Nat.reduceAdd, ↓reduceIte, hn, Try.results39]
      rw [hr]
    · simp (config := { maxSteps := 1000000, implicitDefEqProofs := false }) (disch := omega) only [allW, allR, wfn_ret, wfn_normal, oneOf, evalAll, partsA, optA, Nat.reduceLT, Nat.reduceLeDiff, Nat.reduceEqDiff, Nat.reduceAdd, ↓reduceIte, hn, h4, Try.results39]
  · have dh : ¬ ((hN (l.drop last) : Nat) : Int) = ((hN b : Nat) : Int) := by omega
    simp (config := { maxSteps := 1000000, implicitDefEqProofs := false }) (disch := omega) only [allW, allR, oneOf, evalAll, partsA, optA, Nat.reduceLT, Nat.reduceLeDiff, Nat.reduceEqDiff, Nat.reduceAdd, ↓reduceIte, undef, hn, h0, h1, h5, h6, h7, h8, h9, hx.self, hy.self, hcut.self, valEq_int, valEq_string, valEq_bool, valEq_cutS, Try.underlying3, Try.underlying5, Try.underlying22, Try.underlying9, Try.underlying57, Try.underlying50, eq_false dh, decide_false, wrapI]
    refine Comes.loopOut (fun z f t' => ∃ k : Nat, z = k ∧ k ≤ last ∧ t' = t ∧ f.n = 94 ∧ f.get 0 = x ∧ f.get 1 = y ∧ f.get 5 = .int .u32 (hN b : Nat) ∧ f.get 6 = .int .u32 (pw b.length : Nat) ∧ f.get 7 = .int .i64 (b.length : Nat) ∧ f.get 9 = .int .u32 (hN ((l.drop k).take b.length) : Nat) ∧ f.get 11 = .int .i64 ((k : Int) - 1) ∧ R = lastF l b k)
      (fun z f t' => t' = t ∧ f.n = 94 ∧ ((z = .exit 2 ∧ R = -1) ∨ (z = .ret ∧ f.get 4 = .int .i64 R)))
      ⟨last, rfl, Nat.le_refl _, rfl, by simp only [get_put, n_put, ↓reduceIte, Nat.reduceEqDiff, hn], by simp only [get_put, n_put, ↓reduceIte, Nat.reduceEqDiff, h0], by simp only [get_put, n_put, ↓reduceIte, Nat.reduceEqDiff, h1], by simp only [get_put, n_put, ↓reduceIte, Nat.reduceEqDiff, h5], by simp only [get_put, n_put, ↓reduceIte, Nat.reduceEqDiff, h6], by simp only [get_put, n_put, ↓reduceIte, Nat.reduceEqDiff, h7], by simp only [get_put, n_put, ↓reduceIte, Nat.reduceEqDiff, h9]; rw [ew], by simp only [get_put, n_put, ↓reduceIte, Nat.reduceEqDiff], hR⟩ ?_ ?_
    · clear hn h0 h1 h5 h6 h7 h8 h9 f hcut e1
      rintro Q hQ k f t' ⟨_, rfl, hk, rfl, hn, h0, h1, h5, h6, h7, h9, h11, hr⟩
      cases k with
      | zero =>
        have d1 : ¬ ((0 : Nat) : Int) - 1 ≥ 0 := by omega
        simp (config := { maxSteps := 1000000, implicitDefEqProofs := false }) (disch := omega) only [allW, allR, oneOf, evalAll, partsA, optA, Nat.reduceLT, Nat.reduceLeDiff, Nat.reduceEqDiff, Nat.reduceAdd, ↓reduceIte, hn, h0, h1, h5, h6, h7, h9, h11, eq_false d1, decide_false]
        exact hQ _ _ _ ⟨rfl, by simp only [get_put, n_put, ↓reduceIte, Nat.reduceEqDiff, hn], .inl ⟨rfl, hr⟩⟩
      | succ j =>
        have ej : (((j + 1 : Nat) : Int)) - 1 = (j : Int) := by omega
        have d1 : ((j : Nat) : Int) ≥ 0 := by omega
        have ejn : ((j : Nat) : Int) + (b.length : Nat) = ((j + b.length : Nat) : Int) := by omega
        have hii := hx.indexAddr (P := Try.prog) (k := .i64) (x := (j : Int)) Try.underlying22 szU8 (by omega) (by omega)
        have hij := hx.indexAddr (P := Try.prog) (k := .i64) (x := ((j + b.length : Nat) : Int)) Try.underlying22 szU8 (by omega) (by omega)
        rw [Int.toNat_natCast] at hii hij
        have hli := hx.load1 (P := Try.prog) agU8 (k := j) (by omega)
        have hlj := hx.load1 (P := Try.prog) agU8 (k := j + b.length) (by omega)
        rw [ofBytes_getD (by omega)] at hli hlj
        obtain ⟨r, hr1, hw0, hw1⟩ := win_at (l := l) (k := j) (n := b.length) hb1 (by omega)
        have hro := roll (l.getD j 0) r (l.getD (j + b.length) 0)
        rw [← hw0, ← hw1, hr1] at hro
        have hc8 := (l.getD j 0).toNat_lt
        have hz8 := (l.getD (j + b.length) 0).toNat_lt
        have hd : ((((hN ((l.drop (j + 1)).take b.length) : Nat) : Int) * 16777619 % 4294967296 + (((l.getD j 0).toNat : Nat) : Int) % 4294967296) % 4294967296 - ((pw b.length : Nat) : Int) * ((((l.getD (j + b.length) 0).toNat : Nat) : Int) % 4294967296) % 4294967296) % 4294967296 = ((hN ((l.drop j).take b.length) : Nat) : Int) := by
          rw [Int.emod_eq_of_lt (a := (((l.getD j 0).toNat : Nat) : Int)) (by omega) (by omega), Int.emod_eq_of_lt (a := (((l.getD (j + b.length) 0).toNat : Nat) : Int)) (by omega) (by omega), lt32, hro]
        have hcut := hx.cutB (lo := j) (hi := j + b.length) (by omega) (by omega)
        rw [show j + b.length - j = b.length by omega] at hcut
        have e1 := hcut.str (P := Try.prog) (dst := 9) Try.underlying22 Try.underlying9 Try.underlying5
        rw [lastF] at hr
        by_cases cm : (l.drop j).take b.length = b
        · rw [if_pos cm] at hr
          rw [cm] at e1 hd
          simp (config := { maxSteps := 1000000, implicitDefEqProofs := false }) (disch := omega) only [allW, allR, oneOf, evalAll, partsA, optA, Nat.reduceLT, Nat.reduceLeDiff, Nat.reduceEqDiff, Nat.reduceAdd, ↓reduceIte, undef, hn, h0, h1, h5, h6, h7, h9, h11, hx.self, hy.self, hcut.self, valEq_int, valEq_string, valEq_bool, valEq_cutS, Try.underlying3, Try.underlying5, Try.underlying22, Try.underlying9, Try.underlying57, Try.underlying50, ej, eq_true d1, decide_true, hii, hli, hij, hlj, ejn, conv_int Try.underlying5 Try.underlying57, wrapu32m, hd, wrapI, hx.sliceBoth Try.underlying22 szU8, Int.toNat_natCast, e1, e2, str_eql]
          exact hQ _ _ _ ⟨rfl, by simp only [get_put, n_put, ↓reduceIte, Nat.reduceEqDiff, hn], .inr ⟨rfl, by simp only [get_put, n_put, ↓reduceIte, Nat.reduceEqDiff]; rw [hr]⟩⟩
        rw [if_neg cm] at hr
        by_cases cq : hN ((l.drop j).take b.length) = hN b
        · have dq : ((hN ((l.drop j).take b.length) : Nat) : Int) = ((hN b : Nat) : Int) := by omega
          simp (config := { maxSteps := 1000000, implicitDefEqProofs := false }) (disch := omega) only [allW, allR, oneOf, evalAll, partsA, optA, Nat.reduceLT, Nat.reduceLeDiff, Nat.reduceEqDiff, Nat.reduceAdd, ↓reduceIte, undef, hn, h0, h1, h5, h6, h7, h9, h11, hx.self, hy.self, hcut.self, valEq_int, valEq_string, valEq_bool, valEq_cutS, Try.underlying3, Try.underlying5, Try.underlying22, Try.underlying9, Try.underlying57, Try.underlying50, ej, eq_true d1, decide_true, hii, hli, hij, hlj, ejn, conv_int Try.underlying5 Try.underlying57, wrapu32m, hd, wrapI, hx.sliceBoth Try.underlying22 szU8, Int.toNat_natCast, e1, e2, str_eql, eq_true dq, eq_false cm, decide_false]
          exact wround_next j (by omega) ⟨j, rfl, by omega, rfl, by simp only [get_put, n_put, ↓reduceIte, Nat.reduceEqDiff, hn], by simp only [get_put, n_put, ↓reduceIte, Nat.reduceEqDiff, h0], by simp only [get_put, n_put, ↓reduceIte, Nat.reduceEqDiff, h1], by simp only [get_put, n_put, ↓reduceIte, Nat.reduceEqDiff, h5], by simp only [get_put, n_put, ↓reduceIte, Nat.reduceEqDiff, h6], by simp only [get_put, n_put, ↓reduceIte, Nat.reduceEqDiff, h7], by simp only [get_put, n_put, ↓reduceIte, Nat.reduceEqDiff], by simp only [get_put, n_put, ↓reduceIte, Nat.reduceEqDiff], hr⟩
        · have dq : ¬ ((hN ((l.drop j).take b.length) : Nat) : Int) = ((hN b : Nat) : Int) := by omega
          simp (config := { maxSteps := 1000000, implicitDefEqProofs := false }) (disch := omega) only [allW, allR, oneOf, evalAll, partsA, optA, Nat.reduceLT, Nat.reduceLeDiff, Nat.reduceEqDiff, Nat.reduceAdd, ↓reduceIte, undef, hn, h0, h1, h5, h6, h7, h9, h11, hx.self, hy.self, hcut.self, valEq_int, valEq_string, valEq_bool, valEq_cutS, Try.underlying3, Try.underlying5, Try.underlying22, Try.underlying9, Try.underlying57, Try.underlying50, ej, eq_true d1, decide_true, hii, hli, hij, hlj, ejn, conv_int Try.underlying5 Try.underlying57, wrapu32m, hd, wrapI, eq_false dq, decide_false]
          exact wround_next j (by omega) ⟨j, rfl, by omega, rfl, by simp only [get_put, n_put, ↓reduceIte, Nat.reduceEqDiff, hn], by simp only [get_put, n_put, ↓reduceIte, Nat.reduceEqDiff, h0], by simp only [get_put, n_put, ↓reduceIte, Nat.reduceEqDiff, h1], by simp only [get_put, n_put, ↓reduceIte, Nat.reduceEqDiff, h5], by simp only [get_put, n_put, ↓reduceIte, Nat.reduceEqDiff, h6], by simp only [get_put, n_put, ↓reduceIte, Nat.reduceEqDiff, h7], by simp only [get_put, n_put, ↓reduceIte, Nat.reduceEqDiff], by simp only [get_put, n_put, ↓reduceIte, Nat.reduceEqDiff], hr⟩
    clear hn h0 h1 h5 h6 h7 h8 h9 f
    rintro z f t' ⟨rfl, hn, (⟨rfl, hr⟩ | ⟨rfl, h4⟩)⟩
    · simp (config := { maxSteps := 1000000, implicitDefEqProofs := false }) (disch := omega) only [allW, allR, wfn_ret, wfn_normal, oneOf, evalAll, partsA, optA, Nat.reduceLT, Nat.reduceLeDiff, Nat.reduceEqDiff, Nat.reduceAdd, ↓reduceIte, hn, Try.results39]
      rw [hr]
    · simp (config := { maxSteps := 1000000, implicitDefEqProofs := false }) (disch := omega) only [allW, allR, wfn_ret, wfn_normal, oneOf, evalAll, partsA, optA, Nat.reduceLT, Nat.reduceLeDiff, Nat.reduceEqDiff, Nat.reduceAdd, ↓reduceIte, hn, h4, Try.results39]
theorem lastIndex_any {lib : Prims} (hl : lib.at 31 = none) (hlb : lib.at 38 = none) (heq : lib.at 34 = none) (hrk : lib.at 39 = none) (hh : lib.at 43 = none) (s : ASt) (x y : Value) (l b : List UInt8) (hx : Sees s 1 x l.length (ofBytes l)) (hy : Sees s 1 y b.length (ofBytes b)) (hlen : l.length ≤ 100000) (hlb2 : b.length ≤ 100000) :
    Runs Try.prog lib 31 [x, y] s fun v s' => v = .int .i64 (lastOf l b) ∧ s' = s := by
  refine Runs.enter 37 Try.func31 rfl hl rfl rfl ?_
  intro f hn hf
  have h0 : f.get 0 = x := hf 0
  have h1 : f.get 1 = y := hf 1
  clear hf
  by_cases c0 : b.length = 0
  · have d0 : ((b.length : Nat) : Int) = 0 := by omega
    obtain rfl : b = [] := List.eq_nil_of_length_eq_zero c0
    have hv : lastOf l [] = (l.length : Int) := by
      unfold lastOf
      rw [if_pos (show ([] : List UInt8).length ≤ l.length from Nat.zero_le _)]
      show (if (l.drop l.length).take 0 = [] then (l.length : Int) else _) = _
      rw [List.take_zero, if_pos rfl]
    simp (config := { maxSteps := 1000000, implicitDefEqProofs := false }) (disch := omega) only [allW, allR, wfn_ret, wfn_normal, oneOf, evalAll, partsA, optA, Nat.reduceLT, Nat.reduceLeDiff, Nat.reduceEqDiff, Nat.reduceAdd, ↓reduceIte, hn, h0, h1, hx.lenA Try.underlying22, hy.lenA Try.underlying22, eq_true d0, decide_true, Try.results31]
    rw [hv]
  have d0 : ¬ ((b.length : Nat) : Int) = 0 := by omega
  by_cases c1 : b.length = 1
  · have d1 : ((b.length : Nat) : Int) = 1 := by omega
    obtain ⟨c, rfl⟩ : ∃ c, b = [c] := by
      match b, c1 with
      | [c], _ => exact ⟨c, rfl⟩
    have hii := hy.indexAddr (P := Try.prog) (k := .i64) (x := (0 : Int)) Try.underlying22 szU8 (by omega) (by omega)
    rw [show (0 : Int).toNat = 0 from rfl] at hii
    have hli := hy.load1 (P := Try.prog) agU8 (k := 0) (by omega)
    rw [ofBytes_getD (by omega)] at hli
    have hli : loadA Try.prog s 5 (elemPtr 1 y 0) = some (.int .u8 (c.toNat : Nat)) := hli
    have hv : lastOf l [c] = lastF l [c] l.length := by
      unfold lastOf
      show (if 1 ≤ l.length then lastF l [c] (l.length - 1 + 1) else -1) = _
      by_cases h : 1 ≤ l.length
      · rw [if_pos h, show l.length - 1 + 1 = l.length by omega]
      · rw [if_neg h, show l.length = 0 by omega]; rfl
    simp (config := { maxSteps := 1000000, implicitDefEqProofs := false }) (disch := omega) only [allW, allR, oneOf, evalAll, partsA, optA, Nat.reduceLT, Nat.reduceLeDiff, Nat.reduceEqDiff, Nat.reduceAdd, ↓reduceIte, hn, h0, h1, hx.lenA Try.underlying22, hy.lenA Try.underlying22, eq_false d0, eq_true d1, decide_true, decide_false, hii, hli]
    refine (lastByte_any hlb s x l c hx hlen).mono ?_
    rintro _ s1 ⟨rfl, rfl⟩
    simp (config := { maxSteps := 1000000, implicitDefEqProofs := false }) (disch := omega) only [allW, allR, wfn_ret, wfn_normal, oneOf, evalAll, partsA, optA, Nat.reduceLT, Nat.reduceLeDiff, Nat.reduceEqDiff, Nat.reduceAdd, ↓reduceIte, hn, Try.results31]
    rw [hv]
  have d1 : ¬ ((b.length : Nat) : Int) = 1 := by omega
  by_cases c2 : b.length = l.length
  · have d2 : ((b.length : Nat) : Int) = ((l.length : Nat) : Int) := by omega
    have hv : lastOf l b = if l = b then 0 else -1 := by
      unfold lastOf
      rw [if_pos (by omega), c2, Nat.sub_self]
      show (if (l.drop 0).take b.length = b then ((0 : Nat) : Int) else -1) = _
      rw [List.drop_zero, c2, List.take_length]
      rfl
    simp (config := { maxSteps := 1000000, implicitDefEqProofs := false }) (disch := omega) only [allW, allR, oneOf, evalAll, partsA, optA, Nat.reduceLT, Nat.reduceLeDiff, Nat.reduceEqDiff, Nat.reduceAdd, ↓reduceIte, hn, h0, h1, hx.lenA Try.underlying22, hy.lenA Try.underlying22, eq_false d0, eq_false d1, eq_true d2, decide_true, decide_false]
    refine (equal_any heq s x y l b hx hy).mono ?_
    rintro _ s1 ⟨rfl, rfl⟩
    by_cases ce : l = b
    · rw [if_pos ce] at hv
      simp (config := { maxSteps := 1000000, implicitDefEqProofs := false }) (disch := omega) only [allW, allR, wfn_ret, wfn_normal, oneOf, evalAll, partsA, optA, Nat.reduceLT, Nat.reduceLeDiff, Nat.reduceEqDiff, Nat.reduceAdd, ↓reduceIte, hn, eq_true ce, decide_true, Try.results31]
      rw [hv]
    · rw [if_neg ce] at hv
      simp (config := { maxSteps := 1000000, implicitDefEqProofs := false }) (disch := omega) only [allW, allR, wfn_ret, wfn_normal, oneOf, evalAll, partsA, optA, Nat.reduceLT, Nat.reduceLeDiff, Nat.reduceEqDiff, Nat.reduceAdd, ↓reduceIte, hn, eq_false ce, decide_false, Try.results31]
      rw [hv]
  have d2 : ¬ ((b.length : Nat) : Int) = ((l.length : Nat) : Int) := by omega
  by_cases c3 : l.length < b.length
  · have d3 : ((b.length : Nat) : Int) > ((l.length : Nat) : Int) := by omega
    have hv : lastOf l b = -1 := by unfold lastOf; rw [if_neg (by omega)]
    simp (config := { maxSteps := 1000000, implicitDefEqProofs := false }) (disch := omega) only [allW, allR, wfn_ret, wfn_normal, oneOf, evalAll, partsA, optA, Nat.reduceLT, Nat.reduceLeDiff, Nat.reduceEqDiff, Nat.reduceAdd, ↓reduceIte, hn, h0, h1, hx.lenA Try.underlying22, hy.lenA Try.underlying22, eq_false d0, eq_false d1, eq_false d2, eq_true d3, decide_true, decide_false, Try.results31]
    rw [hv]
  have d3 : ¬ ((b.length : Nat) : Int) > ((l.length : Nat) : Int) := by omega
  have hv : lastOf l b = lastF l b (l.length - b.length + 1) := by unfold lastOf; rw [if_pos (by omega)]
  simp (config := { maxSteps := 1000000, implicitDefEqProofs := false }) (disch := omega) only [allW, allR, oneOf, evalAll, partsA, optA, Nat.reduceLT, Nat.reduceLeDiff, Nat.reduceEqDiff, Nat.reduceAdd, ↓reduceIte, hn, h0, h1, hx.lenA Try.underlying22, hy.lenA Try.underlying22, eq_false d0, eq_false d1, eq_false d2, eq_false d3, decide_false]
  refine (lastRK_any hrk hh s x y l b hx hy hlen (by omega) (by omega)).mono ?_
  rintro _ s1 ⟨rfl, rfl⟩
  simp (config := { maxSteps := 1000000, implicitDefEqProofs := false }) (disch := omega) only [allW, allR, wfn_ret, wfn_normal, oneOf, evalAll, partsA, optA, Nat.reduceLT, Nat.reduceLeDiff, Nat.reduceEqDiff, Nat.reduceAdd, ↓reduceIte, hn, Try.results31]
  rw [hv]
end Go.Proofs.Ytndlajhkbepafaa
