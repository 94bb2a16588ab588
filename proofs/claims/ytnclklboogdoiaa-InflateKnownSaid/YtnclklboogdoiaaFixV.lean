/-
  Deflate by the fixed codes: the reference's groups and block.
-/
import Derived.Test.YtnclklboogdoiaaFixZ
set_option linter.unusedSimpArgs false
set_option linter.unusedVariables false
set_option maxRecDepth 100000
namespace Go.Cl.Fx
open Go.Cl.Rw Go.Cl.Sto
theorem shlS (P : Program) (t : TypeId) (k' : IntKind) {x k : Nat} (hk : k ≤ 16) (hx : x * 2 ^ k ≤ 1000000) : binA P .shl t (.int .i64 ((x : Nat) : Int)) (.int k' (k : Nat)) = some (.int .i64 ((x * 2 ^ k : Nat) : Int)) := by
  rw [bin_shl P t .i64 _ _ k' (by omega)]
  have e : min ((k : Nat) : Int).toNat IntKind.i64.bits = k := by
    have : IntKind.i64.bits = 64 := rfl
    rw [this, Int.toNat_natCast]; omega
  have e2 : ((x : Nat) : Int) * (2 : Int) ^ k = ((x * 2 ^ k : Nat) : Int) := by norm_cast
  rw [e, e2, wrapI (by omega)]
theorem pow_le5 {k m : Nat} (h : k ≤ m) : 2 ^ k ≤ 2 ^ m := Nat.pow_le_pow_right (by omega) h
end Go.Cl.Fx
namespace Go.Proofs.Ytnclklboogdoiaa
open Go.Cl Go.Cl.Rw Go.Cl.Sto Go.Cl.Fx
set_option maxHeartbeats 4000000 in
theorem lengthCode_any {lib : Prims} (hl : lib.at 49 = none) (s : ASt) (n : Nat) (h3 : 3 ≤ n) (hn : n ≤ 258) :
    Runs Try.prog lib 49 [.int .i64 (n : Int)] s (Three s (lenC n)) := by
  refine Runs.enter 35 Try.func49 rfl hl rfl rfl ?_
  intro f hn' hf
  have h0 : f.get 0 = .int .i64 (n : Int) := hf 0
  clear hf
  by_cases c : n = 258
  · have d1 : (n : Int) = 258 := by omega
    have e : lenC n = (285, 0, 0) := by unfold lenC; rw [if_pos c]
    simp (config := { maxSteps := 1000000, implicitDefEqProofs := false }) (disch := omega) only [allW, wfn_ret, oneOf, Nat.reduceLT, Nat.reduceEqDiff, ↓reduceIte, hn', h0, eq_true d1, Try.results49]
    rw [e]; exact ⟨rfl, rfl⟩
  have d1 : ¬ (n : Int) = 258 := by omega
  have hsame := (len_same h3 (by omega)).1
  rw [← hsame]
  generalize hLD : lenD n 20 = LD
  simp (config := { maxSteps := 1000000, implicitDefEqProofs := false }) (disch := omega) only [allW, Nat.reduceLT, Nat.reduceEqDiff, ↓reduceIte, hn', h0, eq_false d1]
  refine Comes.loopOut (fun z f t => ∃ k : Nat, z = k ∧ k ≤ 20 ∧ LD = lenD n k ∧ t = s ∧ f.n = 35 ∧ f.get 0 = .int .i64 (n : Int) ∧ f.get 5 = .int .i64 ((264 + k : Nat) : Int))
    (fun z f t => (z = .ret ∧ t = s ∧ f.n = 35 ∧ f.get 2 = .int .i64 ((LD).1 : Nat) ∧ f.get 3 = .int .i64 ((LD).2.1 : Nat) ∧ f.get 4 = .int .i64 ((LD).2.2 : Nat)) ∨ (z = .exit 0 ∧ t = s ∧ f.n = 35 ∧ f.get 0 = .int .i64 (n : Int) ∧ LD = (n + 254, 0, 0)))
    ⟨20, rfl, by omega, hLD.symm, rfl, by simp only [n_put, hn'], by simp only [get_put, ↓reduceIte, Nat.reduceEqDiff, h0], by simp only [get_put, ↓reduceIte]; rfl⟩ ?_ ?_
  · clear hn' h0 f
    rintro Q hQ k f t ⟨_, rfl, hk, hD, rfl, hn', h0, h5⟩
    by_cases hk0 : k = 0
    · subst hk0
      have d2 : ¬ ((264 + 0 : Nat) : Int) > 264 := by omega
      simp (config := { maxSteps := 1000000, implicitDefEqProofs := false }) (disch := omega) only [allW, Nat.reduceLT, Nat.reduceAdd, ↓reduceIte, hn', h5, eq_false d2]
      exact hQ _ _ _ (.inr ⟨rfl, rfl, by simp only [n_put, hn'], by simp only [get_put, ↓reduceIte, Nat.reduceEqDiff, h0], hD⟩)
    obtain ⟨m, rfl⟩ : ∃ m, k = m + 1 := ⟨k - 1, by omega⟩
    have h5 : f.get 5 = .int .i64 ((265 + m : Nat) : Int) := by rw [h5]; congr 2; omega
    have d2 : ((265 + m : Nat) : Int) > 264 := by omega
    have e1 : ((265 + m : Nat) : Int) - 261 = ((4 + m : Nat) : Int) := by omega
    have e2 : ((265 + m : Nat) : Int) - 265 = ((m : Nat) : Int) := by omega
    have q4 : ((4 + m : Nat) : Int).tdiv 4 = (((4 + m) / 4 : Nat) : Int) := by rw [Int.tdiv_eq_ediv_of_nonneg (by omega)]; omega
    have r4 : ((m : Nat) : Int).tmod 4 = ((m % 4 : Nat) : Int) := by rw [Int.tmod_eq_emod_of_nonneg (by omega)]; omega
    have e3 : (4 : Int) + ((m % 4 : Nat) : Int) = ((4 + m % 4 : Nat) : Int) := by omega
    have hp := pow_le5 (show (4 + m) / 4 ≤ 5 by omega)
    have hm7 : 4 + m % 4 ≤ 7 := by omega
    have hx : (4 + m % 4) * 2 ^ ((4 + m) / 4) ≤ 7 * 2 ^ 5 := Nat.mul_le_mul hm7 hp
    have hsh := shlS Try.prog 3 .u64 (x := 4 + m % 4) (k := (4 + m) / 4) (by omega) (by omega)
    rw [lenD] at hD
    generalize hX : (4 + m % 4) * 2 ^ ((4 + m) / 4) = X at hD hx hsh
    by_cases c2 : X + 3 ≤ n
    · have d3 : (n : Int) ≥ ((X : Nat) : Int) + 3 := by omega
      rw [if_pos c2] at hD
      have hY : (n : Int) - (((X : Nat) : Int) + 3) = ((n - (X + 3) : Nat) : Int) := by omega
      simp (config := { maxSteps := 1000000, implicitDefEqProofs := false }) (disch := omega) only [allW, Nat.reduceLT, Nat.reduceEqDiff, ↓reduceIte, hn', h0, h5, eq_true d2, wrapI, e1, bin_quo, q4, e2, bin_rem, r4, e3, conv_int Try.underlying3 Try.underlying29, wrapu64x, hsh, eq_true d3]
      refine hQ _ _ _ (.inl ⟨rfl, rfl, by simp only [n_put, hn'], by simp only [get_put, ↓reduceIte, Nat.reduceEqDiff]; rw [hD], by simp only [get_put, ↓reduceIte, Nat.reduceEqDiff]; rw [hD, hY], by simp only [get_put, ↓reduceIte]; rw [hD]⟩)
    · have d3 : ¬ (n : Int) ≥ ((X : Nat) : Int) + 3 := by omega
      rw [if_neg c2] at hD
      simp (config := { maxSteps := 1000000, implicitDefEqProofs := false }) (disch := omega) only [allW, Nat.reduceLT, Nat.reduceEqDiff, ↓reduceIte, hn', h0, h5, eq_true d2, wrapI, e1, bin_quo, q4, e2, bin_rem, r4, e3, conv_int Try.underlying3 Try.underlying29, wrapu64x, hsh, eq_false d3]
      exact wround_next m (by omega) ⟨m, rfl, by omega, hD, rfl, by simp only [n_put, hn'], by simp only [get_put, ↓reduceIte, Nat.reduceEqDiff, h0], by simp only [get_put, ↓reduceIte]; congr 1; omega⟩
  clear hn' h0 f
  rintro z f t (⟨rfl, rfl, hn', h2, h3, h4⟩ | ⟨rfl, rfl, hn', h0, hD⟩)
  · simp (config := { maxSteps := 1000000, implicitDefEqProofs := false }) (disch := omega) only [allW, wfn_ret, oneOf, Nat.reduceLT, ↓reduceIte, hn', h2, h3, h4, Try.results49]
    exact ⟨rfl, rfl⟩
  · simp (config := { maxSteps := 1000000, implicitDefEqProofs := false }) (disch := omega) only [allW, wfn_ret, oneOf, Nat.reduceLT, Nat.reduceEqDiff, ↓reduceIte, hn', h0, wrapI, Try.results49]
    rw [hD]; exact ⟨rfl, rfl⟩
set_option maxHeartbeats 4000000 in
theorem distanceCode_any {lib : Prims} (hl : lib.at 50 = none) (s : ASt) (n : Nat) (h1 : 1 ≤ n) (hn : n ≤ 64) :
    Runs Try.prog lib 50 [.int .i64 (n : Int)] s (Three s (dstC n)) := by
  have hsame := (dst_same h1 hn).1
  rw [← hsame]
  generalize hLD : dstD n 26 = LD
  refine Runs.enter 32 Try.func50 rfl hl rfl rfl ?_
  intro f hn' hf
  have h0 : f.get 0 = .int .i64 (n : Int) := hf 0
  clear hf
  simp (config := { maxSteps := 1000000, implicitDefEqProofs := false }) (disch := omega) only [allW, Nat.reduceLT, ↓reduceIte, hn']
  refine Comes.loopOut (fun z f t => ∃ k : Nat, z = k ∧ k ≤ 26 ∧ LD = dstD n k ∧ t = s ∧ f.n = 32 ∧ f.get 0 = .int .i64 (n : Int) ∧ f.get 5 = .int .i64 ((3 + k : Nat) : Int))
    (fun z f t => (z = .ret ∧ t = s ∧ f.n = 32 ∧ f.get 2 = .int .i64 ((LD).1 : Nat) ∧ f.get 3 = .int .i64 ((LD).2.1 : Nat) ∧ f.get 4 = .int .i64 ((LD).2.2 : Nat)) ∨ (z = .exit 0 ∧ t = s ∧ f.n = 32 ∧ f.get 0 = .int .i64 (n : Int) ∧ LD = (n - 1, 0, 0)))
    ⟨26, rfl, by omega, hLD.symm, rfl, by simp only [n_put, hn'], by simp only [get_put, ↓reduceIte, Nat.reduceEqDiff, h0], by simp only [get_put, ↓reduceIte]; rfl⟩ ?_ ?_
  · clear hn' h0 f
    rintro Q hQ k f t ⟨_, rfl, hk, hD, rfl, hn', h0, h5⟩
    by_cases hk0 : k = 0
    · subst hk0
      have d2 : ¬ ((3 + 0 : Nat) : Int) > 3 := by omega
      simp (config := { maxSteps := 1000000, implicitDefEqProofs := false }) (disch := omega) only [allW, Nat.reduceLT, Nat.reduceAdd, ↓reduceIte, hn', h5, eq_false d2]
      exact hQ _ _ _ (.inr ⟨rfl, rfl, by simp only [n_put, hn'], by simp only [get_put, ↓reduceIte, Nat.reduceEqDiff, h0], hD⟩)
    obtain ⟨m, rfl⟩ : ∃ m, k = m + 1 := ⟨k - 1, by omega⟩
    have h5 : f.get 5 = .int .i64 ((4 + m : Nat) : Int) := by rw [h5]; congr 2; omega
    have d2 : ((4 + m : Nat) : Int) > 3 := by omega
    have q4 : ((4 + m : Nat) : Int).tdiv 2 = (((4 + m) / 2 : Nat) : Int) := by rw [Int.tdiv_eq_ediv_of_nonneg (by omega)]; omega
    have e1 : (((4 + m) / 2 : Nat) : Int) - 1 = (((4 + m) / 2 - 1 : Nat) : Int) := by omega
    have r4 : ((4 + m : Nat) : Int).tmod 2 = ((m % 2 : Nat) : Int) := by rw [Int.tmod_eq_emod_of_nonneg (by omega)]; omega
    have e3 : (2 : Int) + ((m % 2 : Nat) : Int) = ((2 + m % 2 : Nat) : Int) := by omega
    have hp := pow_le5 (show (4 + m) / 2 - 1 ≤ 13 by omega)
    have hm7 : 2 + m % 2 ≤ 3 := by omega
    have hx : (2 + m % 2) * 2 ^ ((4 + m) / 2 - 1) ≤ 3 * 2 ^ 13 := Nat.mul_le_mul hm7 hp
    have hsh := shlS Try.prog 3 .u64 (x := 2 + m % 2) (k := (4 + m) / 2 - 1) (by omega) (by omega)
    rw [dstD] at hD
    generalize hX : (2 + m % 2) * 2 ^ ((4 + m) / 2 - 1) = X at hD hx hsh
    by_cases c2 : X + 1 ≤ n
    · have d3 : (n : Int) ≥ ((X : Nat) : Int) + 1 := by omega
      rw [if_pos c2] at hD
      have hY : (n : Int) - (((X : Nat) : Int) + 1) = ((n - (X + 1) : Nat) : Int) := by omega
      simp (config := { maxSteps := 1000000, implicitDefEqProofs := false }) (disch := omega) only [allW, Nat.reduceLT, Nat.reduceEqDiff, ↓reduceIte, hn', h0, h5, eq_true d2, bin_quo, q4, wrapI, e1, bin_rem, r4, e3, conv_int Try.underlying3 Try.underlying29, wrapu64x, hsh, eq_true d3]
      refine hQ _ _ _ (.inl ⟨rfl, rfl, by simp only [n_put, hn'], by simp only [get_put, ↓reduceIte, Nat.reduceEqDiff]; rw [hD], by simp only [get_put, ↓reduceIte, Nat.reduceEqDiff]; rw [hD, hY], by simp only [get_put, ↓reduceIte]; rw [hD]⟩)
    · have d3 : ¬ (n : Int) ≥ ((X : Nat) : Int) + 1 := by omega
      rw [if_neg c2] at hD
      simp (config := { maxSteps := 1000000, implicitDefEqProofs := false }) (disch := omega) only [allW, Nat.reduceLT, Nat.reduceEqDiff, ↓reduceIte, hn', h0, h5, eq_true d2, bin_quo, q4, wrapI, e1, bin_rem, r4, e3, conv_int Try.underlying3 Try.underlying29, wrapu64x, hsh, eq_false d3]
      exact wround_next m (by omega) ⟨m, rfl, by omega, hD, rfl, by simp only [n_put, hn'], by simp only [get_put, ↓reduceIte, Nat.reduceEqDiff, h0], by simp only [get_put, ↓reduceIte]; congr 1; omega⟩
  clear hn' h0 f
  rintro z f t (⟨rfl, rfl, hn', h2, h3, h4⟩ | ⟨rfl, rfl, hn', h0, hD⟩)
  · simp (config := { maxSteps := 1000000, implicitDefEqProofs := false }) (disch := omega) only [allW, wfn_ret, oneOf, Nat.reduceLT, ↓reduceIte, hn', h2, h3, h4, Try.results50]
    exact ⟨rfl, rfl⟩
  · simp (config := { maxSteps := 1000000, implicitDefEqProofs := false }) (disch := omega) only [allW, wfn_ret, oneOf, Nat.reduceLT, Nat.reduceEqDiff, ↓reduceIte, hn', h0, wrapI, Try.results50]
    rw [hD]
    refine ⟨?_, rfl⟩
    rw [show (((n - 1, 0, 0) : Nat × Nat × Nat).1 : Int) = (n : Int) - 1 by show ((n - 1 : Nat) : Int) = _; omega]
    rfl
end Go.Proofs.Ytnclklboogdoiaa
