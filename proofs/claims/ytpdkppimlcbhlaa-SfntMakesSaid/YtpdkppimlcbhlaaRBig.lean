/-
  The reference's Big: a number as bytes, the highest first.
-/
import Derived.Test.YtpdkppimlcbhlaaSame
import Derived.Test.YtpdkppimlcbhlaaBigP
set_option linter.unusedSimpArgs false
set_option linter.unusedVariables false
set_option maxRecDepth 100000
namespace Go.Proofs.Ytpdkppimlcbhlaa
open Go.Cl
theorem rbig_any {lib : Prims} (hl : lib.at 33 = none) (s : ASt) (n w : Nat) (hw : w ≤ 8) (hn : n < 9223372036854775808) :
    Runs Try.prog lib 33 [.int .i64 (n : Nat), .int .i64 (w : Nat)] s fun v s' => NewBytes s v s' (be w n) := by
  refine Runs.enter 23 Try.func33 rfl hl rfl rfl ?_
  intro f hnf hf
  have h0 : f.get 0 = .int .i64 (n : Nat) := hf 0
  have h1 : f.get 1 = .int .i64 (w : Nat) := hf 1
  clear hf
  simp (config := { maxSteps := 1000000, implicitDefEqProofs := false }) (disch := omega) only [allW, allR, oneOf, evalAll, partsA, optA, Nat.reduceLT, Nat.reduceLeDiff, Nat.reduceEqDiff, Nat.reduceAdd, ↓reduceIte, hnf, h0, h1, wrapI]
  refine Comes.loopAt (fun z f s1 => ∃ (j : Nat) (o : Value), z = w - j ∧ j ≤ w ∧ Own s1 1 o (beTo w n j).length (ofBytes (beTo w n j)) ∧ Fresh s.next o ∧ Stay s.next s s1 ∧ f.n = 23 ∧ f.get 0 = .int .i64 (n : Nat) ∧ f.get 5 = o ∧ f.get 6 = .int .i64 ((w : Int) - 1 - (j : Int)))
    ⟨0, .slice none 0 0, rfl, by omega, .nil, Fresh.nil _, Stay.refl _ _, by simp only [get_put, n_put, ↓reduceIte, Nat.reduceEqDiff, hnf], by simp only [get_put, n_put, ↓reduceIte, Nat.reduceEqDiff, h0], by simp only [get_put, n_put, ↓reduceIte, Nat.reduceEqDiff], by simp only [get_put, n_put, ↓reduceIte, Nat.reduceEqDiff]; rw [Int.natCast_zero, Int.sub_zero]⟩ ?_
  clear hnf h0 h1 f
  rintro z f s1 ⟨j, o, rfl, hj, ho, hF, hst, hnf, h0, h5, h6⟩
  by_cases hlt : j < w
  · have e1 : (0 : Int) ≤ (w : Int) - 1 - (j : Int) := by omega
    have e2 : 8 * ((w : Int) - 1 - (j : Int)) = ((8 * (w - 1 - j) : Nat) : Int) := by omega
    simp (config := { maxSteps := 1000000, implicitDefEqProofs := false }) (disch := omega) only [allW, allR, oneOf, evalAll, partsA, optA, Nat.reduceLT, Nat.reduceLeDiff, Nat.reduceEqDiff, Nat.reduceAdd, ↓reduceIte, hnf, h0, h5, h6, eq_true e1, wrapI, conv_int Try.underlying3 Try.underlying82, wrapU, shrBytes Try.prog 3 .u64 n (w - 1 - j) e2, conv_int Try.underlying3 Try.underlying5, u8_of, build1 Try.underlying27 szU8 zU8]
    refine wstep_append_lit Try.underlying27 szU8 byU8 zU8 rfl ho (by simp only [get_put, n_put, ↓reduceIte, Nat.reduceEqDiff, h5]) (by decide) (by simp only [get_put, n_put, ↓reduceIte, Nat.reduceEqDiff, hnf]; decide) (by simp only [get_put, n_put, ↓reduceIte, Nat.reduceEqDiff, hnf]; decide) (by rfl) (by decide) rfl (by rw [beTo_length]; omega) (by rw [beTo_length]; omega) hF hst.next ?_
    intro bs o' s2 ho' hF' hst2 _ _
    simp (config := { maxSteps := 1000000, implicitDefEqProofs := false }) (disch := omega) only [allW, allR, oneOf, evalAll, partsA, optA, Nat.reduceLT, Nat.reduceLeDiff, Nat.reduceEqDiff, Nat.reduceAdd, ↓reduceIte, hnf, h0, h5, h6, wrapI]
    refine wround_next (w - (j + 1)) (by omega) ⟨j + 1, o', rfl, by omega, ?_, hF', hst.trans hst2, by simp only [get_put, n_put, ↓reduceIte, Nat.reduceEqDiff, hnf], by simp only [get_put, n_put, ↓reduceIte, Nat.reduceEqDiff, h0], by simp only [get_put, n_put, ↓reduceIte, Nat.reduceEqDiff], ?_⟩
    · rw [beTo_succ, ofBytes_append, List.length_append]; exact ho'
    · simp only [get_put, n_put, ↓reduceIte, Nat.reduceEqDiff]
      rw [show (w : Int) - 1 - (j : Int) - 1 = (w : Int) - 1 - ((j + 1 : Nat) : Int) by omega]
  · obtain rfl : j = w := by omega
    have e1 : ¬ (0 : Int) ≤ (j : Int) - 1 - (j : Int) := by omega
    simp (config := { maxSteps := 1000000, implicitDefEqProofs := false }) (disch := omega) only [allW, allR, wfn_ret, wfn_normal, oneOf, evalAll, partsA, optA, Nat.reduceLT, Nat.reduceLeDiff, Nat.reduceEqDiff, Nat.reduceAdd, ↓reduceIte, hnf, h0, h5, h6, eq_false e1, Try.results33]
    exact ⟨ho, hF, hst⟩
end Go.Proofs.Ytpdkppimlcbhlaa
