/-
  Profiles: whether so many parts fit.
-/
import Derived.Test.YtbakljlaladpoaaIccB
set_option linter.unusedSimpArgs false
set_option linter.unusedVariables false
namespace Go.Proofs.Ytbakljlaladpoaa
open Go.Cl Go.Cl.Icc
theorem qszStr : sizeB Try.prog 9 = some 1 := by kernel_rfl
theorem qagStr : isAggB Try.prog 9 = some false := by kernel_rfl
/-- A header's cells. -/
def headC (size major n : Int) (cls spc pcs : List UInt8) : List Value := [.int .i64 size, .int .i64 major, .int .i64 n, .string ⟨cls.toArray⟩, .string ⟨spc.toArray⟩, .string ⟨pcs.toArray⟩]
theorem fits_f2 (i o c : Nat) : fieldAddrA Try.prog 24 (.pointer (some ⟨i, o, some c⟩)) 2 = some (.pointer (some ⟨i, o + 2, some c⟩)) := by
  unfold fieldAddrA; rw [Try.underlying24]; simp [szInt, qszStr]
theorem fits_f4 (i o c : Nat) : fieldAddrA Try.prog 24 (.pointer (some ⟨i, o, some c⟩)) 4 = some (.pointer (some ⟨i, o + 4, some c⟩)) := by
  unfold fieldAddrA; rw [Try.underlying24]; simp [szInt, qszStr]
theorem fits_any {lib : Prims} (hl : lib.at 10 = none) (s : ASt) (size major n m : Int) (cls spc pcs : List UInt8) :
    Runs Try.prog lib 10 [.agg (headC size major n cls spc pcs).toArray, .int .i64 m] s fun v s' => v = .bool (decide (n = m) && decide (spc ≠ LAB)) ∧ Stay s.next s s' := by
  refine Runs.enter 14 Try.func10 rfl hl rfl rfl ?_
  intro f hn hf
  have h0 : f.get 0 = .agg (headC size major n cls spc pcs).toArray := hf 0
  have h1 : f.get 1 = .int .i64 m := hf 1
  clear hf
  simp only [headC] at h0
  simp (config := { maxSteps := 1000000, implicitDefEqProofs := false }) (disch := omega) only [allW, cond_true, cond_false, oneOf, evalAll, partsA, optA, List.drop_zero, List.drop_succ_cons, List.cons_append, List.nil_append, Nat.reduceLT, Nat.reduceLeDiff, Nat.reduceEqDiff, Nat.reduceAdd, List.getD_cons_zero, List.getD_cons_succ, List.set_cons_zero, List.set_cons_succ, ↓reduceIte, if_true, if_false, beq_self_eq_true, ne_eq, eq_self, not_true_eq_false, not_false_eq_true, hn, h0, h1]
  refine wstep_newPtr ?_
  intro s1 ht1 hst1 hnx1
  have l2 := ht1.load (P := Try.prog) agInt (off := 2) (c := 7) rfl (by simp)
  have l4 := ht1.load (P := Try.prog) qagStr (off := 4) (c := 7) rfl (by simp)
  have e3 := str_neq (P := Try.prog) (t := 9) spc LAB
  obtain ⟨r, hr⟩ : ∃ r, r = (decide (n = m) && decide (spc ≠ LAB)) := ⟨_, rfl⟩
  rw [← hr]
  by_cases c1 : n = m
  · have c1' := eq_true c1
    by_cases c2 : spc = LAB
    · have hr' : r = false := by rw [hr]; simp [c2]
      rw [hr']
      rw [decide_eq_false (not_not_intro c2)] at e3
      simp only [LAB] at e3
      simp (config := { maxSteps := 1000000, implicitDefEqProofs := false }) (disch := omega) only [allW, cond_true, cond_false, oneOf, evalAll, partsA, optA, List.drop_zero, List.drop_succ_cons, List.cons_append, List.nil_append, Nat.reduceLT, Nat.reduceLeDiff, Nat.reduceEqDiff, Nat.reduceAdd, List.getD_cons_zero, List.getD_cons_succ, List.set_cons_zero, List.set_cons_succ, ↓reduceIte, if_true, if_false, beq_self_eq_true, ne_eq, eq_self, not_true_eq_false, not_false_eq_true, undef, hn, h0, h1, List.length_cons, List.length_nil, fits_f2, fits_f4, l2, l4, c1', bin_neq, e3]
      simp (config := { maxSteps := 1000000, implicitDefEqProofs := false }) (disch := omega) only [allW, wfn_ret, wfn_normal, cond_true, cond_false, oneOf, evalAll, partsA, optA, List.drop_zero, List.drop_succ_cons, List.cons_append, List.nil_append, Nat.reduceLT, Nat.reduceLeDiff, Nat.reduceEqDiff, Nat.reduceAdd, List.getD_cons_zero, List.getD_cons_succ, List.set_cons_zero, List.set_cons_succ, ↓reduceIte, if_true, if_false, beq_self_eq_true, ne_eq, eq_self, not_true_eq_false, not_false_eq_true, hn, Try.results10]
      exact hst1
    · have hr' : r = true := by rw [hr]; simp [c1, c2]
      rw [hr']
      rw [decide_eq_true c2] at e3
      simp only [LAB] at e3
      simp (config := { maxSteps := 1000000, implicitDefEqProofs := false }) (disch := omega) only [allW, cond_true, cond_false, oneOf, evalAll, partsA, optA, List.drop_zero, List.drop_succ_cons, List.cons_append, List.nil_append, Nat.reduceLT, Nat.reduceLeDiff, Nat.reduceEqDiff, Nat.reduceAdd, List.getD_cons_zero, List.getD_cons_succ, List.set_cons_zero, List.set_cons_succ, ↓reduceIte, if_true, if_false, beq_self_eq_true, ne_eq, eq_self, not_true_eq_false, not_false_eq_true, undef, hn, h0, h1, List.length_cons, List.length_nil, fits_f2, fits_f4, l2, l4, c1', bin_neq, e3]
      simp (config := { maxSteps := 1000000, implicitDefEqProofs := false }) (disch := omega) only [allW, wfn_ret, wfn_normal, cond_true, cond_false, oneOf, evalAll, partsA, optA, List.drop_zero, List.drop_succ_cons, List.cons_append, List.nil_append, Nat.reduceLT, Nat.reduceLeDiff, Nat.reduceEqDiff, Nat.reduceAdd, List.getD_cons_zero, List.getD_cons_succ, List.set_cons_zero, List.set_cons_succ, ↓reduceIte, if_true, if_false, beq_self_eq_true, ne_eq, eq_self, not_true_eq_false, not_false_eq_true, hn, Try.results10]
      exact hst1
  · have c1' := eq_false c1
    have hr' : r = false := by rw [hr]; simp [c1]
    rw [hr']
    simp (config := { maxSteps := 1000000, implicitDefEqProofs := false }) (disch := omega) only [allW, wfn_ret, wfn_normal, cond_true, cond_false, oneOf, evalAll, partsA, optA, List.drop_zero, List.drop_succ_cons, List.cons_append, List.nil_append, Nat.reduceLT, Nat.reduceLeDiff, Nat.reduceEqDiff, Nat.reduceAdd, List.getD_cons_zero, List.getD_cons_succ, List.set_cons_zero, List.set_cons_succ, ↓reduceIte, if_true, if_false, beq_self_eq_true, ne_eq, eq_self, not_true_eq_false, not_false_eq_true, undef, hn, h0, h1, List.length_cons, List.length_nil, fits_f2, fits_f4, l2, l4, c1', Try.results10]
    exact hst1
theorem rfits_f2 (i o c : Nat) : fieldAddrA Try.prog 37 (.pointer (some ⟨i, o, some c⟩)) 2 = some (.pointer (some ⟨i, o + 2, some c⟩)) := by
  unfold fieldAddrA; rw [Try.underlying37]; simp [szInt, qszStr]
theorem rfits_f4 (i o c : Nat) : fieldAddrA Try.prog 37 (.pointer (some ⟨i, o, some c⟩)) 4 = some (.pointer (some ⟨i, o + 4, some c⟩)) := by
  unfold fieldAddrA; rw [Try.underlying37]; simp [szInt, qszStr]
theorem rfits_any {lib : Prims} (hl : lib.at 14 = none) (s : ASt) (size major n m : Int) (cls spc pcs : List UInt8) :
    Runs Try.prog lib 14 [.agg (headC size major n cls spc pcs).toArray, .int .i64 m] s fun v s' => v = .bool (decide (n = m) && decide (spc ≠ LAB)) ∧ Stay s.next s s' := by
  refine Runs.enter 14 Try.func14 rfl hl rfl rfl ?_
  intro f hn hf
  have h0 : f.get 0 = .agg (headC size major n cls spc pcs).toArray := hf 0
  have h1 : f.get 1 = .int .i64 m := hf 1
  clear hf
  simp only [headC] at h0
  simp (config := { maxSteps := 1000000, implicitDefEqProofs := false }) (disch := omega) only [allW, cond_true, cond_false, oneOf, evalAll, partsA, optA, List.drop_zero, List.drop_succ_cons, List.cons_append, List.nil_append, Nat.reduceLT, Nat.reduceLeDiff, Nat.reduceEqDiff, Nat.reduceAdd, List.getD_cons_zero, List.getD_cons_succ, List.set_cons_zero, List.set_cons_succ, ↓reduceIte, if_true, if_false, beq_self_eq_true, ne_eq, eq_self, not_true_eq_false, not_false_eq_true, hn, h0, h1]
  refine wstep_newPtr ?_
  intro s1 ht1 hst1 hnx1
  have l2 := ht1.load (P := Try.prog) agInt (off := 2) (c := 7) rfl (by simp)
  have l4 := ht1.load (P := Try.prog) qagStr (off := 4) (c := 7) rfl (by simp)
  have e3 := str_neq (P := Try.prog) (t := 9) spc LAB
  obtain ⟨r, hr⟩ : ∃ r, r = (decide (n = m) && decide (spc ≠ LAB)) := ⟨_, rfl⟩
  rw [← hr]
  by_cases c1 : n = m
  · have c1' := eq_true c1
    by_cases c2 : spc = LAB
    · have hr' : r = false := by rw [hr]; simp [c2]
      rw [hr']
      rw [decide_eq_false (not_not_intro c2)] at e3
      simp only [LAB] at e3
      simp (config := { maxSteps := 1000000, implicitDefEqProofs := false }) (disch := omega) only [allW, cond_true, cond_false, oneOf, evalAll, partsA, optA, List.drop_zero, List.drop_succ_cons, List.cons_append, List.nil_append, Nat.reduceLT, Nat.reduceLeDiff, Nat.reduceEqDiff, Nat.reduceAdd, List.getD_cons_zero, List.getD_cons_succ, List.set_cons_zero, List.set_cons_succ, ↓reduceIte, if_true, if_false, beq_self_eq_true, ne_eq, eq_self, not_true_eq_false, not_false_eq_true, undef, hn, h0, h1, List.length_cons, List.length_nil, rfits_f2, rfits_f4, l2, l4, c1', bin_neq, e3]
      simp (config := { maxSteps := 1000000, implicitDefEqProofs := false }) (disch := omega) only [allW, wfn_ret, wfn_normal, cond_true, cond_false, oneOf, evalAll, partsA, optA, List.drop_zero, List.drop_succ_cons, List.cons_append, List.nil_append, Nat.reduceLT, Nat.reduceLeDiff, Nat.reduceEqDiff, Nat.reduceAdd, List.getD_cons_zero, List.getD_cons_succ, List.set_cons_zero, List.set_cons_succ, ↓reduceIte, if_true, if_false, beq_self_eq_true, ne_eq, eq_self, not_true_eq_false, not_false_eq_true, hn, Try.results14]
      exact hst1
    · have hr' : r = true := by rw [hr]; simp [c1, c2]
      rw [hr']
      rw [decide_eq_true c2] at e3
      simp only [LAB] at e3
      simp (config := { maxSteps := 1000000, implicitDefEqProofs := false }) (disch := omega) only [allW, cond_true, cond_false, oneOf, evalAll, partsA, optA, List.drop_zero, List.drop_succ_cons, List.cons_append, List.nil_append, Nat.reduceLT, Nat.reduceLeDiff, Nat.reduceEqDiff, Nat.reduceAdd, List.getD_cons_zero, List.getD_cons_succ, List.set_cons_zero, List.set_cons_succ, ↓reduceIte, if_true, if_false, beq_self_eq_true, ne_eq, eq_self, not_true_eq_false, not_false_eq_true, undef, hn, h0, h1, List.length_cons, List.length_nil, rfits_f2, rfits_f4, l2, l4, c1', bin_neq, e3]
      simp (config := { maxSteps := 1000000, implicitDefEqProofs := false }) (disch := omega) only [allW, wfn_ret, wfn_normal, cond_true, cond_false, oneOf, evalAll, partsA, optA, List.drop_zero, List.drop_succ_cons, List.cons_append, List.nil_append, Nat.reduceLT, Nat.reduceLeDiff, Nat.reduceEqDiff, Nat.reduceAdd, List.getD_cons_zero, List.getD_cons_succ, List.set_cons_zero, List.set_cons_succ, ↓reduceIte, if_true, if_false, beq_self_eq_true, ne_eq, eq_self, not_true_eq_false, not_false_eq_true, hn, Try.results14]
      exact hst1
  · have c1' := eq_false c1
    have hr' : r = false := by rw [hr]; simp [c1]
    rw [hr']
    simp (config := { maxSteps := 1000000, implicitDefEqProofs := false }) (disch := omega) only [allW, wfn_ret, wfn_normal, cond_true, cond_false, oneOf, evalAll, partsA, optA, List.drop_zero, List.drop_succ_cons, List.cons_append, List.nil_append, Nat.reduceLT, Nat.reduceLeDiff, Nat.reduceEqDiff, Nat.reduceAdd, List.getD_cons_zero, List.getD_cons_succ, List.set_cons_zero, List.set_cons_succ, ↓reduceIte, if_true, if_false, beq_self_eq_true, ne_eq, eq_self, not_true_eq_false, not_false_eq_true, undef, hn, h0, h1, List.length_cons, List.length_nil, rfits_f2, rfits_f4, l2, l4, c1', Try.results14]
    exact hst1
end Go.Proofs.Ytbakljlaladpoaa
