/-
  Profiles: whether there is a tag of a name.
-/
import Derived.Test.YtbakljlaladpoaaIccD
set_option linter.unusedSimpArgs false
set_option linter.unusedVariables false
namespace Go.Proofs.Ytbakljlaladpoaa
open Go.Cl Go.Cl.Icc
theorem tfld0 (i o c : Nat) : fieldAddrA Try.prog 35 (.pointer (some ⟨i, o, some c⟩)) 0 = some (.pointer (some ⟨i, o + 0, some c⟩)) := by
  unfold fieldAddrA; rw [Try.underlying35]; simp [qszStr]
theorem named1_any {lib : Prims} (hl : lib.at 37 = none) (s : ASt) (t a : List UInt8) (at' sz : Int) (j : Nat) (hj : Thing s j [.string ⟨a.toArray⟩]) :
    Runs Try.prog lib 37 [.agg #[.string ⟨t.toArray⟩, .int .i64 at', .int .i64 sz], .pointer (some ⟨j, 0, some 2⟩)] s fun v s' => v = .bool (decide (t = a)) ∧ Stay s.next s s' := by
  refine Runs.enter 8 Try.func37 rfl hl rfl rfl ?_
  intro f hn hf
  have h0 : f.get 0 = .agg #[.string ⟨t.toArray⟩, .int .i64 at', .int .i64 sz] := hf 0
  have h1 : f.get 1 = .pointer (some ⟨j, 0, some 2⟩) := hf 1
  clear hf
  simp (config := { maxSteps := 1000000, implicitDefEqProofs := false }) (disch := omega) only [allW, cond_true, cond_false, oneOf, evalAll, partsA, optA, List.drop_zero, List.drop_succ_cons, List.cons_append, List.nil_append, Nat.reduceLT, Nat.reduceLeDiff, Nat.reduceEqDiff, Nat.reduceAdd, List.getD_cons_zero, List.getD_cons_succ, List.set_cons_zero, List.set_cons_succ, ↓reduceIte, if_true, if_false, beq_self_eq_true, ne_eq, eq_self, not_true_eq_false, not_false_eq_true, hn, h0, h1]
  refine wstep_newPtr ?_
  intro s1 ht1 hst1 hnx1
  have l0 := ht1.load (P := Try.prog) qagStr (off := 0) (c := 4) rfl (by simp)
  have la := (hj.keeps hst1).load (P := Try.prog) qagStr (off := 0) (c := 2) rfl (by simp)
  have he := str_eql (P := Try.prog) (t := 9) t a
  obtain ⟨r, hr⟩ : ∃ r, r = decide (t = a) := ⟨_, rfl⟩
  rw [← hr] at he ⊢
  simp (config := { maxSteps := 1000000, implicitDefEqProofs := false }) (disch := omega) only [allW, cond_true, cond_false, oneOf, evalAll, partsA, optA, List.drop_zero, List.drop_succ_cons, List.cons_append, List.nil_append, Nat.reduceLT, Nat.reduceLeDiff, Nat.reduceEqDiff, Nat.reduceAdd, List.getD_cons_zero, List.getD_cons_succ, List.set_cons_zero, List.set_cons_succ, ↓reduceIte, if_true, if_false, beq_self_eq_true, ne_eq, eq_self, not_true_eq_false, not_false_eq_true, hn, h0, h1, List.length_cons, List.length_nil, tfld0, l0, la, he]
  simp (config := { maxSteps := 1000000, implicitDefEqProofs := false }) (disch := omega) only [allW, wfn_ret, wfn_normal, cond_true, cond_false, oneOf, evalAll, partsA, optA, List.drop_zero, List.drop_succ_cons, List.cons_append, List.nil_append, Nat.reduceLT, Nat.reduceLeDiff, Nat.reduceEqDiff, Nat.reduceAdd, List.getD_cons_zero, List.getD_cons_succ, List.set_cons_zero, List.set_cons_succ, ↓reduceIte, if_true, if_false, beq_self_eq_true, ne_eq, eq_self, not_true_eq_false, not_false_eq_true, hn, Try.results37]
  exact hst1
end Go.Proofs.Ytbakljlaladpoaa
