/-
  Profiles: named.
-/
import Derived.Test.YtbakljlaladpoaaIccF
set_option linter.unusedSimpArgs false
set_option linter.unusedVariables false
namespace Go.Proofs.Ytbakljlaladpoaa
open Go.Cl Go.Cl.Icc
theorem tcontains_any {lib : Prims} (hl : lib.at 36 = none) (hli : lib.at 44 = none) (hl1 : lib.at 37 = none) (s : ASt) (x : Value) (a : List UInt8) (T : List (List UInt8 × Int × Int)) (j : Nat) (hj : Thing s j [.string ⟨a.toArray⟩]) (hx : Sees s 3 x T.length (tagsC T)) (hT : T.length ≤ 100000000) :
    Runs Try.prog lib 36 [x, .func (.func 37) #[] #[.pointer (some ⟨j, 0, some 2⟩)]] s fun v s' => v = .bool (T.any fun t => decide (t.1 = a)) ∧ Stay s.next s s' := by
  refine Runs.enter 9 Try.func36 rfl hl rfl rfl ?_
  intro f hn hf
  have h0 : f.get 0 = x := hf 0
  have h1 : f.get 1 = .func (.func 37) #[] #[.pointer (some ⟨j, 0, some 2⟩)] := hf 1
  clear hf
  simp (config := { maxSteps := 1000000, implicitDefEqProofs := false }) (disch := omega) only [allW, cond_true, cond_false, oneOf, evalAll, partsA, optA, List.drop_zero, List.drop_succ_cons, List.cons_append, List.nil_append, Nat.reduceLT, Nat.reduceLeDiff, Nat.reduceEqDiff, Nat.reduceAdd, List.getD_cons_zero, List.getD_cons_succ, List.set_cons_zero, List.set_cons_succ, ↓reduceIte, if_true, if_false, beq_self_eq_true, ne_eq, eq_self, not_true_eq_false, not_false_eq_true, hn, h0, h1, hx.self]
  refine (tindex_any hli hl1 s x a T j hj hx hT).mono ?_
  rintro _ s2 ⟨⟨r, rfl, hr⟩, hst⟩
  obtain ⟨y, hy⟩ : ∃ y, y = T.any fun t => decide (t.1 = a) := ⟨_, rfl⟩
  rw [← hy]
  by_cases c1 : 0 ≤ r
  · have : y = true := by rw [hy, List.any_eq_true]; obtain ⟨t, h1, h2⟩ := hr.mp c1; exact ⟨t, h1, by simpa using h2⟩
    rw [this]
    simp (config := { maxSteps := 1000000, implicitDefEqProofs := false }) (disch := omega) only [allW, wfn_ret, wfn_normal, cond_true, cond_false, oneOf, evalAll, partsA, optA, List.drop_zero, List.drop_succ_cons, List.cons_append, List.nil_append, Nat.reduceLT, Nat.reduceLeDiff, Nat.reduceEqDiff, Nat.reduceAdd, List.getD_cons_zero, List.getD_cons_succ, List.set_cons_zero, List.set_cons_succ, ↓reduceIte, if_true, if_false, beq_self_eq_true, ne_eq, eq_self, not_true_eq_false, not_false_eq_true, hn, eq_true c1, Try.results36]
    exact hst
  · have : y = false := by
      rw [hy, List.any_eq_false]; intro t h1 h2; exact c1 (hr.mpr ⟨t, h1, by simpa using h2⟩)
    rw [this]
    simp (config := { maxSteps := 1000000, implicitDefEqProofs := false }) (disch := omega) only [allW, wfn_ret, wfn_normal, cond_true, cond_false, oneOf, evalAll, partsA, optA, List.drop_zero, List.drop_succ_cons, List.cons_append, List.nil_append, Nat.reduceLT, Nat.reduceLeDiff, Nat.reduceEqDiff, Nat.reduceAdd, List.getD_cons_zero, List.getD_cons_succ, List.set_cons_zero, List.set_cons_succ, ↓reduceIte, if_true, if_false, beq_self_eq_true, ne_eq, eq_self, not_true_eq_false, not_false_eq_true, hn, eq_false c1, Try.results36]
    exact hst
theorem named_any {lib : Prims} (hl : lib.at 23 = none) (hlc : lib.at 36 = none) (hli : lib.at 44 = none) (hl1 : lib.at 37 = none) (s : ASt) (x : Value) (a : List UInt8) (T : List (List UInt8 × Int × Int)) (hx : Sees s 3 x T.length (tagsC T)) (hT : T.length ≤ 100000000) :
    Runs Try.prog lib 23 [x, .string ⟨a.toArray⟩] s fun v s' => v = .bool (T.any fun t => decide (t.1 = a)) ∧ Stay s.next s s' := by
  refine Runs.enter 8 Try.func23 rfl hl rfl rfl ?_
  intro f hn hf
  have h0 : f.get 0 = x := hf 0
  have h1 : f.get 1 = .string ⟨a.toArray⟩ := hf 1
  clear hf
  simp (config := { maxSteps := 1000000, implicitDefEqProofs := false }) (disch := omega) only [allW, cond_true, cond_false, oneOf, evalAll, partsA, optA, List.drop_zero, List.drop_succ_cons, List.cons_append, List.nil_append, Nat.reduceLT, Nat.reduceLeDiff, Nat.reduceEqDiff, Nat.reduceAdd, List.getD_cons_zero, List.getD_cons_succ, List.set_cons_zero, List.set_cons_succ, ↓reduceIte, if_true, if_false, beq_self_eq_true, ne_eq, eq_self, not_true_eq_false, not_false_eq_true, hn, h0, h1]
  refine wstep_newPtr ?_
  intro s1 ht1 hst1 hnx1
  simp (config := { maxSteps := 1000000, implicitDefEqProofs := false }) (disch := omega) only [allW, cond_true, cond_false, oneOf, evalAll, partsA, optA, List.drop_zero, List.drop_succ_cons, List.cons_append, List.nil_append, Nat.reduceLT, Nat.reduceLeDiff, Nat.reduceEqDiff, Nat.reduceAdd, List.getD_cons_zero, List.getD_cons_succ, List.set_cons_zero, List.set_cons_succ, ↓reduceIte, if_true, if_false, beq_self_eq_true, ne_eq, eq_self, not_true_eq_false, not_false_eq_true, hn, h0, h1, List.length_cons, List.length_nil, aop_makeFunc, hx.self]
  refine (tcontains_any hlc hli hl1 s1 x a T s.next ht1 (hx.keeps hst1) hT).mono ?_
  rintro _ s2 ⟨rfl, hst2⟩
  simp (config := { maxSteps := 1000000, implicitDefEqProofs := false }) (disch := omega) only [allW, wfn_ret, wfn_normal, cond_true, cond_false, oneOf, evalAll, partsA, optA, List.drop_zero, List.drop_succ_cons, List.cons_append, List.nil_append, Nat.reduceLT, Nat.reduceLeDiff, Nat.reduceEqDiff, Nat.reduceAdd, List.getD_cons_zero, List.getD_cons_succ, List.set_cons_zero, List.set_cons_succ, ↓reduceIte, if_true, if_false, beq_self_eq_true, ne_eq, eq_self, not_true_eq_false, not_false_eq_true, hn, Try.results23]
  exact hst1.trans (hst2.weaken hst1.next)
end Go.Proofs.Ytbakljlaladpoaa
