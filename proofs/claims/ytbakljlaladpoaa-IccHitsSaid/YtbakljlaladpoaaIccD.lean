/-
  Profiles: whether a text is among texts.
-/
import Derived.Test.YtbakljlaladpoaaIccC
set_option linter.unusedSimpArgs false
set_option linter.unusedVariables false
namespace Go.Proofs.Ytbakljlaladpoaa
open Go.Cl Go.Cl.Icc
def txts (T : List (List UInt8)) : List Value := T.map fun a => .string ⟨a.toArray⟩
theorem txts_getD {T : List (List UInt8)} {i : Nat} (h : i < T.length) : (txts T).getD i undef = .string ⟨(T[i]).toArray⟩ := by
  simp [txts, List.getD_eq_getElem?_getD, List.getElem?_eq_getElem h]
def Among (s : ASt) (a : List UInt8) (T : List (List UInt8)) (v : Value) (s' : ASt) : Prop := (∃ r : Int, v = .int .i64 r ∧ (0 ≤ r ↔ a ∈ T)) ∧ s' = s
set_option maxHeartbeats 4000000 in
theorem sindex_any {lib : Prims} (hl : lib.at 43 = none) (s : ASt) (x : Value) (a : List UInt8) (T : List (List UInt8)) (hx : Sees s 1 x T.length (txts T)) (hT : T.length ≤ 1000000) :
    Runs Try.prog lib 43 [x, .string ⟨a.toArray⟩] s (Among s a T) := by
  refine Runs.enter 19 Try.func43 rfl hl rfl rfl ?_
  intro f hn hf
  have h0 : f.get 0 = x := hf 0
  have h1 : f.get 1 = .string ⟨a.toArray⟩ := hf 1
  clear hf
  simp (config := { maxSteps := 1000000, implicitDefEqProofs := false }) (disch := omega) only [allW, cond_true, cond_false, oneOf, evalAll, partsA, optA, List.drop_zero, List.drop_succ_cons, List.cons_append, List.nil_append, Nat.reduceLT, Nat.reduceLeDiff, Nat.reduceEqDiff, Nat.reduceAdd, List.getD_cons_zero, List.getD_cons_succ, List.set_cons_zero, List.set_cons_succ, ↓reduceIte, if_true, if_false, beq_self_eq_true, ne_eq, eq_self, not_true_eq_false, not_false_eq_true, hn, h0, h1, hx.lenA Try.underlying77]
  refine Comes.loopAt (fun z f s' => ∃ (i : Nat), z = T.length - i ∧ i ≤ T.length ∧ a ∉ T.take i ∧ s' = s ∧ f.n = 19 ∧ f.get 0 = x ∧ f.get 1 = .string ⟨a.toArray⟩ ∧ f.get 7 = .int .i64 T.length ∧ f.get 8 = .int .i64 i)
    ⟨0, rfl, by omega, by simp, rfl, by simp only [get_put, n_put, ↓reduceIte, Nat.reduceEqDiff, hn], by simp only [get_put, n_put, ↓reduceIte, Nat.reduceEqDiff, h0], by simp only [get_put, n_put, ↓reduceIte, Nat.reduceEqDiff, h1], by simp only [get_put, n_put, ↓reduceIte, Nat.reduceEqDiff], by simp only [get_put, n_put, ↓reduceIte, Nat.reduceEqDiff]; rfl⟩ ?_
  clear hn h0 h1 f
  rintro z f s2 ⟨i, rfl, hi, hni, hs2, hn, h0, h1, h7, h8⟩
  subst hs2
  by_cases hlt : i < T.length
  · have c1 : (i : Int) < (T.length : Int) := by omega
    have hidx := hx.indexAddr (k := .i64) (x := (i : Int)) Try.underlying77 qszStr (by omega) (by omega)
    rw [Int.toNat_natCast] at hidx
    have hld := hx.load1 (P := Try.prog) qagStr hlt
    rw [txts_getD hlt] at hld
    have htk : T.take (i + 1) = T.take i ++ [T[i]] := by rw [List.take_succ_eq_append_getElem hlt]
    have he := str_eql (P := Try.prog) (t := 9) a T[i]
    by_cases c2 : a = T[i]
    · rw [decide_eq_true c2] at he
      simp (config := { maxSteps := 1000000, implicitDefEqProofs := false }) (disch := omega) only [allW, cond_true, cond_false, oneOf, evalAll, partsA, optA, List.drop_zero, List.drop_succ_cons, List.cons_append, List.nil_append, Nat.reduceLT, Nat.reduceLeDiff, Nat.reduceEqDiff, Nat.reduceAdd, List.getD_cons_zero, List.getD_cons_succ, List.set_cons_zero, List.set_cons_succ, ↓reduceIte, if_true, if_false, beq_self_eq_true, ne_eq, eq_self, not_true_eq_false, not_false_eq_true, hn, h0, h1, h7, h8, eq_true c1, hx.self, hidx, hld, he]
      simp (config := { maxSteps := 1000000, implicitDefEqProofs := false }) (disch := omega) only [allW, wfn_ret, wfn_normal, cond_true, cond_false, oneOf, evalAll, partsA, optA, List.drop_zero, List.drop_succ_cons, List.cons_append, List.nil_append, Nat.reduceLT, Nat.reduceLeDiff, Nat.reduceEqDiff, Nat.reduceAdd, List.getD_cons_zero, List.getD_cons_succ, List.set_cons_zero, List.set_cons_succ, ↓reduceIte, if_true, if_false, beq_self_eq_true, ne_eq, eq_self, not_true_eq_false, not_false_eq_true, hn, Try.results43]
      exact ⟨⟨(i : Int), rfl, by rw [c2]; simp⟩, rfl⟩
    · rw [decide_eq_false c2] at he
      simp (config := { maxSteps := 1000000, implicitDefEqProofs := false }) (disch := omega) only [allW, cond_true, cond_false, oneOf, evalAll, partsA, optA, List.drop_zero, List.drop_succ_cons, List.cons_append, List.nil_append, Nat.reduceLT, Nat.reduceLeDiff, Nat.reduceEqDiff, Nat.reduceAdd, List.getD_cons_zero, List.getD_cons_succ, List.set_cons_zero, List.set_cons_succ, ↓reduceIte, if_true, if_false, beq_self_eq_true, ne_eq, eq_self, not_true_eq_false, not_false_eq_true, hn, h0, h1, h7, h8, eq_true c1, hx.self, hidx, hld, he, wrapI]
      refine wround_next (T.length - (i + 1)) (by omega) ⟨i + 1, rfl, by omega, by rw [htk]; intro h; rcases List.mem_append.mp h with h | h; exact hni h; exact c2 (List.mem_singleton.mp h), rfl, by simp only [get_put, n_put, ↓reduceIte, Nat.reduceEqDiff, hn], by simp only [get_put, n_put, ↓reduceIte, Nat.reduceEqDiff, h0], by simp only [get_put, n_put, ↓reduceIte, Nat.reduceEqDiff, h1], by simp only [get_put, n_put, ↓reduceIte, Nat.reduceEqDiff, h7], by simp only [get_put, n_put, ↓reduceIte, Nat.reduceEqDiff]; rfl⟩
  · obtain rfl : i = T.length := by omega
    have c1 : ¬ (T.length : Int) < (T.length : Int) := by omega
    rw [List.take_of_length_le (Nat.le_refl _)] at hni
    simp (config := { maxSteps := 1000000, implicitDefEqProofs := false }) (disch := omega) only [allW, wfn_ret, wfn_normal, cond_true, cond_false, oneOf, evalAll, partsA, optA, List.drop_zero, List.drop_succ_cons, List.cons_append, List.nil_append, Nat.reduceLT, Nat.reduceLeDiff, Nat.reduceEqDiff, Nat.reduceAdd, List.getD_cons_zero, List.getD_cons_succ, List.set_cons_zero, List.set_cons_succ, ↓reduceIte, if_true, if_false, beq_self_eq_true, ne_eq, eq_self, not_true_eq_false, not_false_eq_true, hn, h0, h1, h7, h8, eq_false c1, Try.results43]
    exact ⟨⟨-1, rfl, by simp [hni]⟩, rfl⟩
theorem scontains_any {lib : Prims} (hl : lib.at 35 = none) (hli : lib.at 43 = none) (s : ASt) (x : Value) (a : List UInt8) (T : List (List UInt8)) (hx : Sees s 1 x T.length (txts T)) (hT : T.length ≤ 1000000) :
    Runs Try.prog lib 35 [x, .string ⟨a.toArray⟩] s fun v s' => v = .bool (decide (a ∈ T)) ∧ s' = s := by
  refine Runs.enter 9 Try.func35 rfl hl rfl rfl ?_
  intro f hn hf
  have h0 : f.get 0 = x := hf 0
  have h1 : f.get 1 = .string ⟨a.toArray⟩ := hf 1
  clear hf
  simp (config := { maxSteps := 1000000, implicitDefEqProofs := false }) (disch := omega) only [allW, cond_true, cond_false, oneOf, evalAll, partsA, optA, List.drop_zero, List.drop_succ_cons, List.cons_append, List.nil_append, Nat.reduceLT, Nat.reduceLeDiff, Nat.reduceEqDiff, Nat.reduceAdd, List.getD_cons_zero, List.getD_cons_succ, List.set_cons_zero, List.set_cons_succ, ↓reduceIte, if_true, if_false, beq_self_eq_true, ne_eq, eq_self, not_true_eq_false, not_false_eq_true, hn, h0, h1, hx.self]
  refine (sindex_any hli s x a T hx hT).mono ?_
  rintro _ s2 ⟨⟨r, rfl, hr⟩, hs2⟩
  subst hs2
  by_cases c1 : a ∈ T
  · have c2 : 0 ≤ r := hr.mpr c1
    rw [decide_eq_true c1]
    simp (config := { maxSteps := 1000000, implicitDefEqProofs := false }) (disch := omega) only [allW, wfn_ret, wfn_normal, cond_true, cond_false, oneOf, evalAll, partsA, optA, List.drop_zero, List.drop_succ_cons, List.cons_append, List.nil_append, Nat.reduceLT, Nat.reduceLeDiff, Nat.reduceEqDiff, Nat.reduceAdd, List.getD_cons_zero, List.getD_cons_succ, List.set_cons_zero, List.set_cons_succ, ↓reduceIte, if_true, if_false, beq_self_eq_true, ne_eq, eq_self, not_true_eq_false, not_false_eq_true, hn, eq_true c2, Try.results35]
  · have c2 : ¬ 0 ≤ r := fun e => c1 (hr.mp e)
    rw [decide_eq_false c1]
    simp (config := { maxSteps := 1000000, implicitDefEqProofs := false }) (disch := omega) only [allW, wfn_ret, wfn_normal, cond_true, cond_false, oneOf, evalAll, partsA, optA, List.drop_zero, List.drop_succ_cons, List.cons_append, List.nil_append, Nat.reduceLT, Nat.reduceLeDiff, Nat.reduceEqDiff, Nat.reduceAdd, List.getD_cons_zero, List.getD_cons_succ, List.set_cons_zero, List.set_cons_succ, ↓reduceIte, if_true, if_false, beq_self_eq_true, ne_eq, eq_self, not_true_eq_false, not_false_eq_true, hn, eq_false c2, Try.results35]
end Go.Proofs.Ytbakljlaladpoaa
