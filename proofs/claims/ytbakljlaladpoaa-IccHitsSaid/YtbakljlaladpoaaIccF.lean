/-
  Profiles: the first tag that a closure takes.
-/
import Derived.Test.YtbakljlaladpoaaIccE
set_option linter.unusedSimpArgs false
set_option linter.unusedVariables false
namespace Go.Cl
theorem aop_makeFunc {P : Program} {d : Option Tmp} {ty : TypeId} {ps : String} {af : Array Edge} {gd : Option (Nat × Bool)} {f : AFr} {s : ASt} (g : FuncId) (xs bs : Array Operand) : aop P ⟨d, .makeFunc (.func g) xs bs, ty, ps, af, gd⟩ f s = match evalAll f xs.toList, evalAll f bs.toList with
    | some l, some m => some (.val (.func (.func g) l.toArray m.toArray) s)
    | _, _ => none := rfl
end Go.Cl
namespace Go.Proofs.Ytbakljlaladpoaa
open Go.Cl Go.Cl.Icc
def tagC (t : List UInt8 × Int × Int) : List Value := [.string ⟨t.1.toArray⟩, .int .i64 t.2.1, .int .i64 t.2.2]
def tagsC (T : List (List UInt8 × Int × Int)) : List Value := T.flatMap tagC
theorem tagsC_at : ∀ (T : List (List UInt8 × Int × Int)) (i : Nat) (h : i < T.length), ((tagsC T).drop (i * 3)).take 3 = tagC T[i]
  | [], i, h => by simp at h
  | t :: r, 0, h => by simp [tagsC, tagC]
  | t :: r, i + 1, h => by
    have h1 : (tagsC (t :: r)).drop ((i + 1) * 3) = (tagsC r).drop (i * 3) := by
      rw [show (i + 1) * 3 = i * 3 + 3 by omega]
      simp [tagsC, tagC]
    rw [h1, tagsC_at r i (by simpa using h)]
    rfl
theorem szTag : sizeB Try.prog 35 = some 3 := by kernel_rfl
theorem agTag : isAggB Try.prog 35 = some true := by kernel_rfl
def AmongT (s : ASt) (a : List UInt8) (T : List (List UInt8 × Int × Int)) (v : Value) (s' : ASt) : Prop := (∃ r : Int, v = .int .i64 r ∧ (0 ≤ r ↔ ∃ t ∈ T, t.1 = a)) ∧ Stay s.next s s'
set_option maxHeartbeats 4000000 in
theorem tindex_any {lib : Prims} (hl : lib.at 44 = none) (hl1 : lib.at 37 = none) (s : ASt) (x : Value) (a : List UInt8) (T : List (List UInt8 × Int × Int)) (j : Nat) (hj : Thing s j [.string ⟨a.toArray⟩]) (hx : Sees s 3 x T.length (tagsC T)) (hT : T.length ≤ 100000000) :
    Runs Try.prog lib 44 [x, .func (.func 37) #[] #[.pointer (some ⟨j, 0, some 2⟩)]] s (AmongT s a T) := by
  refine Runs.enter 19 Try.func44 rfl hl rfl rfl ?_
  intro f hn hf
  have h0 : f.get 0 = x := hf 0
  have h1 : f.get 1 = .func (.func 37) #[] #[.pointer (some ⟨j, 0, some 2⟩)] := hf 1
  clear hf
  simp (config := { maxSteps := 1000000, implicitDefEqProofs := false }) (disch := omega) only [allW, cond_true, cond_false, oneOf, evalAll, partsA, optA, List.drop_zero, List.drop_succ_cons, List.cons_append, List.nil_append, Nat.reduceLT, Nat.reduceLeDiff, Nat.reduceEqDiff, Nat.reduceAdd, List.getD_cons_zero, List.getD_cons_succ, List.set_cons_zero, List.set_cons_succ, ↓reduceIte, if_true, if_false, beq_self_eq_true, ne_eq, eq_self, not_true_eq_false, not_false_eq_true, hn, h0, h1, hx.lenA Try.underlying25]
  refine Comes.loopAt (fun z f s' => ∃ (i : Nat), z = T.length - i ∧ i ≤ T.length ∧ (∀ t ∈ T.take i, t.1 ≠ a) ∧ Stay s.next s s' ∧ f.n = 19 ∧ f.get 0 = x ∧ f.get 1 = .func (.func 37) #[] #[.pointer (some ⟨j, 0, some 2⟩)] ∧ f.get 7 = .int .i64 T.length ∧ f.get 8 = .int .i64 i)
    ⟨0, rfl, by omega, by simp, Stay.refl _ _, by simp only [get_put, n_put, ↓reduceIte, Nat.reduceEqDiff, hn], by simp only [get_put, n_put, ↓reduceIte, Nat.reduceEqDiff, h0], by simp only [get_put, n_put, ↓reduceIte, Nat.reduceEqDiff, h1], by simp only [get_put, n_put, ↓reduceIte, Nat.reduceEqDiff], by simp only [get_put, n_put, ↓reduceIte, Nat.reduceEqDiff]; rfl⟩ ?_
  clear hn h0 h1 f
  rintro z f s2 ⟨i, rfl, hi, hni, hst, hn, h0, h1, h7, h8⟩
  by_cases hlt : i < T.length
  · have c1 : (i : Int) < (T.length : Int) := by omega
    have hx2 := hx.keeps hst
    have hidx := hx2.indexAddr (k := .i64) (x := (i : Int)) Try.underlying25 szTag (by omega) (by omega)
    rw [Int.toNat_natCast] at hidx
    have hld := hx2.loadAgg (P := Try.prog) agTag szTag hlt
    rw [tagsC_at T i hlt] at hld
    simp (config := { maxSteps := 1000000, implicitDefEqProofs := false }) (disch := omega) only [allW, cond_true, cond_false, oneOf, evalAll, partsA, optA, List.drop_zero, List.drop_succ_cons, List.cons_append, List.nil_append, Nat.reduceLT, Nat.reduceLeDiff, Nat.reduceEqDiff, Nat.reduceAdd, List.getD_cons_zero, List.getD_cons_succ, List.set_cons_zero, List.set_cons_succ, ↓reduceIte, if_true, if_false, beq_self_eq_true, ne_eq, eq_self, not_true_eq_false, not_false_eq_true, hn, h0, h1, h7, h8, eq_true c1, hx.self, hidx, hld]
    have htk : T.take (i + 1) = T.take i ++ [T[i]] := by rw [List.take_succ_eq_append_getElem hlt]
    refine (named1_any hl1 s2 T[i].1 a T[i].2.1 T[i].2.2 j (hj.keeps hst)).mono ?_
    rintro _ s3 ⟨rfl, hst3⟩
    have hst' := hst.trans (hst3.weaken hst.next)
    by_cases c2 : T[i].1 = a
    · rw [decide_eq_true c2]
      simp (config := { maxSteps := 1000000, implicitDefEqProofs := false }) (disch := omega) only [allW, cond_true, cond_false, oneOf, evalAll, partsA, optA, List.drop_zero, List.drop_succ_cons, List.cons_append, List.nil_append, Nat.reduceLT, Nat.reduceLeDiff, Nat.reduceEqDiff, Nat.reduceAdd, List.getD_cons_zero, List.getD_cons_succ, List.set_cons_zero, List.set_cons_succ, ↓reduceIte, if_true, if_false, beq_self_eq_true, ne_eq, eq_self, not_true_eq_false, not_false_eq_true, hn, h0, h1, h7, h8]
      simp (config := { maxSteps := 1000000, implicitDefEqProofs := false }) (disch := omega) only [allW, wfn_ret, wfn_normal, cond_true, cond_false, oneOf, evalAll, partsA, optA, List.drop_zero, List.drop_succ_cons, List.cons_append, List.nil_append, Nat.reduceLT, Nat.reduceLeDiff, Nat.reduceEqDiff, Nat.reduceAdd, List.getD_cons_zero, List.getD_cons_succ, List.set_cons_zero, List.set_cons_succ, ↓reduceIte, if_true, if_false, beq_self_eq_true, ne_eq, eq_self, not_true_eq_false, not_false_eq_true, hn, Try.results44]
      exact ⟨⟨(i : Int), rfl, fun _ => ⟨T[i], List.getElem_mem _, c2⟩, fun _ => by omega⟩, hst'⟩
    · rw [decide_eq_false c2]
      simp (config := { maxSteps := 1000000, implicitDefEqProofs := false }) (disch := omega) only [allW, cond_true, cond_false, oneOf, evalAll, partsA, optA, List.drop_zero, List.drop_succ_cons, List.cons_append, List.nil_append, Nat.reduceLT, Nat.reduceLeDiff, Nat.reduceEqDiff, Nat.reduceAdd, List.getD_cons_zero, List.getD_cons_succ, List.set_cons_zero, List.set_cons_succ, ↓reduceIte, if_true, if_false, beq_self_eq_true, ne_eq, eq_self, not_true_eq_false, not_false_eq_true, hn, h0, h1, h7, h8, wrapI]
      refine wround_next (T.length - (i + 1)) (by omega) ⟨i + 1, rfl, by omega, by rw [htk]; intro t h; rcases List.mem_append.mp h with h | h; exact hni t h; rw [List.mem_singleton.mp h]; exact c2, hst', by simp only [get_put, n_put, ↓reduceIte, Nat.reduceEqDiff, hn], by simp only [get_put, n_put, ↓reduceIte, Nat.reduceEqDiff, h0], by simp only [get_put, n_put, ↓reduceIte, Nat.reduceEqDiff, h1], by simp only [get_put, n_put, ↓reduceIte, Nat.reduceEqDiff, h7], by simp only [get_put, n_put, ↓reduceIte, Nat.reduceEqDiff]; rfl⟩
  · obtain rfl : i = T.length := by omega
    have c1 : ¬ (T.length : Int) < (T.length : Int) := by omega
    rw [List.take_of_length_le (Nat.le_refl _)] at hni
    simp (config := { maxSteps := 1000000, implicitDefEqProofs := false }) (disch := omega) only [allW, wfn_ret, wfn_normal, cond_true, cond_false, oneOf, evalAll, partsA, optA, List.drop_zero, List.drop_succ_cons, List.cons_append, List.nil_append, Nat.reduceLT, Nat.reduceLeDiff, Nat.reduceEqDiff, Nat.reduceAdd, List.getD_cons_zero, List.getD_cons_succ, List.set_cons_zero, List.set_cons_succ, ↓reduceIte, if_true, if_false, beq_self_eq_true, ne_eq, eq_self, not_true_eq_false, not_false_eq_true, hn, h0, h1, h7, h8, eq_false c1, Try.results44]
    exact ⟨⟨-1, rfl, fun h => absurd h (by decide), fun ⟨t, h1, h2⟩ => absurd h2 (hni t h1)⟩, hst⟩
end Go.Proofs.Ytbakljlaladpoaa
