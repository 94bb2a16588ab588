/-
  Profiles: a profile is the same as its like.
-/
import Derived.Test.YtbakljlaladpoaaIccL
set_option linter.unusedSimpArgs false
set_option linter.unusedVariables false
namespace Go.Proofs.Ytbakljlaladpoaa
open Go.Cl Go.Cl.Icc
theorem Thing.loadSome {P : Program} {e : TypeId} {n : Nat} (hag : isAggB P e = some true) (hsz : sizeB P e = some n) {s : ASt} {i : Nat} {cs : List Value} (h : Thing s i cs) {off c : Nat} (hc : c = cs.length + 1) (ho : off + n ≤ cs.length) :
    loadA P s e (.pointer (some ⟨i, off, some c⟩)) = some (.agg ((cs.drop off).take n).toArray) := by
  obtain ⟨low, z, h1, h2⟩ := h.blk
  subst hc
  unfold loadA
  simp only [hag, hsz]
  rw [cellsAt_eq h1 h2 (Nat.le_refl _) (by omega)]
theorem byteSelf (a : List UInt8) : (a == a) = true := by simp
theorem headSelf (a b c : Int) (x y z : List UInt8) : binA Try.prog .neq 37 (.agg (headC a b c x y z).toArray) (.agg (headC a b c x y z).toArray) = some (.bool false) := by
  have e1 : Try.prog.eqGuardType Try.prog.depth 37 = false := by kernel_rfl
  have e2 : Try.prog.stoodInHeld 37 = false := by kernel_rfl
  simp only [binA, arrEqA]
  rw [Try.underlying37]
  simp only [headC, e1, e2, fieldsInt, fieldsText, cellsEqA, cellEqA, Try.underlying3, Try.underlying9]
  simp
theorem tagSelf (t : List UInt8 × Int × Int) : binA Try.prog .neq 46 (.agg (tagC t).toArray) (.agg (tagC t).toArray) = some (.bool false) := by
  have e1 : Try.prog.eqGuardType Try.prog.depth 46 = false := by kernel_rfl
  have e2 : Try.prog.stoodInHeld 46 = false := by kernel_rfl
  simp only [binA, arrEqA]
  rw [Try.underlying46]
  simp only [tagC, e1, e2, fieldsInt, fieldsText, cellsEqA, cellEqA, Try.underlying3, Try.underlying9]
  simp
theorem tagsC_agg (T : List (List UInt8 × Int × Int)) (i : Nat) (h : i < T.length) : Value.agg (((tagsC T).drop (i * 3)).take 3).toArray = .agg (tagC T[i]).toArray := by rw [tagsC_at T i h]
set_option maxHeartbeats 4000000 in
theorem sameP_any (s : ASt) (a b c : Int) (d e g : List UInt8) (v w : Value) (T : List (List UInt8 × Int × Int)) (hv : Sees s 3 v T.length (tagsC T)) (hw : Sees s 3 w T.length (tagsC T)) (hT : T.length ≤ 1000) :
    Runs Try.prog libN 12 [.agg (headC a b c d e g ++ [v]).toArray, .agg (headC a b c d e g ++ [w]).toArray] s fun r s' => r = .bool true ∧ Stay s.next s s' := by
  refine Runs.enter 38 Try.func12 rfl rfl rfl rfl ?_
  intro f hn hf
  have h0 : f.get 0 = .agg (headC a b c d e g ++ [v]).toArray := hf 0
  have h1 : f.get 1 = .agg (headC a b c d e g ++ [w]).toArray := hf 1
  clear hf
  simp (config := { maxSteps := 1000000, implicitDefEqProofs := false }) (disch := omega) only [allW, cond_true, cond_false, oneOf, evalAll, partsA, optA, List.drop_zero, List.drop_succ_cons, List.cons_append, List.nil_append, Nat.reduceLT, Nat.reduceLeDiff, Nat.reduceEqDiff, Nat.reduceAdd, List.getD_cons_zero, List.getD_cons_succ, List.set_cons_zero, List.set_cons_succ, ↓reduceIte, if_true, if_false, beq_self_eq_true, ne_eq, eq_self, not_true_eq_false, not_false_eq_true, hn, h0, h1]
  refine wstep_newPtr ?_
  intro s1 ht1 hst1 hnx1
  have hd8 : (headC a b c d e g ++ [v]).length + 1 = 8 := rfl
  have hd8' : (headC a b c d e g ++ [w]).length + 1 = 8 := rfl
  simp (config := { maxSteps := 1000000, implicitDefEqProofs := false }) (disch := omega) only [allW, cond_true, cond_false, oneOf, evalAll, partsA, optA, List.drop_zero, List.drop_succ_cons, List.cons_append, List.nil_append, Nat.reduceLT, Nat.reduceLeDiff, Nat.reduceEqDiff, Nat.reduceAdd, List.getD_cons_zero, List.getD_cons_succ, List.set_cons_zero, List.set_cons_succ, ↓reduceIte, if_true, if_false, beq_self_eq_true, ne_eq, eq_self, not_true_eq_false, not_false_eq_true, hn, h0, h1, hd8]
  refine wstep_newPtr ?_
  intro s2 ht2 hst2 hnx2
  have ht1' := ht1.keeps hst2
  have hst : Stay s.next s s2 := hst1.trans (hst2.weaken (by omega))
  have hv2 := hv.keeps hst
  have hw2 := hw.keeps hst
  have la : loadA Try.prog s2 37 (.pointer (some ⟨s.next, 0, some 8⟩)) = some (.agg (headC a b c d e g).toArray) := by
    exact Thing.loadSome (P := Try.prog) (cs := headC a b c d e g ++ [v]) ragHead rszHead ht1' (off := 0) (c := 8) rfl (by simp [headC])
  have lb : loadA Try.prog s2 37 (.pointer (some ⟨s1.next, 0, some 8⟩)) = some (.agg (headC a b c d e g).toArray) :=
    Thing.loadSome (P := Try.prog) (cs := headC a b c d e g ++ [w]) ragHead rszHead ht2 (off := 0) (c := 8) rfl (by simp [headC])
  have lv : loadA Try.prog s2 38 (.pointer (some ⟨s.next, 6, some 8⟩)) = some v := ht1'.load ragTagS (off := 6) (c := 8) rfl (by simp [headC])
  have lw : loadA Try.prog s2 38 (.pointer (some ⟨s1.next, 6, some 8⟩)) = some w := ht2.load ragTagS (off := 6) (c := 8) rfl (by simp [headC])
  have hvH : valEq (.agg (headC a b c d e g).toArray) (.agg (headC a b c d e g).toArray) = true := by simp [headC, valEq, valEqL, valEq1]
  simp (config := { maxSteps := 1000000, implicitDefEqProofs := false }) (disch := omega) only [allW, cond_true, cond_false, oneOf, evalAll, partsA, optA, List.drop_zero, List.drop_succ_cons, List.cons_append, List.nil_append, Nat.reduceLT, Nat.reduceLeDiff, Nat.reduceEqDiff, Nat.reduceAdd, List.getD_cons_zero, List.getD_cons_succ, List.set_cons_zero, List.set_cons_succ, ↓reduceIte, if_true, if_false, beq_self_eq_true, ne_eq, eq_self, not_true_eq_false, not_false_eq_true, undef, hn, h0, h1, hd8', rpf0, rpf1, la, lb, lv, lw, hvH, headSelf, hv2.lenA Try.underlying38, hw2.lenA Try.underlying38, hv2.self, hw2.self, bin_neq]
  refine Comes.loopAt (fun z f s6 => ∃ i : Nat, z = T.length - i ∧ i ≤ T.length ∧ s6 = s2 ∧ f.n = 38 ∧ f.get 2 = .pointer (some ⟨s.next, 0, some 8⟩) ∧ f.get 3 = .pointer (some ⟨s1.next, 0, some 8⟩) ∧ f.get 5 = .int .i64 (i : Nat))
    ⟨0, rfl, by omega, rfl, by simp only [get_put, n_put, ↓reduceIte, Nat.reduceEqDiff, hn], by simp only [get_put, n_put, ↓reduceIte, Nat.reduceEqDiff], by simp only [get_put, n_put, ↓reduceIte, Nat.reduceEqDiff], by simp only [get_put, n_put, ↓reduceIte, Nat.reduceEqDiff]; rfl⟩ ?_
  clear hn h0 h1 f
  rintro z f s6 ⟨i, rfl, hi, rfl, hn, h2, h3, h5⟩
  by_cases hlt : i < T.length
  · have d1 : (i : Int) < (T.length : Int) := by omega
    have hx1 := hv2.indexAddr (P := Try.prog) (k := .i64) (x := (i : Int)) Try.underlying38 rszTag (by omega) (by omega)
    have hx2 := hw2.indexAddr (P := Try.prog) (k := .i64) (x := (i : Int)) Try.underlying38 rszTag (by omega) (by omega)
    rw [Int.toNat_natCast] at hx1 hx2
    have g1 := hv2.loadAgg (P := Try.prog) ragTag rszTag hlt
    have g2 := hw2.loadAgg (P := Try.prog) ragTag rszTag hlt
    rw [tagsC_agg T i hlt] at g1 g2
    have hvT : ∀ t, valEq (.agg (tagC t).toArray) (.agg (tagC t).toArray) = true := fun t => by simp [valEq, valEqL, valEq1, tagC]
    simp (config := { maxSteps := 1000000, implicitDefEqProofs := false }) (disch := omega) only [allW, cond_true, cond_false, oneOf, evalAll, partsA, optA, List.drop_zero, List.drop_succ_cons, List.cons_append, List.nil_append, Nat.reduceLT, Nat.reduceLeDiff, Nat.reduceEqDiff, Nat.reduceAdd, List.getD_cons_zero, List.getD_cons_succ, List.set_cons_zero, List.set_cons_succ, ↓reduceIte, if_true, if_false, beq_self_eq_true, ne_eq, eq_self, not_true_eq_false, not_false_eq_true, undef, hn, h2, h3, h5, rpf1, lv, lw, hv2.self, hw2.self, hv2.lenA Try.underlying38, eq_true d1, hx1, hx2, g1, g2, hvT, tagSelf, wrapI]
    refine wround_next (T.length - (i + 1)) (by omega) ⟨i + 1, rfl, by omega, rfl, by simp only [get_put, n_put, ↓reduceIte, Nat.reduceEqDiff, hn], by simp only [get_put, n_put, ↓reduceIte, Nat.reduceEqDiff, h2], by simp only [get_put, n_put, ↓reduceIte, Nat.reduceEqDiff, h3], by simp only [get_put, n_put, ↓reduceIte, Nat.reduceEqDiff]; rfl⟩
  · obtain rfl : i = T.length := by omega
    have d1 : ¬ ((T.length : Nat) : Int) < ((T.length : Nat) : Int) := by omega
    simp (config := { maxSteps := 1000000, implicitDefEqProofs := false }) (disch := omega) only [allW, wfn_ret, wfn_normal, cond_true, cond_false, oneOf, evalAll, partsA, optA, List.drop_zero, List.drop_succ_cons, List.cons_append, List.nil_append, Nat.reduceLT, Nat.reduceLeDiff, Nat.reduceEqDiff, Nat.reduceAdd, List.getD_cons_zero, List.getD_cons_succ, List.set_cons_zero, List.set_cons_succ, ↓reduceIte, if_true, if_false, beq_self_eq_true, ne_eq, eq_self, not_true_eq_false, not_false_eq_true, hn, h2, h3, h5, rpf1, lv, hv2.lenA Try.underlying38, eq_false d1, Try.results12]
    exact hst
end Go.Proofs.Ytbakljlaladpoaa
