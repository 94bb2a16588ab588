/-
  The statement IccReads: any bytes are read as the same profile by the program and by the reference, or refused alike, and both tell alike whether so many parts fit: the law returns true.
  Conditions: none.
-/
import Derived.Test.YtbakljlaladpoaaRows
import Derived.Test.YtbakljlaladpoaaStart
import Derived.Test.YtbakljlaladpoaaIccM
set_option linter.unusedSimpArgs false
set_option linter.unusedVariables false
namespace Go.Cl.Icc
theorem readP_len (l : List UInt8) : (Go.Proofs.Ytbakljlaladpoaa.readP l).2.length ≤ 100 := by
  unfold Go.Proofs.Ytbakljlaladpoaa.readP
  split
  · simp
  · split
    · rename_i h
      split
      · rename_i T hT
        have := tagsTo_length hT
        have := h.2.1
        split <;> simp <;> omega
      · simp
    · simp
end Go.Cl.Icc
namespace Go.Proofs.Ytbakljlaladpoaa
open Go.Cl Go.Cl.Icc
/-- What a profile holds. -/
def HeadOf (l : List UInt8) (a b c : Int) (d e g : List UInt8) : Prop := if (readP l).1 = 0 then headIs l = headC a b c d e g else zeroP = headC a b c d e g ++ [.slice none 0 0]
theorem ProfIs.open2 {s s' : ASt} {l : List UInt8} {cs cs' : List Value} (h : ProfIs s l cs) (h' : ProfIs s' l cs') : ∃ a b c d e g x y, cs = headC a b c d e g ++ [x] ∧ cs' = headC a b c d e g ++ [y] ∧ Sees s 3 x (readP l).2.length (tagsC (readP l).2) ∧ Sees s' 3 y (readP l).2.length (tagsC (readP l).2) := by
  by_cases c : (readP l).1 = 0
  · obtain ⟨x, hx, hs⟩ := h.2 c
    obtain ⟨y, hy, hs'⟩ := h'.2 c
    exact ⟨_, _, _, _, _, _, x, y, hx, hy, hs, hs'⟩
  · have h1 := h.1 c
    have h2 := h'.1 c
    have e : (readP l).2 = [] := by
      revert c
      unfold readP
      repeat' split
      all_goals simp
    rw [e]
    exact ⟨0, 0, 0, [], [], [], .slice none 0 0, .slice none 0 0, h1, h2, .nil, .nil⟩
end Go.Proofs.Ytbakljlaladpoaa
namespace Go.Proofs.Ytbakljlaladpoaa.iccReads
open Go.ChangeShapes Go.WideShapes Go.ChangeAt Go.RowKit Go.Cl Go.Cl.Icc

theorem awake1 : answersTrue (acall Try.prog libN 100000 7 [] ⟨.nil, 1⟩) = true := by kernel_rfl
theorem rszProfT : sizeB Try.prog 27 = some 7 := szProf

set_option maxHeartbeats 4000000 in
theorem law (s : ASt) (x : Value) (l : List UInt8) (m : Int) (hw : WF s) (hk : s.next = 1) (hx : Sees s 1 x l.length (ofBytes l)) (_ : (Lit.int .i64 m).wf = true) :
    Runs Try.prog libN 4 [x, .int .i64 m] s fun v _ => v = .bool true := by
  refine Runs.enter 44 Try.func4 rfl rfl rfl rfl ?_
  intro f hn hf
  have h0 : f.get 0 = x := hf 0
  have h1 : f.get 1 = .int .i64 m := hf 1
  clear hf
  simp (config := { maxSteps := 1000000, implicitDefEqProofs := false }) (disch := omega) only [allW, cond_true, cond_false, oneOf, evalAll, partsA, optA, List.drop_zero, List.drop_succ_cons, List.cons_append, List.nil_append, Nat.reduceLT, Nat.reduceLeDiff, Nat.reduceEqDiff, Nat.reduceAdd, List.getD_cons_zero, List.getD_cons_succ, List.set_cons_zero, List.set_cons_succ, ↓reduceIte, if_true, if_false, beq_self_eq_true, ne_eq, eq_self, not_true_eq_false, not_false_eq_true, hn, h0, h1]
  refine (Runs.closed libFr awake1 hk hw).mono ?_
  rintro _ s1 ⟨rfl, hst1, _⟩
  have hx1 := hx.keeps hst1
  by_cases c1 : (3000 : Int) < (l.length : Int)
  · simp (config := { maxSteps := 1000000, implicitDefEqProofs := false }) (disch := omega) only [allW, wfn_ret, wfn_normal, cond_true, cond_false, oneOf, evalAll, partsA, optA, List.drop_zero, List.drop_succ_cons, List.cons_append, List.nil_append, Nat.reduceLT, Nat.reduceLeDiff, Nat.reduceEqDiff, Nat.reduceAdd, List.getD_cons_zero, List.getD_cons_succ, List.set_cons_zero, List.set_cons_succ, ↓reduceIte, if_true, if_false, beq_self_eq_true, ne_eq, eq_self, not_true_eq_false, not_false_eq_true, hn, h0, h1, hx1.lenA Try.underlying31, eq_true c1, Try.results4]
  simp (config := { maxSteps := 1000000, implicitDefEqProofs := false }) (disch := omega) only [allW, cond_true, cond_false, oneOf, evalAll, partsA, optA, List.drop_zero, List.drop_succ_cons, List.cons_append, List.nil_append, Nat.reduceLT, Nat.reduceLeDiff, Nat.reduceEqDiff, Nat.reduceAdd, List.getD_cons_zero, List.getD_cons_succ, List.set_cons_zero, List.set_cons_succ, ↓reduceIte, if_true, if_false, beq_self_eq_true, ne_eq, eq_self, not_true_eq_false, not_false_eq_true, hn, h0, h1, hx1.lenA Try.underlying31, eq_false c1]
  refine (read_any s1 x l hx1 (by omega)).mono ?_
  rintro _ s2 ⟨cs, rfl, hP, hst2⟩
  have hx2 := hx1.keeps hst2
  simp (config := { maxSteps := 1000000, implicitDefEqProofs := false }) (disch := omega) only [allW, cond_true, cond_false, oneOf, evalAll, partsA, optA, List.drop_zero, List.drop_succ_cons, List.cons_append, List.nil_append, Nat.reduceLT, Nat.reduceLeDiff, Nat.reduceEqDiff, Nat.reduceAdd, List.getD_cons_zero, List.getD_cons_succ, List.set_cons_zero, List.set_cons_succ, ↓reduceIte, if_true, if_false, beq_self_eq_true, ne_eq, eq_self, not_true_eq_false, not_false_eq_true, hn, h0, h1, show ∀ a b, extractA (.tuple #[a, b]) 0 = some a from fun _ _ => rfl, show ∀ a b, extractA (.tuple #[a, b]) 1 = some b from fun _ _ => rfl, zProf, plProf]
  refine wstep_newPtr ?_
  intro s3 ht3 hst3 hnx3
  have hd8 : zeroP.length + 1 = 8 := rfl
  have hcl : cs.length = 7 := by
    by_cases c : (readP l).1 = 0
    · obtain ⟨x, hx, _⟩ := hP.2 c; rw [hx]; rfl
    · rw [hP.1 c]; rfl
  have hcok : cs.all okCell = true := by
    by_cases c : (readP l).1 = 0
    · obtain ⟨x, hx, hxs⟩ := hP.2 c
      have hxk := hxs.okCell
      rw [hx]; simp only [headIs, headC, List.cons_append, List.nil_append, List.all_cons, List.all_nil, hxk]; rfl
    · rw [hP.1 c]; rfl
  simp (config := { maxSteps := 1000000, implicitDefEqProofs := false }) (disch := omega) only [allW, cond_true, cond_false, oneOf, evalAll, partsA, optA, List.drop_zero, List.drop_succ_cons, List.cons_append, List.nil_append, Nat.reduceLT, Nat.reduceLeDiff, Nat.reduceEqDiff, Nat.reduceAdd, List.getD_cons_zero, List.getD_cons_succ, List.set_cons_zero, List.set_cons_succ, ↓reduceIte, if_true, if_false, beq_self_eq_true, ne_eq, eq_self, not_true_eq_false, not_false_eq_true, hn, h0, h1, hd8]
  refine wstep_storeAll szProf (by decide) ht3 rfl rfl hcl hcok ?_
  intro s4 ht4 hnx4 hot4
  have ht4 : Thing s4 s2.next cs := ht4
  have hst24 : Stay s2.next s2 s4 := hst3.trans ⟨by omega, fun j hj => hot4 j (by omega)⟩
  have hx4 := hx2.keeps hst24
  simp (config := { maxSteps := 1000000, implicitDefEqProofs := false }) (disch := omega) only [allW, cond_true, cond_false, oneOf, evalAll, partsA, optA, List.drop_zero, List.drop_succ_cons, List.cons_append, List.nil_append, Nat.reduceLT, Nat.reduceLeDiff, Nat.reduceEqDiff, Nat.reduceAdd, List.getD_cons_zero, List.getD_cons_succ, List.set_cons_zero, List.set_cons_succ, ↓reduceIte, if_true, if_false, beq_self_eq_true, ne_eq, eq_self, not_true_eq_false, not_false_eq_true, hn, h0, h1]
  refine (rread_any s4 x l hx4 (by omega)).mono ?_
  rintro _ s5 ⟨cs', rfl, hP', hst5⟩
  obtain ⟨a, b, c, d, e, g, y, y', hcs, hcs', hy, hy'⟩ := hP.open2 hP'
  have ht5 := ht4.keeps hst5
  have hy5 := (hy.keeps hst24).keeps hst5
  rw [hcs] at ht5
  clear hP hP' hcok hcl ht4 ht3
  subst hcs hcs'
  simp (config := { maxSteps := 1000000, implicitDefEqProofs := false }) (disch := omega) only [allW, cond_true, cond_false, oneOf, evalAll, partsA, optA, List.drop_zero, List.drop_succ_cons, List.cons_append, List.nil_append, Nat.reduceLT, Nat.reduceLeDiff, Nat.reduceEqDiff, Nat.reduceAdd, List.getD_cons_zero, List.getD_cons_succ, List.set_cons_zero, List.set_cons_succ, ↓reduceIte, if_true, if_false, beq_self_eq_true, ne_eq, eq_self, not_true_eq_false, not_false_eq_true, hn, h0, h1, show ∀ a b, extractA (.tuple #[a, b]) 0 = some a from fun _ _ => rfl, show ∀ a b, extractA (.tuple #[a, b]) 1 = some b from fun _ _ => rfl, rzProf, plProf]
  refine wstep_newPtr ?_
  intro s6 ht6 hst6 hnx6
  simp (config := { maxSteps := 1000000, implicitDefEqProofs := false }) (disch := omega) only [allW, cond_true, cond_false, oneOf, evalAll, partsA, optA, List.drop_zero, List.drop_succ_cons, List.cons_append, List.nil_append, Nat.reduceLT, Nat.reduceLeDiff, Nat.reduceEqDiff, Nat.reduceAdd, List.getD_cons_zero, List.getD_cons_succ, List.set_cons_zero, List.set_cons_succ, ↓reduceIte, if_true, if_false, beq_self_eq_true, ne_eq, eq_self, not_true_eq_false, not_false_eq_true, hn, h0, h1, hd8]
  refine wstep_storeAll rszProf (by decide) ht6 rfl rfl rfl (by have hyk := hy'.okCell; simp only [headC, List.cons_append, List.nil_append, List.all_cons, List.all_nil, hyk]; rfl) ?_
  intro s7 ht7 hnx7 hot7
  have ht7 : Thing s7 s5.next (headC a b c d e g ++ [y']) := ht7
  have hst57 : Stay s5.next s5 s7 := hst6.trans ⟨by omega, fun j hj => hot7 j (by omega)⟩
  have ht57 := ht5.keeps hst57
  have hy7 := hy5.keeps hst57
  have hy7' := hy'.keeps hst57
  have hx5 := (hx4.keeps hst5).keeps hst57
  clear hy hy' hy5 ht5 ht6 hx4
  have hlen := readP_len l
  obtain ⟨T, hT⟩ : ∃ T, T = (readP l).2 := ⟨_, rfl⟩
  rw [← hT] at hy7 hy7' hlen
  obtain ⟨z, hz⟩ : ∃ z, z = (readP l).1 := ⟨_, rfl⟩
  rw [← hz]
  simp (config := { maxSteps := 1000000, implicitDefEqProofs := false }) (disch := omega) only [allW, allL, allB, Nat.sub_self, Nat.add_one_sub_one, Nat.reduceSub, cond_true, cond_false, oneOf, evalAll, partsA, optA, List.drop_zero, List.drop_succ_cons, List.cons_append, List.nil_append, Nat.reduceLT, Nat.reduceLeDiff, Nat.reduceEqDiff, Nat.reduceAdd, List.getD_cons_zero, List.getD_cons_succ, List.set_cons_zero, List.set_cons_succ, ↓reduceIte, if_true, if_false, beq_self_eq_true, ne_eq, eq_self, not_true_eq_false, not_false_eq_true, hn, h0, h1]
  obtain ⟨A, hA⟩ : ∃ A : Nat → Bool, A = fun j => decide (j < s7.next) := ⟨_, rfl⟩
  have hAl : ∀ j, A j = true → j < s7.next := by
    intro j h
    rw [hA] at h
    exact of_decide_eq_true h
  have hAo : ∀ j, j < s7.next → A j = true := fun j h => by rw [hA]; exact decide_eq_true h
  have hlow1 : ∀ k, LA.lowV A (some (.pointer (some ⟨s2.next, k, some 8⟩))) = true := fun k => LA.lowV_ptr (A := A) (i := s2.next) (hAo _ ht57.lt)
  have hlow2 : ∀ k, LA.lowV A (some (.pointer (some ⟨s5.next, k, some 8⟩))) = true := fun k => LA.lowV_ptr (A := A) (i := s5.next) (hAo _ ht7.lt)
  refine LB.Drawn.looseK A hAl 4 0 (by kernel_rfl) (by kernel_rfl) ?_
  rw [show spare s7 0 = s7 from rfl]
  have l1 := Thing.loadAll (P := Try.prog) (cs := headC a b c d e g ++ [y]) agProf szProf ht57 (c := 8) rfl
  have l2 : ∀ t, Stay s7.next s7 t → loadA Try.prog t 40 (.pointer (some ⟨s5.next, 0, some 8⟩)) = some (.agg (headC a b c d e g ++ [y']).toArray) := fun t ht => Thing.loadAll (P := Try.prog) (cs := headC a b c d e g ++ [y']) ragProf rszProf (ht7.keeps ht) (c := 8) rfl
  have l3 : ∀ t, Stay s7.next s7 t → loadA Try.prog t 24 (.pointer (some ⟨s2.next, 0, some 8⟩)) = some (.agg (headC a b c d e g).toArray) := fun t ht => Thing.loadSome (P := Try.prog) (cs := headC a b c d e g ++ [y]) agHead szHead (ht57.keeps ht) (off := 0) (c := 8) rfl (by simp [headC])
  have l4 : ∀ t, Stay s7.next s7 t → loadA Try.prog t 37 (.pointer (some ⟨s5.next, 0, some 8⟩)) = some (.agg (headC a b c d e g).toArray) := fun t ht => Thing.loadSome (P := Try.prog) (cs := headC a b c d e g ++ [y']) ragHead rszHead (ht7.keeps ht) (off := 0) (c := 8) rfl (by simp [headC])
  have hvH : valEq (.agg (headC a b c d e g).toArray) (.agg (headC a b c d e g).toArray) = true := by simp [headC, valEq, valEqL, valEq1]
  have hvP : ∀ {t} {v : Value} {n : Nat} {l : List Value}, Sees t 3 v n l → valEq (.agg (headC a b c d e g ++ [v]).toArray) (.agg (headC a b c d e g ++ [v]).toArray) = true := by
    intro t v n l hv
    cases hv <;> simp [headC, valEq, valEqL, valEq1, Nat.beq_refl]
  simp (config := { maxSteps := 1000000, implicitDefEqProofs := false }) (disch := omega) only [allW, allL, allB, Nat.sub_self, Nat.add_one_sub_one, Nat.reduceSub, cond_true, cond_false, oneOf, evalAll, partsA, optA, List.drop_zero, List.drop_succ_cons, List.cons_append, List.nil_append, Nat.reduceLT, Nat.reduceLeDiff, Nat.reduceEqDiff, Nat.reduceAdd, List.getD_cons_zero, List.getD_cons_succ, List.set_cons_zero, List.set_cons_succ, ↓reduceIte, if_true, if_false, beq_self_eq_true, ne_eq, eq_self, not_true_eq_false, not_false_eq_true, hn, h0, h1, hlow1, hlow2, l1, hvP hy7]
  refine (profile_any s7 a b c d e g y T hy7 (by omega)).mono ?_
  rintro _ t1 ⟨w, rfl, hw1, hwF, htt1⟩
  refine ⟨fun _ => LA.Stay.toA hAl htt1, ?_⟩
  simp (config := { maxSteps := 1000000, implicitDefEqProofs := false }) (disch := omega) only [allW, allL, allB, Nat.sub_self, Nat.add_one_sub_one, Nat.reduceSub, cond_true, cond_false, oneOf, evalAll, partsA, optA, List.drop_zero, List.drop_succ_cons, List.cons_append, List.nil_append, Nat.reduceLT, Nat.reduceLeDiff, Nat.reduceEqDiff, Nat.reduceAdd, List.getD_cons_zero, List.getD_cons_succ, List.set_cons_zero, List.set_cons_succ, ↓reduceIte, if_true, if_false, beq_self_eq_true, ne_eq, eq_self, not_true_eq_false, not_false_eq_true, hn, h0, h1, hlow1, hlow2, l2 t1 htt1, hvP hy7']
  refine (sameP_any t1 a b c d e g w y' T hw1.sees (hy7'.keeps htt1) (by omega)).mono ?_
  rintro _ t2 ⟨rfl, htt2⟩
  refine ⟨fun _ => LA.Stay.toA hAl (htt2.weaken htt1.next), ?_⟩
  have htt2 := htt1.trans (htt2.weaken htt1.next)
  simp (config := { maxSteps := 1000000, implicitDefEqProofs := false }) (disch := omega) only [allW, allL, allB, Nat.sub_self, Nat.add_one_sub_one, Nat.reduceSub, cond_true, cond_false, oneOf, evalAll, partsA, optA, List.drop_zero, List.drop_succ_cons, List.cons_append, List.nil_append, Nat.reduceLT, Nat.reduceLeDiff, Nat.reduceEqDiff, Nat.reduceAdd, List.getD_cons_zero, List.getD_cons_succ, List.set_cons_zero, List.set_cons_succ, ↓reduceIte, if_true, if_false, beq_self_eq_true, ne_eq, eq_self, not_true_eq_false, not_false_eq_true, hn, h0, h1, hlow1, hlow2, pf0, rpf0, l3 t2 htt2, hvH]
  refine (fits_any rfl t2 a b c m d e g).mono ?_
  rintro _ t3 ⟨rfl, htt3⟩
  refine ⟨fun _ => LA.Stay.toA hAl (htt3.weaken htt2.next), ?_⟩
  have htt3 := htt2.trans (htt3.weaken htt2.next)
  simp (config := { maxSteps := 1000000, implicitDefEqProofs := false }) (disch := omega) only [allW, allL, allB, Nat.sub_self, Nat.add_one_sub_one, Nat.reduceSub, cond_true, cond_false, oneOf, evalAll, partsA, optA, List.drop_zero, List.drop_succ_cons, List.cons_append, List.nil_append, Nat.reduceLT, Nat.reduceLeDiff, Nat.reduceEqDiff, Nat.reduceAdd, List.getD_cons_zero, List.getD_cons_succ, List.set_cons_zero, List.set_cons_succ, ↓reduceIte, if_true, if_false, beq_self_eq_true, ne_eq, eq_self, not_true_eq_false, not_false_eq_true, hn, h0, h1, hlow1, hlow2, rpf0, l4 t3 htt3, hvH]
  refine (rfits_any rfl t3 a b c m d e g).mono ?_
  rintro _ t4 ⟨rfl, htt4⟩
  refine ⟨fun _ => LA.Stay.toA hAl (htt4.weaken htt3.next), ?_⟩
  simp (config := { maxSteps := 1000000, implicitDefEqProofs := false }) (disch := omega) only [allW, allL, allB, Nat.sub_self, Nat.add_one_sub_one, Nat.reduceSub, cond_true, cond_false, oneOf, evalAll, partsA, optA, List.drop_zero, List.drop_succ_cons, List.cons_append, List.nil_append, Nat.reduceLT, Nat.reduceLeDiff, Nat.reduceEqDiff, Nat.reduceAdd, List.getD_cons_zero, List.getD_cons_succ, List.set_cons_zero, List.set_cons_succ, ↓reduceIte, if_true, if_false, beq_self_eq_true, ne_eq, eq_self, not_true_eq_false, not_false_eq_true, hn, h0, h1, hlow1, hlow2, eql_bool Try.underlying4]
  simp (config := { maxSteps := 1000000, implicitDefEqProofs := false }) (disch := omega) only [allW, wfn_ret, wfn_normal, cond_true, cond_false, oneOf, evalAll, partsA, optA, List.drop_zero, List.drop_succ_cons, List.cons_append, List.nil_append, Nat.reduceLT, Nat.reduceLeDiff, Nat.reduceEqDiff, Nat.reduceAdd, List.getD_cons_zero, List.getD_cons_succ, List.set_cons_zero, List.set_cons_succ, ↓reduceIte, if_true, if_false, beq_self_eq_true, ne_eq, eq_self, not_true_eq_false, not_false_eq_true, hn, h0, h1, Try.results4]

theorem own : ownKnob Try.prog.godebug = none := by kernel_rfl
theorem sound : progOk Try.prog libN = true := by kernel_rfl
theorem laid : laidOutB Try.prog = true := by kernel_rfl
theorem read : ∀ t ∈ Try.f4.params.toList, Try.prog.readableRec t = true ∧ t < Try.prog.types.size := by
  have : (Try.f4.params.toList.all fun t => Try.prog.readableRec t && decide (t < Try.prog.types.size)) = true := by kernel_rfl
  intro t ht
  simpa using List.all_eq_true.mp this t ht
theorem cellsu8 : Try.prog.cellsOf 5 = 1 := by kernel_rfl
set_option maxRecDepth 100000 in
theorem lifted (os : Os) (started : os.Started) (H : Type) (enc : TypeId × Value → H) :
    ReturnsInHanded {} Try.checked os 4 .any (Rows.iccReadsSpec.pre6 enc Try.prog Try.f4 Rows.iccReadsRow.domain false) (Rows.iccReadsSpec.post enc Try.prog Try.f4 false true false false) := by
  refine returnsInHanded_of_change (C := Try.checked) own started (by kernel_rfl) Try.func4
    (ChangeSpec.witness6 (enc := enc) (C := Try.checked) false ⟨#[], #[.slice none 0 0, .int .i64 0], []⟩ 8 (by kernel_rfl) (by kernel_rfl) (by kernel_rfl) (by kernel_rfl)) ?_
  intro W base args ds gs before hval hW hcnd _
  obtain ⟨p, q, hA, _, _, _, _⟩ := id hW
  have hA : DataW.TrodAll enc Try.prog W 0 (fun _ => true) true Try.f4.params.toList args.toList ds p := hA
  rw [Try.params4] at hA
  obtain ⟨v0, v1, d0, d1, p0, p1, rfl, rfl, rfl, h0, h1⟩ := trodAll_two hA
  have hv0 : Value.okWide Try.prog W .any base 31 v0 := hval 0 _ _ (by rw [Try.params4]; rfl) rfl
  have hv1 : Value.okWide Try.prog W .any base 3 v1 := hval 1 _ _ (by rw [Try.params4]; rfl) rfl
  obtain ⟨S0, x0, l0, hj0, hx0⟩ := (Begun.start W).bytes Try.underlying31 Try.underlying5 cellsu8 hv0 h0
  obtain ⟨n1, rfl, _, _, hz1⟩ := open_int Try.underlying3 hv1 h1
  have hcalls := Runs.callsL libFr (libOk _) sound rfl hj0.begun (law S0.s x0 l0 n1 hj0.begun.sr.wf (by rw [hj0.next]; rfl) hx0 hz1) (args' := #[v0, .int .i64 n1]) (VRL.cons hj0.vr (VRL.cons (.int _ _) VRL.nil))
  refine hcalls.mono fun e W' ⟨he, hb⟩ => ?_
  subst he
  exact law_post laid read rfl Try.underlying4 rfl (fun L hL => by match L, hL with | [a0, a1], _ => rfl) hW hb

theorem over : Rows.iccReadsRow.holds Try.pinned (OpenSpec.ofChange Rows.iccReadsSpec) :=
  OpenClaim.holds_of_wide 4 Try.f4 rfl rfl rfl rfl rfl rfl rfl ⟨rfl, rfl, rfl, rfl, rfl⟩ rfl rfl rfl rfl rfl (by kernel_rfl) Try.func4 (by kernel_rfl)
    (of_decide_eq_true (by kernel_rfl)) (by unfold Func.isWrapper; first | (rw [if_pos (by decide +kernel)]; kernel_rfl) | (rw [if_neg (by decide +kernel)]; exact ⟨rfl, rfl⟩))
    (fun os started H enc _ => lifted os started H enc)

/-- THE STATEMENT. -/
theorem proved : Rows.IccReadsSaid := over
#print axioms proved
end Go.Proofs.Ytbakljlaladpoaa.iccReads
