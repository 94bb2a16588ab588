/-
  Profiles: the program's Read.
-/
import Derived.Test.YtbakljlaladpoaaIccI
set_option linter.unusedSimpArgs false
set_option linter.unusedVariables false
namespace Go.Proofs.Ytbakljlaladpoaa
open Go.Cl Go.Cl.Icc
def DESC : List UInt8 := [100, 101, 115, 99]
def WTPT : List UInt8 := [119, 116, 112, 116]
def has (T : List (List UInt8 × Int × Int)) (a : List UInt8) : Bool := T.any fun t => decide (t.1 = a)
/-- What bytes are: what is wrong, and the tags. -/
def readP (l : List UInt8) : Int × List (List UInt8 × Int × Int) :=
  if l.length < 132 then (2, []) else
  if okHead l ∧ okMany l then
    match tagsTo l (num l 128) (num l 128) with
    | some T => if has T DESC && has T WTPT then (0, T) else (8, [])
    | none => (4, [])
  else (4, [])
theorem readP_short {l : List UInt8} (h : l.length < 132) : readP l = (2, []) := by unfold readP; rw [if_pos h]
theorem readP_bad {l : List UInt8} (h : ¬ l.length < 132) (c : ¬ (okHead l ∧ okMany l)) : readP l = (4, []) := by unfold readP; rw [if_neg h, if_neg c]
theorem readP_none {l : List UInt8} (h : ¬ l.length < 132) (hT : tagsTo l (num l 128) (num l 128) = none) : readP l = (4, []) := by
  unfold readP; rw [if_neg h]
  by_cases c : okHead l ∧ okMany l
  · rw [if_pos c, hT]
  · rw [if_neg c]
theorem readP_some {l : List UInt8} {T : List (List UInt8 × Int × Int)} (h : ¬ l.length < 132) (c : okHead l ∧ okMany l) (hT : tagsTo l (num l 128) (num l 128) = some T) : readP l = if has T DESC && has T WTPT then (0, T) else (8, []) := by
  unfold readP; rw [if_neg h, if_pos c, hT]
def zeroP : List Value := headC 0 0 0 [] [] [] ++ [.slice none 0 0]
/-- A profile in memory. -/
def ProfIs (s : ASt) (l : List UInt8) (cs : List Value) : Prop :=
  ((readP l).1 ≠ 0 → cs = zeroP) ∧ ((readP l).1 = 0 → ∃ x, cs = headIs l ++ [x] ∧ Sees s 3 x (readP l).2.length (tagsC (readP l).2))
def ReadIs (s : ASt) (l : List UInt8) (v : Value) (s' : ASt) : Prop := ∃ cs, v = .tuple #[.agg cs.toArray, .int .i64 (readP l).1] ∧ ProfIs s' l cs ∧ Stay s.next s s'
theorem zProf : zeroB Try.prog 27 = some (.agg zeroP.toArray) := by kernel_rfl
theorem plProf : plainV (.agg zeroP.toArray) = true := by kernel_rfl
theorem szProf : sizeB Try.prog 27 = some 7 := by kernel_rfl
theorem agProf : isAggB Try.prog 27 = some true := by kernel_rfl
theorem bProf0 : buildA Try.prog 27 [] = some (.agg zeroP.toArray) := by kernel_rfl
theorem bRd (i : Nat) : buildA Try.prog 58 [(0, cptr i)] = some (.agg #[cptr i]) := by
  unfold buildA; rw [Try.underlying58]
  have hz : zeroB Try.prog 58 = some (.agg #[.pointer none]) := by kernel_rfl
  rw [hz]
  have cp : ∀ a, (Value.pointer a).cells = #[.pointer a] := fun _ => rfl
  simp [szCp, plainV, plain1, fillA, placeOf, cells_agg, setAt, cp, cptr]
theorem zRd : zeroB Try.prog 58 = some (.agg #[.pointer none]) := by kernel_rfl
theorem szTagS : sizeB Try.prog 25 = some 1 := by kernel_rfl
theorem bProf (a b c : Int) (x y z : List UInt8) {v : Value} (hv : v.cells.toList = [v]) : buildA Try.prog 27 [(0, .agg (headC a b c x y z).toArray), (1, v)] = some (.agg (headC a b c x y z ++ [v]).toArray) := by
  unfold buildA; rw [Try.underlying27]
  have hz : zeroB Try.prog 27 = some (.agg #[.int .i64 0, .int .i64 0, .int .i64 0, .string ⟨#[]⟩, .string ⟨#[]⟩, .string ⟨#[]⟩, .slice none 0 0]) := by kernel_rfl
  rw [hz]
  simp [szHead, szTagS, plainV, plain1, fillA, placeOf, cells_agg, setAt, hv, headC]
theorem plRd : plainV (.agg #[.pointer none]) = true := by kernel_rfl
set_option maxHeartbeats 4000000 in
theorem read_any (s : ASt) (x : Value) (l : List UInt8) (hx : Sees s 1 x l.length (ofBytes l)) (hlen : l.length ≤ 100000000) :
    Runs Try.prog libN 8 [x] s (ReadIs s l) := by
  refine Runs.enter 49 Try.func8 rfl rfl rfl rfl ?_
  intro f hn hf
  have h0 : f.get 0 = x := hf 0
  clear hf
  simp (config := { maxSteps := 1000000, implicitDefEqProofs := false }) (disch := omega) only [allW, cond_true, cond_false, oneOf, evalAll, partsA, optA, List.drop_zero, List.drop_succ_cons, List.cons_append, List.nil_append, Nat.reduceLT, Nat.reduceLeDiff, Nat.reduceEqDiff, Nat.reduceAdd, List.getD_cons_zero, List.getD_cons_succ, List.set_cons_zero, List.set_cons_succ, ↓reduceIte, if_true, if_false, beq_self_eq_true, ne_eq, eq_self, not_true_eq_false, not_false_eq_true, hn, h0, zProf, plProf]
  refine wstep_newPtr ?_
  intro s1 ht1 hst1 hnx1
  have hd8 : zeroP.length + 1 = 8 := rfl
  simp (config := { maxSteps := 1000000, implicitDefEqProofs := false }) (disch := omega) only [allW, cond_true, cond_false, oneOf, evalAll, partsA, optA, List.drop_zero, List.drop_succ_cons, List.cons_append, List.nil_append, Nat.reduceLT, Nat.reduceLeDiff, Nat.reduceEqDiff, Nat.reduceAdd, List.getD_cons_zero, List.getD_cons_succ, List.set_cons_zero, List.set_cons_succ, ↓reduceIte, if_true, if_false, beq_self_eq_true, ne_eq, eq_self, not_true_eq_false, not_false_eq_true, hn, h0, hd8, hx.self]
  have hx1 := hx.keeps hst1
  refine (new_any rfl s1.next s1 x l hx1.low (Nat.le_refl _)).mono ?_
  rintro _ s2 ⟨rfl, hc2, hst2, hnx2⟩
  simp (config := { maxSteps := 1000000, implicitDefEqProofs := false }) (disch := omega) only [allW, cond_true, cond_false, oneOf, evalAll, partsA, optA, List.drop_zero, List.drop_succ_cons, List.cons_append, List.nil_append, Nat.reduceLT, Nat.reduceLeDiff, Nat.reduceEqDiff, Nat.reduceAdd, List.getD_cons_zero, List.getD_cons_succ, List.set_cons_zero, List.set_cons_succ, ↓reduceIte, if_true, if_false, beq_self_eq_true, ne_eq, eq_self, not_true_eq_false, not_false_eq_true, hn, h0, bRd, zRd, plRd, List.length_cons, List.length_nil]
  refine wstep_newPtr ?_
  intro s3 ht3 hst3 hnx3
  simp (config := { maxSteps := 1000000, implicitDefEqProofs := false }) (disch := omega) only [allW, cond_true, cond_false, oneOf, evalAll, partsA, optA, List.drop_zero, List.drop_succ_cons, List.cons_append, List.nil_append, Nat.reduceLT, Nat.reduceLeDiff, Nat.reduceEqDiff, Nat.reduceAdd, List.getD_cons_zero, List.getD_cons_succ, List.set_cons_zero, List.set_cons_succ, ↓reduceIte, if_true, if_false, beq_self_eq_true, ne_eq, eq_self, not_true_eq_false, not_false_eq_true, hn, h0, List.length_cons, List.length_nil]
  refine wstep_storeAll szRd (by decide) ht3 rfl rfl rfl rfl ?_
  intro s4 ht4 hnx4 hot4
  have hc4 := (hc2.keeps (by omega) hst3).ofPut hnx4 hot4 (by omega) (by omega)
  have htp := ((ht1.keeps hst2).keeps hst3).ofPut hnx4 hot4 (by omega)
  have hst4 : Stay s2.next s2 s4 := ⟨by omega, fun j hj => (hot4 j (by omega)).trans (hst3.get j hj)⟩
  have hstp : Stay s.next s s4 := (hst1.trans (hst2.weaken hst1.next)).trans (hst4.weaken (by omega))
  have l0 := ht4.load (P := Try.prog) agCp (off := 0) (c := 2) rfl (by simp)
  simp (config := { maxSteps := 1000000, implicitDefEqProofs := false }) (disch := omega) only [allW, cond_true, cond_false, oneOf, evalAll, partsA, optA, List.drop_zero, List.drop_succ_cons, List.cons_append, List.nil_append, Nat.reduceLT, Nat.reduceLeDiff, Nat.reduceEqDiff, Nat.reduceAdd, List.getD_cons_zero, List.getD_cons_succ, List.set_cons_zero, List.set_cons_succ, ↓reduceIte, if_true, if_false, beq_self_eq_true, ne_eq, eq_self, not_true_eq_false, not_false_eq_true, hn, h0, rfld0, l0, cptr_self]
  refine (len_any rfl s1.next s4 s1.next l 0 hc4).mono ?_
  rintro _ s5 ⟨rfl, hs5⟩
  rw [hs5]; clear hs5 s5
  refine wcall_reframe (fun f => f.n = 49 ∧ f.get 0 = x ∧ f.get 2 = .pointer (some ⟨s.next, 0, some 8⟩) ∧ f.get 3 = .int .i64 0 ∧ f.get 4 = .pointer (some ⟨s2.next, 0, some 2⟩)) ⟨by simp only [get_put, n_put, ↓reduceIte, Nat.reduceEqDiff, hn], by first | simp only [get_put, n_put, ↓reduceIte, Nat.reduceEqDiff, h0] | simp only [get_put, n_put, ↓reduceIte, Nat.reduceEqDiff], by first | simp only [get_put, n_put, ↓reduceIte, Nat.reduceEqDiff, h2] | simp only [get_put, n_put, ↓reduceIte, Nat.reduceEqDiff], by first | simp only [get_put, n_put, ↓reduceIte, Nat.reduceEqDiff, h3] | simp only [get_put, n_put, ↓reduceIte, Nat.reduceEqDiff], by first | simp only [get_put, n_put, ↓reduceIte, Nat.reduceEqDiff, h4] | simp only [get_put, n_put, ↓reduceIte, Nat.reduceEqDiff]⟩ ?_
  rintro f ⟨hn, h0, h2, h3, h4⟩
  by_cases c1 : (l.length : Int) < 132
  · simp (config := { maxSteps := 1000000, implicitDefEqProofs := false }) (disch := omega) only [allW, cond_true, cond_false, oneOf, evalAll, partsA, optA, List.drop_zero, List.drop_succ_cons, List.cons_append, List.nil_append, Nat.reduceLT, Nat.reduceLeDiff, Nat.reduceEqDiff, Nat.reduceAdd, List.getD_cons_zero, List.getD_cons_succ, List.set_cons_zero, List.set_cons_succ, ↓reduceIte, if_true, if_false, beq_self_eq_true, ne_eq, eq_self, not_true_eq_false, not_false_eq_true, hn, h2, eq_true c1, bProf0]
    refine wstep_storeAll szProf (by decide) htp rfl rfl rfl rfl ?_
    intro s9 ht9 hnx9 hot9
    have l9 := Thing.loadAll (P := Try.prog) (cs := zeroP) agProf szProf ht9 (c := 8) rfl
    simp (config := { maxSteps := 1000000, implicitDefEqProofs := false }) (disch := omega) only [allW, wfn_ret, wfn_normal, cond_true, cond_false, oneOf, evalAll, partsA, optA, List.drop_zero, List.drop_succ_cons, List.cons_append, List.nil_append, Nat.reduceLT, Nat.reduceLeDiff, Nat.reduceEqDiff, Nat.reduceAdd, List.getD_cons_zero, List.getD_cons_succ, List.set_cons_zero, List.set_cons_succ, ↓reduceIte, if_true, if_false, beq_self_eq_true, ne_eq, eq_self, not_true_eq_false, not_false_eq_true, hn, h2, l9, resultsA_cell, Try.results8]
    have hr : readP l = (2, []) := by unfold readP; rw [if_pos (by omega)]
    refine ⟨zeroP, by rw [hr], ⟨fun _ => rfl, fun h => by rw [hr] at h; exact absurd h (by decide)⟩, hstp.trans ⟨by omega, fun j hj => hot9 j (by omega)⟩⟩
  have hr1 : readP l = (if okHead l ∧ okMany l then (match tagsTo l (num l 128) (num l 128) with
    | some T => if has T DESC && has T WTPT then (0, T) else (8, [])
    | none => (4, [])) else (4, []) : Int × List (List UInt8 × Int × Int)) := by unfold readP; rw [if_neg (by omega)]
  have lb := Thing.loadAll (P := Try.prog) (cs := [cptr s1.next]) agRd szRd ht4 (c := 2) rfl
  have hself : valEq (.agg #[cptr s1.next]) (.agg #[cptr s1.next]) = true := by simp [valEq, valEqL, valEq1, cptr]
  simp (config := { maxSteps := 1000000, implicitDefEqProofs := false }) (disch := omega) only [allW, cond_true, cond_false, oneOf, evalAll, partsA, optA, List.drop_zero, List.drop_succ_cons, List.cons_append, List.nil_append, Nat.reduceLT, Nat.reduceLeDiff, Nat.reduceEqDiff, Nat.reduceAdd, List.getD_cons_zero, List.getD_cons_succ, List.set_cons_zero, List.set_cons_succ, ↓reduceIte, if_true, if_false, beq_self_eq_true, ne_eq, eq_self, not_true_eq_false, not_false_eq_true, hn, h0, h2, h4, eq_false c1, lb, hself]
  refine (head_any s1.next s4 s1.next l 0 hc4 (by omega) (by omega) hlen).mono ?_
  rintro _ s5 ⟨rfl, ⟨p5, hc5⟩, hu5⟩
  have hst5 : Stay s1.next s4 s5 := hu5.keeps (fresh_cptr (Nat.le_refl _)) (by omega)
  have htp5 := htp.turns hu5 (cptr_ne (by omega))
  have hn5 := hu5.next
  have htb5 := ht4.turns hu5 (cptr_ne (by omega))
  have hd7 : (headC 0 0 0 [] [] []).length + 1 = 7 := rfl
  have x0 : ∀ a b c, extractA (.tuple #[a, b, c]) 0 = some a := fun _ _ _ => rfl
  have x1 : ∀ a b c, extractA (.tuple #[a, b, c]) 1 = some b := fun _ _ _ => rfl
  have x2 : ∀ a b c, extractA (.tuple #[a, b, c]) 2 = some c := fun _ _ _ => rfl
  simp (config := { maxSteps := 1000000, implicitDefEqProofs := false }) (disch := omega) only [allW, cond_true, cond_false, oneOf, evalAll, partsA, optA, List.drop_zero, List.drop_succ_cons, List.cons_append, List.nil_append, Nat.reduceLT, Nat.reduceLeDiff, Nat.reduceEqDiff, Nat.reduceAdd, List.getD_cons_zero, List.getD_cons_succ, List.set_cons_zero, List.set_cons_succ, ↓reduceIte, if_true, if_false, beq_self_eq_true, ne_eq, eq_self, not_true_eq_false, not_false_eq_true, hn, h0, h2, h4, x0, x1, x2, zHead, plHead]
  refine wstep_newPtr ?_
  intro s6 ht6 hst6 hnx6
  simp (config := { maxSteps := 1000000, implicitDefEqProofs := false }) (disch := omega) only [allW, cond_true, cond_false, oneOf, evalAll, partsA, optA, List.drop_zero, List.drop_succ_cons, List.cons_append, List.nil_append, Nat.reduceLT, Nat.reduceLeDiff, Nat.reduceEqDiff, Nat.reduceAdd, List.getD_cons_zero, List.getD_cons_succ, List.set_cons_zero, List.set_cons_succ, ↓reduceIte, if_true, if_false, beq_self_eq_true, ne_eq, eq_self, not_true_eq_false, not_false_eq_true, hn, h0, h2, h4, hd7]
  refine wstep_storeAll szHead (by decide) ht6 rfl rfl rfl rfl ?_
  intro s7 ht7 hnx7 hot7
  have hc7 := (hc5.keeps (by omega) hst6).ofPut hnx7 hot7 (by omega) (by omega)
  have htp7 := (htp5.keeps hst6).ofPut hnx7 hot7 (by omega)
  have htb7 := (htb5.keeps hst6).ofPut hnx7 hot7 (by omega)
  have hst7 : Stay s5.next s5 s7 := ⟨by omega, fun j hj => (hot7 j (by omega)).trans (hst6.get j hj)⟩
  have hstp7 : Stay s.next s s7 := (hstp.trans (hst5.weaken (by omega))).trans (hst7.weaken (by omega))
  have ht7 : Thing s7 s5.next (headIs l) := ht7
  clear htp hstp ht6 hot7 hc5 htb5 htp5 ht4 hc4
  have hn7 : s5.next + 1 = s7.next := by omega
  by_cases c2 : okHead l ∧ okMany l
  rotate_left
  · have hb : (decide (okHead l) && decide (okMany l)) = false := by rw [← Bool.not_eq_true]; simpa using c2
    have htp := htp7
    have hstp := hstp7
    simp (config := { maxSteps := 1000000, implicitDefEqProofs := false }) (disch := omega) only [allW, cond_true, cond_false, oneOf, evalAll, partsA, optA, List.drop_zero, List.drop_succ_cons, List.cons_append, List.nil_append, Nat.reduceLT, Nat.reduceLeDiff, Nat.reduceEqDiff, Nat.reduceAdd, List.getD_cons_zero, List.getD_cons_succ, List.set_cons_zero, List.set_cons_succ, ↓reduceIte, if_true, if_false, beq_self_eq_true, ne_eq, eq_self, not_true_eq_false, not_false_eq_true, hn, h2, hb, bProf0]
    refine wstep_storeAll szProf (by decide) htp rfl rfl rfl rfl ?_
    intro s9 ht9 hnx9 hot9
    have l9 := Thing.loadAll (P := Try.prog) (cs := zeroP) agProf szProf ht9 (c := 8) rfl
    simp (config := { maxSteps := 1000000, implicitDefEqProofs := false }) (disch := omega) only [allW, wfn_ret, wfn_normal, cond_true, cond_false, oneOf, evalAll, partsA, optA, List.drop_zero, List.drop_succ_cons, List.cons_append, List.nil_append, Nat.reduceLT, Nat.reduceLeDiff, Nat.reduceEqDiff, Nat.reduceAdd, List.getD_cons_zero, List.getD_cons_succ, List.set_cons_zero, List.set_cons_succ, ↓reduceIte, if_true, if_false, beq_self_eq_true, ne_eq, eq_self, not_true_eq_false, not_false_eq_true, hn, h2, l9, resultsA_cell, Try.results8]
    have hr : readP l = (4, []) := by rw [hr1, if_neg c2]
    refine ⟨zeroP, by rw [hr], ⟨fun _ => rfl, fun h => by rw [hr] at h; exact absurd h (by decide)⟩, hstp.trans ⟨by omega, fun j hj => hot9 j (by omega)⟩⟩
  have hb : (decide (okHead l) && decide (okMany l)) = true := by simpa using c2
  rw [if_pos c2] at hr1
  have lb7 := Thing.loadAll (P := Try.prog) (cs := [cptr s1.next]) agRd szRd htb7 (c := 2) rfl
  simp (config := { maxSteps := 1000000, implicitDefEqProofs := false }) (disch := omega) only [allW, cond_true, cond_false, oneOf, evalAll, partsA, optA, List.drop_zero, List.drop_succ_cons, List.cons_append, List.nil_append, Nat.reduceLT, Nat.reduceLeDiff, Nat.reduceEqDiff, Nat.reduceAdd, List.getD_cons_zero, List.getD_cons_succ, List.set_cons_zero, List.set_cons_succ, ↓reduceIte, if_true, if_false, beq_self_eq_true, ne_eq, eq_self, not_true_eq_false, not_false_eq_true, hn, h0, h2, h4, hb, lb7, hself]
  refine (tags_any s1.next s7 s1.next l p5 (num l 128) hc7 (by omega) c2.2.2 hlen).mono ?_
  rintro _ s8 ⟨⟨y, b, rfl, hm⟩, ⟨p8, hc8⟩, hu8⟩
  have hn8 := hu8.next
  have y0 : ∀ a b, extractA (.tuple #[a, b]) 0 = some a := fun _ _ => rfl
  have y1 : ∀ a b, extractA (.tuple #[a, b]) 1 = some b := fun _ _ => rfl
  have htp := htp7.turns hu8 (cptr_ne (by omega))
  have ht8 := ht7.turns hu8 (cptr_ne (by omega))
  have hstp : Stay s.next s s8 := hstp7.trans ((hu8.keeps (fresh_cptr (Nat.le_refl _)) (by omega)).weaken (by omega))
  have hid5 : ∃ k, k = s5.next := ⟨_, rfl⟩
  refine wcall_reframe (fun f => f.n = 49 ∧ f.get 2 = .pointer (some ⟨s.next, 0, some 8⟩) ∧ f.get 5 = .pointer (some ⟨s5.next, 0, some 7⟩)) ⟨by simp only [get_put, n_put, ↓reduceIte, Nat.reduceEqDiff, hn], by first | simp only [get_put, n_put, ↓reduceIte, Nat.reduceEqDiff, h2] | simp only [get_put, n_put, ↓reduceIte, Nat.reduceEqDiff], by first | simp only [get_put, n_put, ↓reduceIte, Nat.reduceEqDiff, h5] | simp only [get_put, n_put, ↓reduceIte, Nat.reduceEqDiff]⟩ ?_
  rintro f ⟨hn, h2, h5⟩
  cases hT : tagsTo l (num l 128) (num l 128) with
  | none =>
    rw [hT] at hm hr1
    obtain ⟨rfl, rfl⟩ := hm
    simp (config := { maxSteps := 1000000, implicitDefEqProofs := false }) (disch := omega) only [allW, cond_true, cond_false, oneOf, evalAll, partsA, optA, List.drop_zero, List.drop_succ_cons, List.cons_append, List.nil_append, Nat.reduceLT, Nat.reduceLeDiff, Nat.reduceEqDiff, Nat.reduceAdd, List.getD_cons_zero, List.getD_cons_succ, List.set_cons_zero, List.set_cons_succ, ↓reduceIte, if_true, if_false, beq_self_eq_true, ne_eq, eq_self, not_true_eq_false, not_false_eq_true, hn, h2, y0, y1, bProf0]
    refine wstep_storeAll szProf (by decide) htp rfl rfl rfl rfl ?_
    intro s9 ht9 hnx9 hot9
    have l9 := Thing.loadAll (P := Try.prog) (cs := zeroP) agProf szProf ht9 (c := 8) rfl
    simp (config := { maxSteps := 1000000, implicitDefEqProofs := false }) (disch := omega) only [allW, wfn_ret, wfn_normal, cond_true, cond_false, oneOf, evalAll, partsA, optA, List.drop_zero, List.drop_succ_cons, List.cons_append, List.nil_append, Nat.reduceLT, Nat.reduceLeDiff, Nat.reduceEqDiff, Nat.reduceAdd, List.getD_cons_zero, List.getD_cons_succ, List.set_cons_zero, List.set_cons_succ, ↓reduceIte, if_true, if_false, beq_self_eq_true, ne_eq, eq_self, not_true_eq_false, not_false_eq_true, hn, h2, l9, resultsA_cell, Try.results8]
    have hr : readP l = (4, []) := by exact hr1
    refine ⟨zeroP, by rw [hr], ⟨fun _ => rfl, fun h => by rw [hr] at h; exact absurd h (by decide)⟩, hstp.trans ⟨by omega, fun j hj => hot9 j (by omega)⟩⟩
  | some T =>
    rw [hT] at hm hr1
    obtain ⟨rfl, hy, hyF⟩ := hm
    have hTl : T.length ≤ 100000000 := by rw [tagsTo_length hT]; have := c2.2.1; omega
    simp (config := { maxSteps := 1000000, implicitDefEqProofs := false }) (disch := omega) only [allW, cond_true, cond_false, oneOf, evalAll, partsA, optA, List.drop_zero, List.drop_succ_cons, List.cons_append, List.nil_append, Nat.reduceLT, Nat.reduceLeDiff, Nat.reduceEqDiff, Nat.reduceAdd, List.getD_cons_zero, List.getD_cons_succ, List.set_cons_zero, List.set_cons_succ, ↓reduceIte, if_true, if_false, beq_self_eq_true, ne_eq, eq_self, not_true_eq_false, not_false_eq_true, hn, h2, h5, y0, y1, hy.self]
    refine (named_any rfl rfl rfl rfl s8 y DESC T hy.sees hTl).mono ?_
    rintro _ s9 ⟨rfl, hst9⟩
    have e1 : (T.any fun t => decide (t.1 = DESC)) = has T DESC := rfl
    rw [e1]
    have hn9 := hst9.next
    cases hd : has T DESC with
    | false =>
      have htp := htp.keeps hst9
      have hstp := hstp.trans (hst9.weaken (by omega))
      simp (config := { maxSteps := 1000000, implicitDefEqProofs := false }) (disch := omega) only [allW, cond_true, cond_false, oneOf, evalAll, partsA, optA, List.drop_zero, List.drop_succ_cons, List.cons_append, List.nil_append, Nat.reduceLT, Nat.reduceLeDiff, Nat.reduceEqDiff, Nat.reduceAdd, List.getD_cons_zero, List.getD_cons_succ, List.set_cons_zero, List.set_cons_succ, ↓reduceIte, if_true, if_false, beq_self_eq_true, ne_eq, eq_self, not_true_eq_false, not_false_eq_true, hn, h2, hd, bProf0]
      refine wstep_storeAll szProf (by decide) htp rfl rfl rfl rfl ?_
      intro s9 ht9 hnx9 hot9
      have l9 := Thing.loadAll (P := Try.prog) (cs := zeroP) agProf szProf ht9 (c := 8) rfl
      simp (config := { maxSteps := 1000000, implicitDefEqProofs := false }) (disch := omega) only [allW, wfn_ret, wfn_normal, cond_true, cond_false, oneOf, evalAll, partsA, optA, List.drop_zero, List.drop_succ_cons, List.cons_append, List.nil_append, Nat.reduceLT, Nat.reduceLeDiff, Nat.reduceEqDiff, Nat.reduceAdd, List.getD_cons_zero, List.getD_cons_succ, List.set_cons_zero, List.set_cons_succ, ↓reduceIte, if_true, if_false, beq_self_eq_true, ne_eq, eq_self, not_true_eq_false, not_false_eq_true, hn, h2, l9, resultsA_cell, Try.results8]
      have hr : readP l = (8, []) := by rw [hr1]; simp [hd]
      refine ⟨zeroP, by rw [hr], ⟨fun _ => rfl, fun h => by rw [hr] at h; exact absurd h (by decide)⟩, hstp.trans ⟨by omega, fun j hj => hot9 j (by omega)⟩⟩
    | true =>
      simp (config := { maxSteps := 1000000, implicitDefEqProofs := false }) (disch := omega) only [allW, cond_true, cond_false, oneOf, evalAll, partsA, optA, List.drop_zero, List.drop_succ_cons, List.cons_append, List.nil_append, Nat.reduceLT, Nat.reduceLeDiff, Nat.reduceEqDiff, Nat.reduceAdd, List.getD_cons_zero, List.getD_cons_succ, List.set_cons_zero, List.set_cons_succ, ↓reduceIte, if_true, if_false, beq_self_eq_true, ne_eq, eq_self, not_true_eq_false, not_false_eq_true, hn, h2, h5, y0, y1, hy.self]
      refine (named_any rfl rfl rfl rfl s9 y WTPT T (hy.keeps hst9).sees hTl).mono ?_
      rintro _ s10 ⟨rfl, hst10⟩
      have e2 : (T.any fun t => decide (t.1 = WTPT)) = has T WTPT := rfl
      rw [e2]
      have hn10 := hst10.next
      have htp := (htp.keeps hst9).keeps hst10
      have hstp := (hstp.trans (hst9.weaken (by omega))).trans (hst10.weaken (by omega))
      cases hw : has T WTPT with
      | false =>
        simp (config := { maxSteps := 1000000, implicitDefEqProofs := false }) (disch := omega) only [allW, cond_true, cond_false, oneOf, evalAll, partsA, optA, List.drop_zero, List.drop_succ_cons, List.cons_append, List.nil_append, Nat.reduceLT, Nat.reduceLeDiff, Nat.reduceEqDiff, Nat.reduceAdd, List.getD_cons_zero, List.getD_cons_succ, List.set_cons_zero, List.set_cons_succ, ↓reduceIte, if_true, if_false, beq_self_eq_true, ne_eq, eq_self, not_true_eq_false, not_false_eq_true, hn, h2, hw, bProf0]
        refine wstep_storeAll szProf (by decide) htp rfl rfl rfl rfl ?_
        intro s9 ht9 hnx9 hot9
        have l9 := Thing.loadAll (P := Try.prog) (cs := zeroP) agProf szProf ht9 (c := 8) rfl
        simp (config := { maxSteps := 1000000, implicitDefEqProofs := false }) (disch := omega) only [allW, wfn_ret, wfn_normal, cond_true, cond_false, oneOf, evalAll, partsA, optA, List.drop_zero, List.drop_succ_cons, List.cons_append, List.nil_append, Nat.reduceLT, Nat.reduceLeDiff, Nat.reduceEqDiff, Nat.reduceAdd, List.getD_cons_zero, List.getD_cons_succ, List.set_cons_zero, List.set_cons_succ, ↓reduceIte, if_true, if_false, beq_self_eq_true, ne_eq, eq_self, not_true_eq_false, not_false_eq_true, hn, h2, l9, resultsA_cell, Try.results8]
        have hr : readP l = (8, []) := by rw [hr1]; simp [hd, hw]
        refine ⟨zeroP, by rw [hr], ⟨fun _ => rfl, fun h => by rw [hr] at h; exact absurd h (by decide)⟩, hstp.trans ⟨by omega, fun j hj => hot9 j (by omega)⟩⟩
      | true =>
        have hr : readP l = (0, T) := by rw [hr1]; simp [hd, hw]
        have l8 := Thing.loadAll (P := Try.prog) (cs := headIs l) agHead szHead ((ht8.keeps hst9).keeps hst10) (c := 7) rfl
        have bp : buildA Try.prog 27 [(0, .agg (headIs l).toArray), (1, y)] = some (.agg (headIs l ++ [y]).toArray) := bProf _ _ _ _ _ _ hy.sees.cell1
        simp (config := { maxSteps := 1000000, implicitDefEqProofs := false }) (disch := omega) only [allW, cond_true, cond_false, oneOf, evalAll, partsA, optA, List.drop_zero, List.drop_succ_cons, List.cons_append, List.nil_append, Nat.reduceLT, Nat.reduceLeDiff, Nat.reduceEqDiff, Nat.reduceAdd, List.getD_cons_zero, List.getD_cons_succ, List.set_cons_zero, List.set_cons_succ, ↓reduceIte, if_true, if_false, beq_self_eq_true, ne_eq, eq_self, not_true_eq_false, not_false_eq_true, hn, h2, h5, y0, y1, hy.self, l8, bp]
        have hok : ((headIs l ++ [y]).toArray.toList.all okCell) = true := by
          show ((headIs l ++ [y]).all okCell) = true
          rw [List.all_append, List.all_cons, hy.sees.okCell]; rfl
        refine wstep_storeAll szProf (by decide) htp rfl rfl rfl hok ?_
        intro s11 ht11 hnx11 hot11
        have l11 := Thing.loadAll (P := Try.prog) (cs := headIs l ++ [y]) agProf szProf ht11 (c := 8) rfl
        simp (config := { maxSteps := 1000000, implicitDefEqProofs := false }) (disch := omega) only [allW, wfn_ret, wfn_normal, cond_true, cond_false, oneOf, evalAll, partsA, optA, List.drop_zero, List.drop_succ_cons, List.cons_append, List.nil_append, Nat.reduceLT, Nat.reduceLeDiff, Nat.reduceEqDiff, Nat.reduceAdd, List.getD_cons_zero, List.getD_cons_succ, List.set_cons_zero, List.set_cons_succ, ↓reduceIte, if_true, if_false, beq_self_eq_true, ne_eq, eq_self, not_true_eq_false, not_false_eq_true, hn, h2, l11, resultsA_cell, Try.results8]
        have hu11 : Turns (cptr s.next) s10 s11 := ⟨by omega, fun j hj hne => hot11 j (fun e => hne (by rw [e]; rfl))⟩
        have hy11 : Own s11 3 y T.length (tagsC T) := ((hy.keeps hst9).keeps hst10).turns hu11 (fun j hj => by have := hyF j hj; exact cptr_ne (by omega))
        exact ⟨_, by rw [hr], ⟨fun h => absurd (by rw [hr]) h, fun _ => ⟨y, rfl, by rw [hr]; exact hy11.sees⟩⟩, hstp.trans ⟨by omega, fun j hj => hot11 j (by omega)⟩⟩
end Go.Proofs.Ytbakljlaladpoaa
