/-
  Profiles: the law's copy of a profile, and whether two are the same.
-/
import Derived.Test.YtbakljlaladpoaaIccK
set_option linter.unusedSimpArgs false
set_option linter.unusedVariables false
namespace Go.Cl
theorem LA.lowV_plus {A : Nat → Bool} {s : ASt} {z : Nat} {v : Value} {n : Nat} {l : List Value} (h : Sees s z v n l) (hA : ∀ i, i < s.next → A i = true) {k : Nat} (hk : k < n) (j : Nat) : LA.lowV A (some (plusPtr (elemPtr z v k) j)) = true := by
  cases h with
  | nil => omega
  | bare => omega
  | of i off n c bl l hi hbb hz hl hc hlen hoff ht => simp only [elemPtr, plusPtr, LA.lowV]; exact hA i hi
end Go.Cl
namespace Go.Proofs.Ytbakljlaladpoaa
open Go.Cl Go.Cl.Icc
theorem pf0 (i o c : Nat) : fieldAddrA Try.prog 27 (.pointer (some ⟨i, o, some c⟩)) 0 = some (.pointer (some ⟨i, o + 0, some c⟩)) := by
  unfold fieldAddrA; rw [Try.underlying27]; simp [szHead]
theorem pf1 (i o c : Nat) : fieldAddrA Try.prog 27 (.pointer (some ⟨i, o, some c⟩)) 1 = some (.pointer (some ⟨i, o + 6, some c⟩)) := by
  unfold fieldAddrA; rw [Try.underlying27]; simp [szHead, szTagS]
theorem agTagS : isAggB Try.prog 25 = some false := by kernel_rfl
theorem tfldE {s : ASt} {v : Value} {n : Nat} {l : List Value} (h : Sees s 3 v n l) {k : Nat} (hk : k < n) : fieldAddrA Try.prog 35 (elemPtr 3 v k) 0 = some (plusPtr (elemPtr 3 v k) 0) ∧ fieldAddrA Try.prog 35 (elemPtr 3 v k) 1 = some (plusPtr (elemPtr 3 v k) 1) ∧ fieldAddrA Try.prog 35 (elemPtr 3 v k) 2 = some (plusPtr (elemPtr 3 v k) 2) := by
  obtain ⟨i, off, c, e, _⟩ := h.cells hk
  rw [e]
  refine ⟨?_, ?_, ?_⟩ <;> · unfold fieldAddrA; rw [Try.underlying35]; simp [szInt, qszStr, plusPtr]
theorem tagsC_getJ (T : List (List UInt8 × Int × Int)) (i : Nat) (h : i < T.length) (j : Nat) (hj : j < 3) : (tagsC T).getD (i * 3 + j) undef = (tagC T[i]).getD j undef := by
  rw [← tagsC_at T i h]
  have hl : (tagsC T).length = T.length * 3 := by
    clear h
    induction T with
    | nil => rfl
    | cons t r ih => simp only [tagsC, List.flatMap_cons, List.length_append] at ih ⊢; rw [ih]; simp [tagC]; omega
  simp only [List.getD_eq_getElem?_getD]
  rw [List.getElem?_take_of_lt hj, List.getElem?_drop]
theorem tagsC_take (T : List (List UInt8 × Int × Int)) (i : Nat) (h : i < T.length) : tagsC (T.take (i + 1)) = tagsC (T.take i) ++ tagC T[i] := by
  rw [List.take_add_one, List.getElem?_eq_getElem h]
  simp only [Option.toList_some, tagsC, List.flatMap_append, List.flatMap_cons, List.flatMap_nil, List.append_nil]
theorem rbHead6 (a b c : Int) (x y z : List UInt8) : buildA Try.prog 37 [(0, .int .i64 a), (1, .int .i64 b), (2, .int .i64 c), (3, .string ⟨x.toArray⟩), (4, .string ⟨y.toArray⟩), (5, .string ⟨z.toArray⟩)] = some (.agg (headC a b c x y z).toArray) := by
  unfold buildA; rw [Try.underlying37]
  have hz : zeroB Try.prog 37 = some (.agg #[.int .i64 0, .int .i64 0, .int .i64 0, .string ⟨#[]⟩, .string ⟨#[]⟩, .string ⟨#[]⟩]) := by kernel_rfl
  rw [hz]
  have ci : ∀ k n, (Value.int k n).cells = #[.int k n] := fun _ _ => rfl
  have cs : ∀ b, (Value.string b).cells = #[.string b] := fun _ => rfl
  simp [szInt, qszStr, plainV, plain1, fillA, placeOf, cells_agg, setAt, ci, cs, headC]
/-- The law's copy. -/
def Copied (s : ASt) (H : List Value) (T : List (List UInt8 × Int × Int)) (v : Value) (s' : ASt) : Prop := ∃ y, v = .agg (H ++ [y]).toArray ∧ Own s' 3 y T.length (tagsC T) ∧ Fresh s.next y ∧ Stay s.next s s'
set_option maxHeartbeats 4000000 in
theorem profile_any (s : ASt) (a b c : Int) (d e g : List UInt8) (v : Value) (T : List (List UInt8 × Int × Int)) (hv : Sees s 3 v T.length (tagsC T)) (hT : T.length ≤ 1000) :
    Runs Try.prog libN 13 [.agg (headC a b c d e g ++ [v]).toArray] s (Copied s (headC a b c d e g) T) := by
  refine Runs.enter 57 Try.func13 rfl rfl rfl rfl ?_
  intro f hn hf
  have h0 : f.get 0 = .agg (headC a b c d e g ++ [v]).toArray := hf 0
  clear hf
  simp (config := { maxSteps := 1000000, implicitDefEqProofs := false }) (disch := omega) only [allW, cond_true, cond_false, oneOf, evalAll, partsA, optA, List.drop_zero, List.drop_succ_cons, List.cons_append, List.nil_append, Nat.reduceLT, Nat.reduceLeDiff, Nat.reduceEqDiff, Nat.reduceAdd, List.getD_cons_zero, List.getD_cons_succ, List.set_cons_zero, List.set_cons_succ, ↓reduceIte, if_true, if_false, beq_self_eq_true, ne_eq, eq_self, not_true_eq_false, not_false_eq_true, hn, h0]
  refine wstep_newPtr ?_
  intro s1 ht1 hst1 hnx1
  have hd8 : (headC a b c d e g ++ [v]).length + 1 = 8 := rfl
  simp (config := { maxSteps := 1000000, implicitDefEqProofs := false }) (disch := omega) only [allW, cond_true, cond_false, oneOf, evalAll, partsA, optA, List.drop_zero, List.drop_succ_cons, List.cons_append, List.nil_append, Nat.reduceLT, Nat.reduceLeDiff, Nat.reduceEqDiff, Nat.reduceAdd, List.getD_cons_zero, List.getD_cons_succ, List.set_cons_zero, List.set_cons_succ, ↓reduceIte, if_true, if_false, beq_self_eq_true, ne_eq, eq_self, not_true_eq_false, not_false_eq_true, hn, h0, hd8, rzProf, plProf]
  refine wstep_newPtr ?_
  intro s2 ht2 hst2 hnx2
  have hdz : zeroP.length + 1 = 8 := rfl
  have ht1' := ht1.keeps hst2
  have lq0 : loadA Try.prog s2 3 (.pointer (some ⟨s.next, 0, some 8⟩)) = some (.int .i64 a) := ht1'.load agInt (off := 0) (c := 8) rfl (by simp [headC])
  have lq1 : loadA Try.prog s2 3 (.pointer (some ⟨s.next, 1, some 8⟩)) = some (.int .i64 b) := ht1'.load agInt (off := 1) (c := 8) rfl (by simp [headC])
  have lq2 : loadA Try.prog s2 3 (.pointer (some ⟨s.next, 2, some 8⟩)) = some (.int .i64 c) := ht1'.load agInt (off := 2) (c := 8) rfl (by simp [headC])
  have lq3 : loadA Try.prog s2 9 (.pointer (some ⟨s.next, 3, some 8⟩)) = some (.string ⟨d.toArray⟩) := ht1'.load qagStr (off := 3) (c := 8) rfl (by simp [headC])
  have lq4 : loadA Try.prog s2 9 (.pointer (some ⟨s.next, 4, some 8⟩)) = some (.string ⟨e.toArray⟩) := ht1'.load qagStr (off := 4) (c := 8) rfl (by simp [headC])
  have lq5 : loadA Try.prog s2 9 (.pointer (some ⟨s.next, 5, some 8⟩)) = some (.string ⟨g.toArray⟩) := ht1'.load qagStr (off := 5) (c := 8) rfl (by simp [headC])
  simp (config := { maxSteps := 1000000, implicitDefEqProofs := false }) (disch := omega) only [allW, cond_true, cond_false, oneOf, evalAll, partsA, optA, List.drop_zero, List.drop_succ_cons, List.cons_append, List.nil_append, Nat.reduceLT, Nat.reduceLeDiff, Nat.reduceEqDiff, Nat.reduceAdd, List.getD_cons_zero, List.getD_cons_succ, List.set_cons_zero, List.set_cons_succ, ↓reduceIte, if_true, if_false, beq_self_eq_true, ne_eq, eq_self, not_true_eq_false, not_false_eq_true, hn, h0, hdz, pf0, hf0, hf1, hf2, hf3, hf4, hf5, lq0, lq1, lq2, lq3, lq4, lq5, rbHead6, rbProf1, rzProf, plProf]
  refine wstep_newPtr ?_
  intro s3 ht3 hst3 hnx3
  simp (config := { maxSteps := 1000000, implicitDefEqProofs := false }) (disch := omega) only [allW, cond_true, cond_false, oneOf, evalAll, partsA, optA, List.drop_zero, List.drop_succ_cons, List.cons_append, List.nil_append, Nat.reduceLT, Nat.reduceLeDiff, Nat.reduceEqDiff, Nat.reduceAdd, List.getD_cons_zero, List.getD_cons_succ, List.set_cons_zero, List.set_cons_succ, ↓reduceIte, if_true, if_false, beq_self_eq_true, ne_eq, eq_self, not_true_eq_false, not_false_eq_true, hn, h0, hdz]
  refine wstep_storeAll rszProf (by decide) ht3 rfl rfl rfl rfl ?_
  intro s4 ht4 hnx4 hot4
  have hst4 : Stay s.next s s4 := (hst1.trans (hst2.weaken (by omega))).trans ((hst3.weaken (by omega)).trans ⟨by omega, fun j hj => hot4 j (by omega)⟩)
  have ht14 := (ht1'.keeps hst3).ofPut hnx4 hot4 (by omega)
  have ht24 := (ht2.keeps hst3).ofPut hnx4 hot4 (by omega)
  have ht4 : Thing s4 s2.next (headC a b c d e g ++ [.slice none 0 0]) := ht4
  clear ht1 ht1' ht2 ht3 lq0 lq1 lq2 lq3 lq4 lq5 hot4
  simp (config := { maxSteps := 1000000, implicitDefEqProofs := false }) (disch := omega) only [allW, cond_true, cond_false, oneOf, evalAll, partsA, optA, List.drop_zero, List.drop_succ_cons, List.cons_append, List.nil_append, Nat.reduceLT, Nat.reduceLeDiff, Nat.reduceEqDiff, Nat.reduceAdd, List.getD_cons_zero, List.getD_cons_succ, List.set_cons_zero, List.set_cons_succ, ↓reduceIte, if_true, if_false, beq_self_eq_true, ne_eq, eq_self, not_true_eq_false, not_false_eq_true, hn, h0]
  refine Comes.loopAt (fun z f s6 => ∃ (i : Nat) (y : Value), z = T.length - i ∧ i ≤ T.length ∧ Own s6 3 y i (tagsC (T.take i)) ∧ Fresh s4.next y ∧ Thing s6 s2.next (headC a b c d e g ++ [y]) ∧ Thing s6 s.next (headC a b c d e g ++ [v]) ∧ Thing s6 s1.next zeroP ∧ Stay s.next s s6 ∧ s4.next ≤ s6.next ∧ f.n = 57 ∧ f.get 1 = .pointer (some ⟨s.next, 0, some 8⟩) ∧ f.get 2 = .pointer (some ⟨s1.next, 0, some 8⟩) ∧ f.get 3 = .pointer (some ⟨s2.next, 0, some 8⟩) ∧ f.get 4 = .int .i64 (i : Nat))
    ⟨0, .slice none 0 0, rfl, by omega, by rw [List.take_zero]; exact .nil, Fresh.nil _, ht4, ht14, ht24, hst4, Nat.le_refl _, by simp only [get_put, n_put, ↓reduceIte, Nat.reduceEqDiff, hn], by simp only [get_put, n_put, ↓reduceIte, Nat.reduceEqDiff], by simp only [get_put, n_put, ↓reduceIte, Nat.reduceEqDiff], by simp only [get_put, n_put, ↓reduceIte, Nat.reduceEqDiff], by simp only [get_put, n_put, ↓reduceIte, Nat.reduceEqDiff]; rfl⟩ ?_
  clear hn h0 f ht4 ht14 ht24 hst4
  rintro z f s6 ⟨i, y, rfl, hi, hy, hyF, hto, htb, htz, hst6, hn6, hn, h1, h2, h3, h4⟩
  have hv6 := hv.keeps hst6
  have lv : loadA Try.prog s6 25 (.pointer (some ⟨s.next, 6, some 8⟩)) = some v := htb.load agTagS (off := 6) (c := 8) rfl (by simp [headC])
  by_cases hlt : i < T.length
  · have d1 : (i : Int) < (T.length : Int) := by omega
    have ly : loadA Try.prog s6 38 (.pointer (some ⟨s2.next, 6, some 8⟩)) = some y := hto.load ragTagS (off := 6) (c := 8) rfl (by simp [headC])
    simp (config := { maxSteps := 1000000, implicitDefEqProofs := false }) (disch := omega) only [allW, allL, allB, Nat.sub_self, Nat.add_one_sub_one, Nat.reduceSub, cond_true, cond_false, oneOf, evalAll, partsA, optA, List.drop_zero, List.drop_succ_cons, List.cons_append, List.nil_append, Nat.reduceLT, Nat.reduceLeDiff, Nat.reduceEqDiff, Nat.reduceAdd, List.getD_cons_zero, List.getD_cons_succ, List.set_cons_zero, List.set_cons_succ, ↓reduceIte, if_true, if_false, beq_self_eq_true, ne_eq, eq_self, not_true_eq_false, not_false_eq_true, hn, h1, h2, h3, h4, pf1, lv, hv6.lenA Try.underlying25, eq_true d1]
    obtain ⟨A, hA⟩ : ∃ A : Nat → Bool, A = fun j => decide (j < s6.next) := ⟨_, rfl⟩
    have hAl : ∀ j, A j = true → j < s6.next := by
      intro j h
      rw [hA] at h
      exact of_decide_eq_true h
    have hAo : ∀ j, j < s6.next → A j = true := fun j h => by rw [hA]; exact decide_eq_true h
    have hlowb : ∀ k, LA.lowV A (some (.pointer (some ⟨s.next, k, some 8⟩))) = true := fun k => LA.lowV_ptr (A := A) (i := s.next) (hAo _ htb.lt)
    have hlowo : ∀ k, LA.lowV A (some (.pointer (some ⟨s2.next, k, some 8⟩))) = true := fun k => LA.lowV_ptr (A := A) (i := s2.next) (hAo _ hto.lt)
    refine LB.Drawn.looseK A hAl 0 1 (by kernel_rfl) (by kernel_rfl) ?_
    have hsp := Stay.spare s6 1
    have hnT : (spare s6 1).next = s6.next + 1 := spare_next _ _
    have lv7 : loadA Try.prog (spare s6 1) 25 (.pointer (some ⟨s.next, 6, some 8⟩)) = some v := (htb.keeps hsp).load agTagS (off := 6) (c := 8) rfl (by simp [headC])
    have ly7 : loadA Try.prog (spare s6 1) 38 (.pointer (some ⟨s2.next, 6, some 8⟩)) = some y := (hto.keeps hsp).load ragTagS (off := 6) (c := 8) rfl (by simp [headC])
    have hv7 := hv6.keeps hsp
    have hidx := hv7.indexAddr (P := Try.prog) (k := .i64) (x := (i : Int)) Try.underlying25 szTag (by omega) (by omega)
    rw [Int.toNat_natCast] at hidx
    obtain ⟨q0, q1, q2⟩ := tfldE hv7 hlt
    have hl0 := hv7.loadField (P := Try.prog) qagStr hlt (j := 0) (by omega)
    have hl1 := hv7.loadField (P := Try.prog) agInt hlt (j := 1) (by omega)
    have hl2 := hv7.loadField (P := Try.prog) agInt hlt (j := 2) (by omega)
    rw [tagsC_getJ T i hlt _ (by omega), show (tagC T[i]).getD 0 undef = .string ⟨(T[i].1).toArray⟩ from rfl] at hl0
    rw [tagsC_getJ T i hlt _ (by omega), show (tagC T[i]).getD 1 undef = .int .i64 T[i].2.1 from rfl] at hl1
    rw [tagsC_getJ T i hlt _ (by omega), show (tagC T[i]).getD 2 undef = .int .i64 T[i].2.2 from rfl] at hl2
    have hvT : ∀ t, valEq (.agg (tagC t).toArray) (.agg (tagC t).toArray) = true := fun t => by simp [valEq, valEqL, valEq1, tagC]
    have bt : buildA Try.prog 46 [(0, .string ⟨(T[i].1).toArray⟩), (1, .int .i64 T[i].2.1), (2, .int .i64 T[i].2.2)] = some (.agg (tagC T[i]).toArray) := rbTag _ _ _
    simp (config := { maxSteps := 1000000, implicitDefEqProofs := false }) (disch := omega) only [allW, allL, allB, Nat.sub_self, Nat.add_one_sub_one, Nat.reduceSub, cond_true, cond_false, oneOf, evalAll, partsA, optA, List.drop_zero, List.drop_succ_cons, List.cons_append, List.nil_append, Nat.reduceLT, Nat.reduceLeDiff, Nat.reduceEqDiff, Nat.reduceAdd, List.getD_cons_zero, List.getD_cons_succ, List.set_cons_zero, List.set_cons_succ, ↓reduceIte, if_true, if_false, beq_self_eq_true, ne_eq, eq_self, not_true_eq_false, not_false_eq_true, hn, h1, h2, h3, h4, pf1, rpf1, hlowb, hlowo, lv7, ly7, hv.self, hy.self, valEq_pointer, valEq_int, valEq_string, valEq_elemPtr, valEq_plus, hidx, q0, q1, q2, LA.lowV_plus hv6 hAo hlt, hl0, hl1, hl2, bt, hvT, buildAgg1 (cs := (tagC T[i]).toArray) Try.underlying38 rszTag rzTag plTag rfl rfl (by decide)]
    refine LB.smake_newSlice (base := s6.next) (by rfl) (by omega) (Nat.le_refl _) ?_
    intro bs s7 hbs hid hst7 hnx7 hot7
    have hst67 : Stay s6.next s6 s7 := hsp.trans ⟨hst7.next, fun j hj => hst7.get j (by omega)⟩
    have hn7' := hst67.next
    simp (config := { maxSteps := 1000000, implicitDefEqProofs := false }) (disch := omega) only [allW, allL, allB, Nat.sub_self, Nat.add_one_sub_one, Nat.reduceSub, cond_true, cond_false, oneOf, evalAll, partsA, optA, List.drop_zero, List.drop_succ_cons, List.cons_append, List.nil_append, Nat.reduceLT, Nat.reduceLeDiff, Nat.reduceEqDiff, Nat.reduceAdd, List.getD_cons_zero, List.getD_cons_succ, List.set_cons_zero, List.set_cons_succ, ↓reduceIte, if_true, if_false, beq_self_eq_true, ne_eq, eq_self, not_true_eq_false, not_false_eq_true, hn, h1, h2, h3, h4, rpf1, hy.self]
    refine LB.sstep_append Try.underlying38 Try.underlying38 (.inl ⟨_, rfl⟩) rszTag rbyTag rzTag rfl (hy.keeps hst67) hbs.sees.src rfl (by decide) rfl (by omega) (by omega) (base := s4.next) hyF (by omega) (fun h => absurd rfl h) (fun j hj => by have := hAl j hj; omega) ?_
    intro y' s8 hy8 hF8 hut8 hor
    have hn8 := hut8.next
    simp (config := { maxSteps := 1000000, implicitDefEqProofs := false }) (disch := omega) only [allW, allL, allB, Nat.sub_self, Nat.add_one_sub_one, Nat.reduceSub, cond_true, cond_false, oneOf, evalAll, partsA, optA, List.drop_zero, List.drop_succ_cons, List.cons_append, List.nil_append, Nat.reduceLT, Nat.reduceLeDiff, Nat.reduceEqDiff, Nat.reduceAdd, List.getD_cons_zero, List.getD_cons_succ, List.set_cons_zero, List.set_cons_succ, ↓reduceIte, if_true, if_false, beq_self_eq_true, ne_eq, eq_self, not_true_eq_false, not_false_eq_true, hn, h1, h2, h3, h4, rpf1, hlowo]
    refine LB.sstep_storeN rszTagS (by decide) ((hto.keeps hst67).turns hut8 (fun e => by have := hyF _ e; omega)) (off := 6) (c := 8) rfl (vs := [y']) hy8.sees.cell1 rfl (by simp [headC]) (by simp [hy8.sees.okCell]) (fun h => absurd rfl h) ?_
    intro s9 ht9 hnx9 hot9
    have ht9 : Thing s9 s2.next (headC a b c d e g ++ [y']) := ht9
    have hs69 : Stay s.next s6 s9 := ((hst67.weaken (by have := hst6.next; omega)).trans ⟨hut8.next, fun j hj => hut8.get j (by omega) (fun e => by have := hyF _ e; omega)⟩).trans ⟨by omega, fun j hj => hot9 j (by omega)⟩
    simp (config := { maxSteps := 1000000, implicitDefEqProofs := false }) (disch := omega) only [allW, allL, allB, Nat.sub_self, Nat.add_one_sub_one, Nat.reduceSub, cond_true, cond_false, oneOf, evalAll, partsA, optA, List.drop_zero, List.drop_succ_cons, List.cons_append, List.nil_append, Nat.reduceLT, Nat.reduceLeDiff, Nat.reduceEqDiff, Nat.reduceAdd, List.getD_cons_zero, List.getD_cons_succ, List.set_cons_zero, List.set_cons_succ, ↓reduceIte, if_true, if_false, beq_self_eq_true, ne_eq, eq_self, not_true_eq_false, not_false_eq_true, hn, h1, h2, h3, h4, wrapI]
    refine wround_next (T.length - (i + 1)) (by omega) ⟨i + 1, y', rfl, by omega, ?_, hF8, ht9, ((htb.keeps hst67).turns hut8 (fun e => by have := hyF _ e; omega)).ofPut hnx9 hot9 (by omega), ((htz.keeps hst67).turns hut8 (fun e => by have := hyF _ e; omega)).ofPut hnx9 hot9 (by omega), hst6.trans hs69, by omega, by simp only [get_put, n_put, ↓reduceIte, Nat.reduceEqDiff, hn], by simp only [get_put, n_put, ↓reduceIte, Nat.reduceEqDiff, h1], by simp only [get_put, n_put, ↓reduceIte, Nat.reduceEqDiff, h2], by simp only [get_put, n_put, ↓reduceIte, Nat.reduceEqDiff, h3], by simp only [get_put, n_put, ↓reduceIte, Nat.reduceEqDiff]; rfl⟩
    rw [tagsC_take T i hlt]
    exact hy8.ofPut hnx9 hot9 (fun e => by have := hF8 _ e; omega)
  · obtain rfl : i = T.length := by omega
    rw [List.take_length] at hy
    have d1 : ¬ ((T.length : Nat) : Int) < ((T.length : Nat) : Int) := by omega
    have la := Thing.loadAll (P := Try.prog) (cs := headC a b c d e g ++ [y]) ragProf rszProf hto (c := 8) rfl
    simp (config := { maxSteps := 1000000, implicitDefEqProofs := false }) (disch := omega) only [allW, allL, allB, Nat.sub_self, Nat.add_one_sub_one, Nat.reduceSub, cond_true, cond_false, oneOf, evalAll, partsA, optA, List.drop_zero, List.drop_succ_cons, List.cons_append, List.nil_append, Nat.reduceLT, Nat.reduceLeDiff, Nat.reduceEqDiff, Nat.reduceAdd, List.getD_cons_zero, List.getD_cons_succ, List.set_cons_zero, List.set_cons_succ, ↓reduceIte, if_true, if_false, beq_self_eq_true, ne_eq, eq_self, not_true_eq_false, not_false_eq_true, hn, h1, h2, h3, h4, pf1, lv, hv6.lenA Try.underlying25, eq_false d1, la]
    refine wstep_storeAll rszProf (by decide) htz rfl rfl rfl (by have hyk := hy.sees.okCell; simp only [headC, List.cons_append, List.nil_append, List.all_cons, List.all_nil, hyk]; rfl) ?_
    intro s7 ht7 hnx7 hot7
    have l7 := Thing.loadAll (P := Try.prog) (cs := headC a b c d e g ++ [y]) ragProf rszProf ht7 (c := 8) rfl
    simp (config := { maxSteps := 1000000, implicitDefEqProofs := false }) (disch := omega) only [allW, wfn_ret, wfn_normal, cond_true, cond_false, oneOf, evalAll, partsA, optA, List.drop_zero, List.drop_succ_cons, List.cons_append, List.nil_append, Nat.reduceLT, Nat.reduceLeDiff, Nat.reduceEqDiff, Nat.reduceAdd, List.getD_cons_zero, List.getD_cons_succ, List.set_cons_zero, List.set_cons_succ, ↓reduceIte, if_true, if_false, beq_self_eq_true, ne_eq, eq_self, not_true_eq_false, not_false_eq_true, hn, h2, l7, resultsA_cell, Try.results13]
    exact ⟨y, rfl, hy.ofPut hnx7 hot7 (fun e => by have := hyF _ e; omega), fun j hj => by have := hyF _ hj; omega, hst6.trans ⟨by omega, fun j hj => hot7 j (by omega)⟩⟩
end Go.Proofs.Ytbakljlaladpoaa
