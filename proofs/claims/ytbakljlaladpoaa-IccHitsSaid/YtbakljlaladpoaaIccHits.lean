/-
  The statement IccHits: a profile that was made, with one of the bytes changed that say what it is, or cut, or made longer, is none: the law returns true.
  Conditions: none.
-/
import Derived.Test.YtbakljlaladpoaaRows
import Derived.Test.YtbakljlaladpoaaStart
import Derived.Test.YtbakljlaladpoaaArr
import Derived.Test.YtbakljlaladpoaaIccS
set_option linter.unusedSimpArgs false
set_option linter.unusedVariables false
namespace Go.Cl
/-- A slice of two structs. -/
theorem buildAgg2 {P : Program} {s : ASt} {t e : TypeId} {z : Nat} {zv : Value} {cs ds : Array Value} (hu : P.underlying t = some (.slice e)) (hsz : sizeB P e = some z) (hz : zeroB P e = some zv) (hpl : plainV zv = true) (hzl : Nat.beq zv.cells.toList.length z = true) (hl : cs.toList.length = z) (hl2 : ds.toList.length = z) (hz6 : 2 * z ≤ 65536) : buildSliceA P s t 2 [(0, .agg cs), (1, .agg ds)] = newSlice s (cs.toList ++ ds.toList) 2 z := by
  unfold buildSliceA; rw [hu]
  have hzl' : zv.cells.toList.length = z := by simpa [Nat.beq_eq] using hzl
  have hr : repeatL zv.cells.toList 2 = zv.cells.toList ++ zv.cells.toList := by simp [repeatL]
  have hs1 : setAt (zv.cells.toList ++ zv.cells.toList) 0 cs.toList = some (cs.toList ++ zv.cells.toList) := by
    rw [setAt_eq _ _ _ (by rw [List.length_append]; omega)]
    rw [List.take_zero, List.nil_append, Nat.zero_add, hl, ← hzl', List.drop_left]
  have hs2 : setAt (cs.toList ++ zv.cells.toList) (1 * z) ds.toList = some (cs.toList ++ ds.toList) := by
    rw [setAt_eq _ _ _ (by rw [List.length_append]; omega)]
    rw [Nat.one_mul, ← hl, List.take_left, List.drop_of_length_le (by rw [List.length_append]; omega), List.append_nil]
  have hc : (Nat.ble (2 * z) 65536 && plainV zv && Nat.beq zv.cells.toList.length z) = true := by rw [hpl, hzl]; simp [Nat.ble_eq]; exact hz6
  simp only [hsz, hz, hc, hr, fillA, cells_agg, Nat.zero_mul, hs1, if_true, hs2]
  simp [hl, hl2, hzl']
end Go.Cl
namespace Go.Proofs.Ytbakljlaladpoaa.iccHits
open Go.ChangeShapes Go.WideShapes Go.ChangeAt Go.RowKit Go.Cl Go.Cl.Icc

theorem bTag02 (a : List UInt8) (y : Int) : buildA Try.prog 35 [(0, .string ⟨a.toArray⟩), (2, .int .i64 y)] = some (.agg (tagC (a, 0, y)).toArray) := by
  unfold buildA; rw [Try.underlying35]
  have hz : zeroB Try.prog 35 = some (.agg #[.string ⟨#[]⟩, .int .i64 0, .int .i64 0]) := by kernel_rfl
  rw [hz]
  have ci : ∀ k n, (Value.int k n).cells = #[.int k n] := fun _ _ => rfl
  have cs : ∀ b, (Value.string b).cells = #[.string b] := fun _ => rfl
  simp [szInt, qszStr, plainV, plain1, fillA, placeOf, cells_agg, setAt, ci, cs, tagC]
theorem twoTags (s : ASt) (a b : List UInt8) (x y : Int) : buildSliceA Try.prog s 25 2 [(0, .agg (tagC (a, 0, x)).toArray), (1, .agg (tagC (b, 0, y)).toArray)] = newSlice s (tagsC [(a, 0, x), (b, 0, y)]) 2 3 :=
  buildAgg2 Try.underlying25 szTag zTag plTag rfl rfl rfl (by decide)
set_option maxHeartbeats 4000000 in
theorem awake_any (s : ASt) : Runs Try.prog libN 7 [] s fun v s' => v = .bool true ∧ Stay s.next s s' := by
  refine Runs.enter 46 Try.func7 rfl rfl rfl rfl ?_
  intro f hn hf
  clear hf
  have b1 := bTag02 DESC 4
  have b2 := bTag02 WTPT 20
  simp only [DESC, WTPT] at b1 b2
  simp (config := { maxSteps := 1000000, implicitDefEqProofs := false }) (disch := omega) only [allW, cond_true, cond_false, oneOf, evalAll, partsA, optA, List.drop_zero, List.drop_succ_cons, List.cons_append, List.nil_append, Nat.reduceLT, Nat.reduceLeDiff, Nat.reduceEqDiff, Nat.reduceAdd, List.getD_cons_zero, List.getD_cons_succ, List.set_cons_zero, List.set_cons_succ, ↓reduceIte, if_true, if_false, beq_self_eq_true, ne_eq, eq_self, not_true_eq_false, not_false_eq_true, hn, b1, b2, twoTags]
  refine wstep_newSlice (by rfl) ?_
  intro x s1 hx hxF hst1
  simp (config := { maxSteps := 1000000, implicitDefEqProofs := false }) (disch := omega) only [allW, cond_true, cond_false, oneOf, evalAll, partsA, optA, List.drop_zero, List.drop_succ_cons, List.cons_append, List.nil_append, Nat.reduceLT, Nat.reduceLeDiff, Nat.reduceEqDiff, Nat.reduceAdd, List.getD_cons_zero, List.getD_cons_succ, List.set_cons_zero, List.set_cons_succ, ↓reduceIte, if_true, if_false, beq_self_eq_true, ne_eq, eq_self, not_true_eq_false, not_false_eq_true, hn]
  refine (make_any s1 RGB x (T2 4) hx.sees (by decide)).mono ?_
  rintro _ s2 ⟨hok, _⟩
  obtain ⟨b, rfl, hb, hbF, hst2⟩ := hok (okT2 (by decide))
  have hl := lenT2 (n := 4) (by decide)
  simp (config := { maxSteps := 1000000, implicitDefEqProofs := false }) (disch := omega) only [allW, cond_true, cond_false, oneOf, evalAll, partsA, optA, List.drop_zero, List.drop_succ_cons, List.cons_append, List.nil_append, Nat.reduceLT, Nat.reduceLeDiff, Nat.reduceEqDiff, Nat.reduceAdd, List.getD_cons_zero, List.getD_cons_succ, List.set_cons_zero, List.set_cons_succ, ↓reduceIte, if_true, if_false, beq_self_eq_true, ne_eq, eq_self, not_true_eq_false, not_false_eq_true, hn, show ∀ a b, extractA (.tuple #[a, b]) 0 = some a from fun _ _ => rfl, show ∀ a b, extractA (.tuple #[a, b]) 1 = some b from fun _ _ => rfl]
  refine (read_any s2 b _ hb.sees (by rw [hl]; decide)).mono ?_
  rintro _ s3 ⟨cs, rfl, hP, hst3⟩
  have hr := readT2 (n := 4) (by decide)
  obtain ⟨_, _, _, hhead⟩ := made_head (okT2 (n := 4) (by decide))
  obtain ⟨y', hcs, hy'⟩ := hP.2 (by rw [hr])
  rw [hr] at hy' ⊢
  rw [hhead] at hcs
  have hy' : Sees s3 3 y' 2 (tagsC (placed (T2 4) 2)) := hy'
  have hp3 : parts RGB = 3 := by decide
  rw [hp3] at hcs
  have hd8 : zeroP.length + 1 = 8 := rfl
  have hcok : cs.all okCell = true := by
    have hyk := hy'.okCell
    rw [hcs]; simp only [headC, List.cons_append, List.nil_append, List.all_cons, List.all_nil, hyk]; rfl
  simp (config := { maxSteps := 1000000, implicitDefEqProofs := false }) (disch := omega) only [allW, cond_true, cond_false, oneOf, evalAll, partsA, optA, List.drop_zero, List.drop_succ_cons, List.cons_append, List.nil_append, Nat.reduceLT, Nat.reduceLeDiff, Nat.reduceEqDiff, Nat.reduceAdd, List.getD_cons_zero, List.getD_cons_succ, List.set_cons_zero, List.set_cons_succ, ↓reduceIte, if_true, if_false, beq_self_eq_true, ne_eq, eq_self, not_true_eq_false, not_false_eq_true, hn, show ∀ a b, extractA (.tuple #[a, b]) 0 = some a from fun _ _ => rfl, show ∀ a b, extractA (.tuple #[a, b]) 1 = some b from fun _ _ => rfl, zProf, plProf]
  refine wstep_newPtr ?_
  intro s4 ht4 hst4 hnx4
  simp (config := { maxSteps := 1000000, implicitDefEqProofs := false }) (disch := omega) only [allW, cond_true, cond_false, oneOf, evalAll, partsA, optA, List.drop_zero, List.drop_succ_cons, List.cons_append, List.nil_append, Nat.reduceLT, Nat.reduceLeDiff, Nat.reduceEqDiff, Nat.reduceAdd, List.getD_cons_zero, List.getD_cons_succ, List.set_cons_zero, List.set_cons_succ, ↓reduceIte, if_true, if_false, beq_self_eq_true, ne_eq, eq_self, not_true_eq_false, not_false_eq_true, hn, hd8]
  refine wstep_storeAll szProf (by decide) ht4 rfl rfl (by rw [hcs]; rfl) hcok ?_
  intro s5 ht5 hnx5 hot5
  have ht5 : Thing s5 s3.next cs := ht5
  rw [hcs] at ht5
  have hst35 : Stay s3.next s3 s5 := hst4.trans ⟨by omega, fun j hj => hot5 j (by omega)⟩
  have hy5 := hy'.keeps hst35
  have l2 : loadA Try.prog s5 3 (.pointer (some ⟨s3.next, 2, some 8⟩)) = some (.int .i64 3) := ht5.load agInt (off := 2) (c := 8) rfl (by simp [headC])
  have lh : ∀ t, Stay s5.next s5 t → loadA Try.prog t 24 (.pointer (some ⟨s3.next, 0, some 8⟩)) = some (.agg (headC ((bytesM RGB (T2 4)).length : Nat) 2 3 [109, 110, 116, 114] RGB [88, 89, 90, 32]).toArray) := fun t ht => Thing.loadSome agHead szHead (ht5.keeps ht) (off := 0) (c := 8) rfl (by simp [headC])
  have ly : ∀ t, Stay s5.next s5 t → loadA Try.prog t 25 (.pointer (some ⟨s3.next, 6, some 8⟩)) = some y' := fun t ht => (ht5.keeps ht).load agTagS (off := 6) (c := 8) rfl (by simp [headC])
  simp (config := { maxSteps := 1000000, implicitDefEqProofs := false }) (disch := omega) only [allW, cond_true, cond_false, oneOf, evalAll, partsA, optA, List.drop_zero, List.drop_succ_cons, List.cons_append, List.nil_append, Nat.reduceLT, Nat.reduceLeDiff, Nat.reduceEqDiff, Nat.reduceAdd, List.getD_cons_zero, List.getD_cons_succ, List.set_cons_zero, List.set_cons_succ, ↓reduceIte, if_true, if_false, beq_self_eq_true, ne_eq, eq_self, not_true_eq_false, not_false_eq_true, undef, hn, pf0, pf1, hf2, l2, lh s5 (Stay.refl _ _)]
  refine (fits_any rfl s5 _ 2 3 3 _ RGB _).mono ?_
  rintro _ s6 ⟨rfl, hst6⟩
  have e3 : (decide ((3 : Int) = 3) && decide (RGB ≠ LAB)) = true := by decide
  rw [e3]
  simp (config := { maxSteps := 1000000, implicitDefEqProofs := false }) (disch := omega) only [allW, cond_true, cond_false, oneOf, evalAll, partsA, optA, List.drop_zero, List.drop_succ_cons, List.cons_append, List.nil_append, Nat.reduceLT, Nat.reduceLeDiff, Nat.reduceEqDiff, Nat.reduceAdd, List.getD_cons_zero, List.getD_cons_succ, List.set_cons_zero, List.set_cons_succ, ↓reduceIte, if_true, if_false, beq_self_eq_true, ne_eq, eq_self, not_true_eq_false, not_false_eq_true, undef, hn, pf0, pf1, lh s6 hst6]
  refine (fits_any rfl s6 _ 2 3 4 _ RGB _).mono ?_
  rintro _ s7 ⟨rfl, hst7⟩
  have e4 : (decide ((3 : Int) = 4) && decide (RGB ≠ LAB)) = false := by decide
  rw [e4]
  have hst57 := hst6.trans (hst7.weaken hst6.next)
  simp (config := { maxSteps := 1000000, implicitDefEqProofs := false }) (disch := omega) only [allW, wfn_ret, wfn_normal, cond_true, cond_false, oneOf, evalAll, partsA, optA, List.drop_zero, List.drop_succ_cons, List.cons_append, List.nil_append, Nat.reduceLT, Nat.reduceLeDiff, Nat.reduceEqDiff, Nat.reduceAdd, List.getD_cons_zero, List.getD_cons_succ, List.set_cons_zero, List.set_cons_succ, ↓reduceIte, if_true, if_false, beq_self_eq_true, ne_eq, eq_self, not_true_eq_false, not_false_eq_true, undef, hn, pf0, pf1, ly s7 hst57, (hy5.keeps hst57).lenA Try.underlying25, Try.results7]
  have n1 := hst1.next
  have n2 := hst2.next
  have n3 := hst3.next
  have n5 := hst35.next
  exact ⟨rfl, (((hst1.trans (hst2.weaken (by omega))).trans (hst3.weaken (by omega))).trans (hst35.weaken (by omega))).trans (hst57.weaken (by omega))⟩
theorem shape {s : ASt} {l : List UInt8} {cs : List Value} (hP : ProfIs s l cs) : cs.length = 7 ∧ cs.all okCell = true := by
  by_cases c : (readP l).1 = 0
  · obtain ⟨x, hx, hxs⟩ := hP.2 c
    have hxk := hxs.okCell
    refine ⟨by rw [hx]; rfl, ?_⟩
    rw [hx]; simp only [headIs, headC, List.cons_append, List.nil_append, List.all_cons, List.all_nil, hxk]; rfl
  · rw [hP.1 c]; exact ⟨rfl, rfl⟩
def placesV : List Value := PLACES.map fun (k : Nat) => .int .i64 (k : Int)
theorem places11 (s : ASt) : buildSliceA Try.prog s 70 11 [(0, .int .i64 0), (1, .int .i64 1), (2, .int .i64 2), (3, .int .i64 3), (4, .int .i64 36), (5, .int .i64 37), (6, .int .i64 38), (7, .int .i64 39), (8, .int .i64 128), (9, .int .i64 129), (10, .int .i64 130)] = newSlice s placesV 11 1 := by
  unfold buildSliceA; rw [Try.underlying70]; simp only [szInt, zInt]; rfl
theorem places_get {q : Nat} (h : q < 11) : ∃ j, j ∈ PLACES ∧ j < 132 ∧ placesV.getD q undef = .int .i64 (j : Int) := by
  match q, h with
  | 0, _ => exact ⟨0, by decide, by decide, rfl⟩
  | 1, _ => exact ⟨1, by decide, by decide, rfl⟩
  | 2, _ => exact ⟨2, by decide, by decide, rfl⟩
  | 3, _ => exact ⟨3, by decide, by decide, rfl⟩
  | 4, _ => exact ⟨36, by decide, by decide, rfl⟩
  | 5, _ => exact ⟨37, by decide, by decide, rfl⟩
  | 6, _ => exact ⟨38, by decide, by decide, rfl⟩
  | 7, _ => exact ⟨39, by decide, by decide, rfl⟩
  | 8, _ => exact ⟨128, by decide, by decide, rfl⟩
  | 9, _ => exact ⟨129, by decide, by decide, rfl⟩
  | 10, _ => exact ⟨130, by decide, by decide, rfl⟩
set_option maxHeartbeats 8000000 in
theorem hits_any (s : ASt) (sz at' c ct : UInt8) : Runs Try.prog libN 18 [.int .u8 (sz.toNat : Int), .int .u8 (at'.toNat : Int), .int .u8 (c.toNat : Int), .int .u8 (ct.toNat : Int)] s fun v s' => v = .bool true := by
  refine Runs.enter 96 Try.func18 rfl rfl rfl rfl ?_
  intro f hn hf
  have h0 : f.get 0 = .int .u8 (sz.toNat : Int) := hf 0
  have h1 : f.get 1 = .int .u8 (at'.toNat : Int) := hf 1
  have h2 : f.get 2 = .int .u8 (c.toNat : Int) := hf 2
  have h3 : f.get 3 = .int .u8 (ct.toNat : Int) := hf 3
  clear hf
  have q0 := sz.toNat_lt
  have q1 := at'.toNat_lt
  have q3 := ct.toNat_lt
  have hd8 : zeroP.length + 1 = 8 := rfl
  have b1 := bTag02 DESC (sz.toNat : Int)
  have b2 := bTag02 WTPT 20
  simp only [DESC, WTPT] at b1 b2
  simp (config := { maxSteps := 1000000, implicitDefEqProofs := false }) (disch := omega) only [allW, cond_true, cond_false, oneOf, evalAll, partsA, optA, List.drop_zero, List.drop_succ_cons, List.cons_append, List.nil_append, Nat.reduceLT, Nat.reduceLeDiff, Nat.reduceEqDiff, Nat.reduceAdd, List.getD_cons_zero, List.getD_cons_succ, List.set_cons_zero, List.set_cons_succ, ↓reduceIte, if_true, if_false, beq_self_eq_true, ne_eq, eq_self, not_true_eq_false, not_false_eq_true, hn, h0, h1, h2, h3, conv_int Try.underlying5 Try.underlying3, wrapI, b1, b2, twoTags]
  refine wstep_newSlice (by rfl) ?_
  intro x s1 hx hxF hst1
  simp (config := { maxSteps := 1000000, implicitDefEqProofs := false }) (disch := omega) only [allW, cond_true, cond_false, oneOf, evalAll, partsA, optA, List.drop_zero, List.drop_succ_cons, List.cons_append, List.nil_append, Nat.reduceLT, Nat.reduceLeDiff, Nat.reduceEqDiff, Nat.reduceAdd, List.getD_cons_zero, List.getD_cons_succ, List.set_cons_zero, List.set_cons_succ, ↓reduceIte, if_true, if_false, beq_self_eq_true, ne_eq, eq_self, not_true_eq_false, not_false_eq_true, hn, h0, h1, h2, h3]
  refine (make_any s1 RGB x (T2 sz.toNat) hx.sees (show (2 : Nat) ≤ 1000 by decide)).mono ?_
  rintro _ s2 ⟨hok, _⟩
  have hT := okT2 (n := sz.toNat) (by omega)
  obtain ⟨b, rfl, hb, hbF, hst2⟩ := hok hT
  have hl := lenT2 (n := sz.toNat) (by omega)
  have hpd : pad (sz.toNat : Int) ≤ 300 := by unfold pad; omega
  have hr := readT2 (n := sz.toNat) (by omega)
  obtain ⟨B, hB⟩ : ∃ B, B = bytesM RGB (T2 sz.toNat) := ⟨_, rfl⟩
  have htu := fun {j : Nat} (hj : j ∈ PLACES) (hc : c ≠ (bytesM RGB (T2 sz.toNat)).getD j 0) => turned hT hj hc
  have hlo := longer hT c
  have hsh := fun {m : Nat} (hm : m < (bytesM RGB (T2 sz.toNat)).length) => shorter hT hm
  rw [← hB] at hb hl hr htu hlo hsh
  simp (config := { maxSteps := 1000000, implicitDefEqProofs := false }) (disch := omega) only [allW, cond_true, cond_false, oneOf, evalAll, partsA, optA, List.drop_zero, List.drop_succ_cons, List.cons_append, List.nil_append, Nat.reduceLT, Nat.reduceLeDiff, Nat.reduceEqDiff, Nat.reduceAdd, List.getD_cons_zero, List.getD_cons_succ, List.set_cons_zero, List.set_cons_succ, ↓reduceIte, if_true, if_false, beq_self_eq_true, ne_eq, eq_self, not_true_eq_false, not_false_eq_true, undef, hn, h0, h1, h2, h3, show ∀ a b, extractA (.tuple #[a, b]) 0 = some a from fun _ _ => rfl, show ∀ a b, extractA (.tuple #[a, b]) 1 = some b from fun _ _ => rfl, bin_neq]
  refine (awake_any s2).mono ?_
  rintro _ s3 ⟨rfl, hst3⟩
  have hb3 := hb.keeps hst3
  simp (config := { maxSteps := 1000000, implicitDefEqProofs := false }) (disch := omega) only [allW, cond_true, cond_false, oneOf, evalAll, partsA, optA, List.drop_zero, List.drop_succ_cons, List.cons_append, List.nil_append, Nat.reduceLT, Nat.reduceLeDiff, Nat.reduceEqDiff, Nat.reduceAdd, List.getD_cons_zero, List.getD_cons_succ, List.set_cons_zero, List.set_cons_succ, ↓reduceIte, if_true, if_false, beq_self_eq_true, ne_eq, eq_self, not_true_eq_false, not_false_eq_true, undef, hn, h0, h1, h2, h3, places11]
  refine wstep_newSlice (by rfl) ?_
  intro pl s4 hpl _ hst4
  have hb4 := hb3.keeps hst4
  have krem : (at'.toNat : Int).tmod ((11 : Nat) : Int) = ((at'.toNat % 11 : Nat) : Int) := by rw [Int.tmod_eq_emod_of_nonneg (by omega)]; omega
  have hmod : at'.toNat % 11 < 11 := Nat.mod_lt _ (by decide)
  have hix := hpl.sees.indexAddr (P := Try.prog) (k := .i64) (x := ((at'.toNat % 11 : Nat) : Int)) Try.underlying70 szInt (by omega) (by omega)
  rw [Int.toNat_natCast] at hix
  have hld := hpl.sees.load1 (P := Try.prog) agInt hmod
  obtain ⟨j, hj, hj132, hjv⟩ := places_get hmod
  rw [hjv] at hld
  simp (config := { maxSteps := 1000000, implicitDefEqProofs := false }) (disch := omega) only [allW, cond_true, cond_false, oneOf, evalAll, partsA, optA, List.drop_zero, List.drop_succ_cons, List.cons_append, List.nil_append, Nat.reduceLT, Nat.reduceLeDiff, Nat.reduceEqDiff, Nat.reduceAdd, List.getD_cons_zero, List.getD_cons_succ, List.set_cons_zero, List.set_cons_succ, ↓reduceIte, if_true, if_false, beq_self_eq_true, ne_eq, eq_self, not_true_eq_false, not_false_eq_true, undef, hn, h0, h1, h2, h3, conv_int Try.underlying5 Try.underlying3, wrapI, hpl.sees.lenA Try.underlying70, bin_rem, krem, hix, hld]
  refine (copy_any rfl s4 b B hb4.sees (by omega)).mono ?_
  rintro d s5 ⟨hd, hdF, hst5⟩
  have hb5 := hb4.keeps hst5
  have hid := hd.sees.indexAddr (P := Try.prog) (k := .i64) (x := (j : Int)) Try.underlying31 szU8 (by omega) (by omega)
  rw [Int.toNat_natCast] at hid
  simp (config := { maxSteps := 1000000, implicitDefEqProofs := false }) (disch := omega) only [allW, cond_true, cond_false, oneOf, evalAll, partsA, optA, List.drop_zero, List.drop_succ_cons, List.cons_append, List.nil_append, Nat.reduceLT, Nat.reduceLeDiff, Nat.reduceEqDiff, Nat.reduceAdd, List.getD_cons_zero, List.getD_cons_succ, List.set_cons_zero, List.set_cons_succ, ↓reduceIte, if_true, if_false, beq_self_eq_true, ne_eq, eq_self, not_true_eq_false, not_false_eq_true, undef, hn, h0, h1, h2, h3, hid]
  refine wstep_storeElem szU8 hd (k := j) (by omega) rfl ?_
  intro s6 hd6 htu6
  rw [set_ofBytes, ← List.length_set (i := j) (a := c)] at hd6
  have hst6 : Stay s4.next s4 s6 := hst5.trans (htu6.keeps hdF hst5.next)
  have hb6 := hb4.keeps hst6
  simp (config := { maxSteps := 1000000, implicitDefEqProofs := false }) (disch := omega) only [allW, cond_true, cond_false, oneOf, evalAll, partsA, optA, List.drop_zero, List.drop_succ_cons, List.cons_append, List.nil_append, Nat.reduceLT, Nat.reduceLeDiff, Nat.reduceEqDiff, Nat.reduceAdd, List.getD_cons_zero, List.getD_cons_succ, List.set_cons_zero, List.set_cons_succ, ↓reduceIte, if_true, if_false, beq_self_eq_true, ne_eq, eq_self, not_true_eq_false, not_false_eq_true, undef, hn, h0, h1, h2, h3]
  refine (read_any s6 d _ hd6.sees (by rw [List.length_set]; omega)).mono ?_
  rintro _ s7 ⟨cs1, rfl, hP1, hst7⟩
  simp (config := { maxSteps := 1000000, implicitDefEqProofs := false }) (disch := omega) only [allW, cond_true, cond_false, oneOf, evalAll, partsA, optA, List.drop_zero, List.drop_succ_cons, List.cons_append, List.nil_append, Nat.reduceLT, Nat.reduceLeDiff, Nat.reduceEqDiff, Nat.reduceAdd, List.getD_cons_zero, List.getD_cons_succ, List.set_cons_zero, List.set_cons_succ, ↓reduceIte, if_true, if_false, beq_self_eq_true, ne_eq, eq_self, not_true_eq_false, not_false_eq_true, undef, hn, h0, h1, h2, h3, show ∀ a b, extractA (.tuple #[a, b]) 0 = some a from fun _ _ => rfl, show ∀ a b, extractA (.tuple #[a, b]) 1 = some b from fun _ _ => rfl, zProf, plProf]
  refine wstep_newPtr ?_
  intro s8 htA hstA hnxA
  simp (config := { maxSteps := 1000000, implicitDefEqProofs := false }) (disch := omega) only [allW, cond_true, cond_false, oneOf, evalAll, partsA, optA, List.drop_zero, List.drop_succ_cons, List.cons_append, List.nil_append, Nat.reduceLT, Nat.reduceLeDiff, Nat.reduceEqDiff, Nat.reduceAdd, List.getD_cons_zero, List.getD_cons_succ, List.set_cons_zero, List.set_cons_succ, ↓reduceIte, if_true, if_false, beq_self_eq_true, ne_eq, eq_self, not_true_eq_false, not_false_eq_true, hn, h0, h1, h2, h3, hd8]
  refine wstep_storeAll szProf (by decide) htA rfl rfl (shape hP1).1 (shape hP1).2 ?_
  intro s9 huA hnxxA hotA
  have hsA : Stay s7.next s7 s9 := hstA.trans ⟨by omega, fun j hj => hotA j (by omega)⟩
  have hs69 := hst7.trans (hsA.weaken hst7.next)
  have hb9 := hb6.keeps hs69
  have krem2 : (ct.toNat : Int).tmod (B.length : Int) = ((ct.toNat % B.length : Nat) : Int) := by rw [Int.tmod_eq_emod_of_nonneg (by omega)]; omega
  have hmod2 : ct.toNat % B.length < B.length := Nat.mod_lt _ (by omega)
  obtain ⟨m, hm⟩ : ∃ m, m = B.length - 1 - ct.toNat % B.length := ⟨_, rfl⟩
  have km : (B.length : Int) - 1 - ((ct.toNat % B.length : Nat) : Int) = ((m : Nat) : Int) := by omega
  have hsl := hb9.sees.sliceHigh (P := Try.prog) (k := .i64) (y := ((m : Nat) : Int)) Try.underlying31 szU8 (by omega) (by omega)
  rw [Int.toNat_natCast] at hsl
  have hcut := hb9.sees.cutB (lo := 0) (hi := m) (by omega) (by omega)
  rw [List.drop_zero, Nat.sub_zero] at hcut
  simp (config := { maxSteps := 1000000, implicitDefEqProofs := false }) (disch := omega) only [allW, cond_true, cond_false, oneOf, evalAll, partsA, optA, List.drop_zero, List.drop_succ_cons, List.cons_append, List.nil_append, Nat.reduceLT, Nat.reduceLeDiff, Nat.reduceEqDiff, Nat.reduceAdd, List.getD_cons_zero, List.getD_cons_succ, List.set_cons_zero, List.set_cons_succ, ↓reduceIte, if_true, if_false, beq_self_eq_true, ne_eq, eq_self, not_true_eq_false, not_false_eq_true, undef, hn, h0, h1, h2, h3, conv_int Try.underlying5 Try.underlying3, wrapI, hb9.sees.lenA Try.underlying31, bin_rem, krem2, km, hsl]
  refine (read_any s9 _ _ hcut (by rw [List.length_take]; omega)).mono ?_
  rintro _ sa ⟨cs2, rfl, hP2, hsta⟩
  simp (config := { maxSteps := 1000000, implicitDefEqProofs := false }) (disch := omega) only [allW, cond_true, cond_false, oneOf, evalAll, partsA, optA, List.drop_zero, List.drop_succ_cons, List.cons_append, List.nil_append, Nat.reduceLT, Nat.reduceLeDiff, Nat.reduceEqDiff, Nat.reduceAdd, List.getD_cons_zero, List.getD_cons_succ, List.set_cons_zero, List.set_cons_succ, ↓reduceIte, if_true, if_false, beq_self_eq_true, ne_eq, eq_self, not_true_eq_false, not_false_eq_true, undef, hn, h0, h1, h2, h3, show ∀ a b, extractA (.tuple #[a, b]) 0 = some a from fun _ _ => rfl, show ∀ a b, extractA (.tuple #[a, b]) 1 = some b from fun _ _ => rfl, zProf, plProf]
  refine wstep_newPtr ?_
  intro sb htB hstB hnxB
  simp (config := { maxSteps := 1000000, implicitDefEqProofs := false }) (disch := omega) only [allW, cond_true, cond_false, oneOf, evalAll, partsA, optA, List.drop_zero, List.drop_succ_cons, List.cons_append, List.nil_append, Nat.reduceLT, Nat.reduceLeDiff, Nat.reduceEqDiff, Nat.reduceAdd, List.getD_cons_zero, List.getD_cons_succ, List.set_cons_zero, List.set_cons_succ, ↓reduceIte, if_true, if_false, beq_self_eq_true, ne_eq, eq_self, not_true_eq_false, not_false_eq_true, hn, h0, h1, h2, h3, hd8]
  refine wstep_storeAll szProf (by decide) htB rfl rfl (shape hP2).1 (shape hP2).2 ?_
  intro sc huB hnxxB hotB
  have hsB : Stay sa.next sa sc := hstB.trans ⟨by omega, fun j hj => hotB j (by omega)⟩
  have hs9c := hsta.trans (hsB.weaken hsta.next)
  have hbc := hb9.keeps hs9c
  simp (config := { maxSteps := 1000000, implicitDefEqProofs := false }) (disch := omega) only [allW, cond_true, cond_false, oneOf, evalAll, partsA, optA, List.drop_zero, List.drop_succ_cons, List.cons_append, List.nil_append, Nat.reduceLT, Nat.reduceLeDiff, Nat.reduceEqDiff, Nat.reduceAdd, List.getD_cons_zero, List.getD_cons_succ, List.set_cons_zero, List.set_cons_succ, ↓reduceIte, if_true, if_false, beq_self_eq_true, ne_eq, eq_self, not_true_eq_false, not_false_eq_true, undef, hn, h0, h1, h2, h3]
  refine (copy_any rfl sc b B hbc.sees (by omega)).mono ?_
  rintro d2 sd ⟨hd2, hd2F, hstd⟩
  simp (config := { maxSteps := 1000000, implicitDefEqProofs := false }) (disch := omega) only [allW, cond_true, cond_false, oneOf, evalAll, partsA, optA, List.drop_zero, List.drop_succ_cons, List.cons_append, List.nil_append, Nat.reduceLT, Nat.reduceLeDiff, Nat.reduceEqDiff, Nat.reduceAdd, List.getD_cons_zero, List.getD_cons_succ, List.set_cons_zero, List.set_cons_succ, ↓reduceIte, if_true, if_false, beq_self_eq_true, ne_eq, eq_self, not_true_eq_false, not_false_eq_true, undef, hn, h0, h1, h2, h3, build1 Try.underlying31 szU8 zU8]
  refine wstep_append_lit Try.underlying31 szU8 byU8 zU8 rfl hd2 (by simp only [get_put, n_put, ↓reduceIte, Nat.reduceEqDiff]) (by decide) (by simp only [get_put, n_put, ↓reduceIte, Nat.reduceEqDiff, hn]; decide) (by simp only [get_put, n_put, ↓reduceIte, Nat.reduceEqDiff, hn]; decide) (by rfl) (by decide) rfl (by omega) (by omega) hd2F hstd.next ?_
  intro bs d3 se hd3 hd3F hste _ _
  have e1 : ofBytes B ++ [Value.int .u8 (c.toNat : Int)] = ofBytes (B ++ [c]) := by rw [ofBytes_append]; rfl
  rw [e1, show B.length + 1 = (B ++ [c]).length by simp] at hd3
  have hbe := hbc.keeps (hstd.trans hste)
  simp (config := { maxSteps := 1000000, implicitDefEqProofs := false }) (disch := omega) only [allW, cond_true, cond_false, oneOf, evalAll, partsA, optA, List.drop_zero, List.drop_succ_cons, List.cons_append, List.nil_append, Nat.reduceLT, Nat.reduceLeDiff, Nat.reduceEqDiff, Nat.reduceAdd, List.getD_cons_zero, List.getD_cons_succ, List.set_cons_zero, List.set_cons_succ, ↓reduceIte, if_true, if_false, beq_self_eq_true, ne_eq, eq_self, not_true_eq_false, not_false_eq_true, undef, hn, h0, h1, h2, h3]
  refine (read_any se d3 _ hd3.sees (by simp; omega)).mono ?_
  rintro _ sf ⟨cs3, rfl, hP3, hstf⟩
  simp (config := { maxSteps := 1000000, implicitDefEqProofs := false }) (disch := omega) only [allW, cond_true, cond_false, oneOf, evalAll, partsA, optA, List.drop_zero, List.drop_succ_cons, List.cons_append, List.nil_append, Nat.reduceLT, Nat.reduceLeDiff, Nat.reduceEqDiff, Nat.reduceAdd, List.getD_cons_zero, List.getD_cons_succ, List.set_cons_zero, List.set_cons_succ, ↓reduceIte, if_true, if_false, beq_self_eq_true, ne_eq, eq_self, not_true_eq_false, not_false_eq_true, undef, hn, h0, h1, h2, h3, show ∀ a b, extractA (.tuple #[a, b]) 0 = some a from fun _ _ => rfl, show ∀ a b, extractA (.tuple #[a, b]) 1 = some b from fun _ _ => rfl, zProf, plProf]
  refine wstep_newPtr ?_
  intro sg htC hstC hnxC
  simp (config := { maxSteps := 1000000, implicitDefEqProofs := false }) (disch := omega) only [allW, cond_true, cond_false, oneOf, evalAll, partsA, optA, List.drop_zero, List.drop_succ_cons, List.cons_append, List.nil_append, Nat.reduceLT, Nat.reduceLeDiff, Nat.reduceEqDiff, Nat.reduceAdd, List.getD_cons_zero, List.getD_cons_succ, List.set_cons_zero, List.set_cons_succ, ↓reduceIte, if_true, if_false, beq_self_eq_true, ne_eq, eq_self, not_true_eq_false, not_false_eq_true, hn, h0, h1, h2, h3, hd8]
  refine wstep_storeAll szProf (by decide) htC rfl rfl (shape hP3).1 (shape hP3).2 ?_
  intro sh huC hnxxC hotC
  have hsC : Stay sf.next sf sh := hstC.trans ⟨by omega, fun j hj => hotC j (by omega)⟩
  have hseh := hstf.trans (hsC.weaken hstf.next)
  have hbh := hbe.keeps hseh
  have hidb := hbh.sees.indexAddr (P := Try.prog) (k := .i64) (x := (j : Int)) Try.underlying31 szU8 (by omega) (by omega)
  rw [Int.toNat_natCast] at hidb
  have hldb := hbh.sees.load1 (P := Try.prog) agU8 (k := j) (by omega)
  rw [ofBytes_getD (by omega)] at hldb
  have hf1 : (decide ((readP (B.set j c)).1 = 0) == decide (c.toNat = (B.getD j 0).toNat)) = true := by
    by_cases hc : c = B.getD j 0
    · rw [hc, set_same (by omega), hr]; simp
    · rw [htu hj hc]
      have : ¬ c.toNat = (B.getD j 0).toNat := fun e => hc (UInt8.toNat_inj.mp e)
      rw [decide_eq_false this]; rfl
  have hg := hsh (m := m) (by omega)
  simp (config := { maxSteps := 1000000, implicitDefEqProofs := false }) (disch := omega) only [allW, wfn_ret, wfn_normal, cond_true, cond_false, oneOf, evalAll, partsA, optA, List.drop_zero, List.drop_succ_cons, List.cons_append, List.nil_append, Nat.reduceLT, Nat.reduceLeDiff, Nat.reduceEqDiff, Nat.reduceAdd, List.getD_cons_zero, List.getD_cons_succ, List.set_cons_zero, List.set_cons_succ, ↓reduceIte, if_true, if_false, beq_self_eq_true, ne_eq, eq_self, not_true_eq_false, not_false_eq_true, undef, hn, h0, h1, h2, h3, hidb, hldb, eql_bool Try.underlying4, hf1, bin_neq, eq_false hg, hlo, Try.results18]
theorem awake0 : answersTrue (acall Try.prog libN 100000 7 [] ⟨.nil, 0⟩) = true := by kernel_rfl
theorem u8_nat {x : Int} (h : (Lit.int .u8 x).wf = true) : ∃ c : UInt8, x = (c.toNat : Int) := by
  obtain ⟨bs, h1, h2⟩ := bytes_of (zs := [x]) (by simpa using h)
  match bs, h1 with
  | [c], _ =>
    simp [ofBytes] at h2
    exact ⟨c, h2⟩
set_option maxHeartbeats 4000000 in
theorem law (s : ASt) (ns : List Int) (c : Int) (hw : WF s) (hk : s.next = 0) (hl : ns.length = 3) (hz : ∀ x ∈ ns, (Lit.int .u8 x).wf = true) (hc : (Lit.int .u8 c).wf = true) :
    Runs Try.prog libN 6 [.agg (ns.map (Value.int .u8)).toArray, .int .u8 c] s fun v _ => v = .bool true := by
  obtain ⟨x, y, z, rfl⟩ : ∃ x y z, ns = [x, y, z] := by
    match ns, hl with
    | [x, y, z], _ => exact ⟨x, y, z, rfl⟩
  obtain ⟨x, rfl⟩ := u8_nat (hz x (by simp))
  obtain ⟨y, rfl⟩ := u8_nat (hz y (by simp))
  obtain ⟨z, rfl⟩ := u8_nat (hz z (by simp))
  obtain ⟨c, rfl⟩ := u8_nat hc
  refine Runs.enter 15 Try.func6 rfl rfl rfl rfl ?_
  intro f hn hf
  have h0 : f.get 0 = .agg #[.int .u8 (x.toNat : Int), .int .u8 (y.toNat : Int), .int .u8 (z.toNat : Int)] := hf 0
  have h1 : f.get 1 = .int .u8 (c.toNat : Int) := hf 1
  clear hf
  simp (config := { maxSteps := 1000000, implicitDefEqProofs := false }) (disch := omega) only [allW, cond_true, cond_false, oneOf, evalAll, partsA, optA, List.drop_zero, List.drop_succ_cons, List.cons_append, List.nil_append, Nat.reduceLT, Nat.reduceLeDiff, Nat.reduceEqDiff, Nat.reduceAdd, List.getD_cons_zero, List.getD_cons_succ, List.set_cons_zero, List.set_cons_succ, ↓reduceIte, if_true, if_false, beq_self_eq_true, ne_eq, eq_self, not_true_eq_false, not_false_eq_true, hn, h0, h1]
  refine wstep_newArr (by rfl) ?_
  intro v s1 hv hvF hst1
  simp (config := { maxSteps := 1000000, implicitDefEqProofs := false }) (disch := omega) only [allW, cond_true, cond_false, oneOf, evalAll, partsA, optA, List.drop_zero, List.drop_succ_cons, List.cons_append, List.nil_append, Nat.reduceLT, Nat.reduceLeDiff, Nat.reduceEqDiff, Nat.reduceAdd, List.getD_cons_zero, List.getD_cons_succ, List.set_cons_zero, List.set_cons_succ, ↓reduceIte, if_true, if_false, beq_self_eq_true, ne_eq, eq_self, not_true_eq_false, not_false_eq_true, hn, h0, h1]
  refine (awake_any s1).mono ?_
  rintro _ s2 ⟨rfl, hst2⟩
  have hv2 := hv.keeps hst2
  have i0 := hv2.arrIndex (P := Try.prog) (k := .i64) (x := 0) Try.underlying52 szU8 (by decide) (show (0 : Int) < (3 : Nat) by decide)
  have i1 := hv2.arrIndex (P := Try.prog) (k := .i64) (x := 1) Try.underlying52 szU8 (by decide) (show (1 : Int) < (3 : Nat) by decide)
  have i2 := hv2.arrIndex (P := Try.prog) (k := .i64) (x := 2) Try.underlying52 szU8 (by decide) (show (2 : Int) < (3 : Nat) by decide)
  have l0 := hv2.sees.load1 (P := Try.prog) agU8 (k := 0) (show 0 < 3 by decide)
  have l1 := hv2.sees.load1 (P := Try.prog) agU8 (k := 1) (show 1 < 3 by decide)
  have l2 := hv2.sees.load1 (P := Try.prog) agU8 (k := 2) (show 2 < 3 by decide)
  rw [show (0 : Int).toNat = 0 from rfl] at i0
  rw [show (1 : Int).toNat = 1 from rfl] at i1
  rw [show (2 : Int).toNat = 2 from rfl] at i2
  simp (config := { maxSteps := 1000000, implicitDefEqProofs := false }) (disch := omega) only [allW, cond_true, cond_false, oneOf, evalAll, partsA, optA, List.drop_zero, List.drop_succ_cons, List.cons_append, List.nil_append, Nat.reduceLT, Nat.reduceLeDiff, Nat.reduceEqDiff, Nat.reduceAdd, List.getD_cons_zero, List.getD_cons_succ, List.set_cons_zero, List.set_cons_succ, ↓reduceIte, if_true, if_false, beq_self_eq_true, ne_eq, eq_self, not_true_eq_false, not_false_eq_true, hn, h0, h1, i0, i1, i2, l0, l1, l2]
  refine (hits_any s2 x y c z).mono ?_
  rintro _ s3 rfl
  simp (config := { maxSteps := 1000000, implicitDefEqProofs := false }) (disch := omega) only [allW, wfn_ret, wfn_normal, cond_true, cond_false, oneOf, evalAll, partsA, optA, List.drop_zero, List.drop_succ_cons, List.cons_append, List.nil_append, Nat.reduceLT, Nat.reduceLeDiff, Nat.reduceEqDiff, Nat.reduceAdd, List.getD_cons_zero, List.getD_cons_succ, List.set_cons_zero, List.set_cons_succ, ↓reduceIte, if_true, if_false, beq_self_eq_true, ne_eq, eq_self, not_true_eq_false, not_false_eq_true, hn, Try.results6]

theorem own : ownKnob Try.prog.godebug = none := by kernel_rfl
theorem sound : progOk Try.prog libN = true := by kernel_rfl
theorem laid : laidOutB Try.prog = true := by kernel_rfl
theorem read : ∀ t ∈ Try.f6.params.toList, Try.prog.readableRec t = true ∧ t < Try.prog.types.size := by
  have : (Try.f6.params.toList.all fun t => Try.prog.readableRec t && decide (t < Try.prog.types.size)) = true := by kernel_rfl
  intro t ht
  simpa using List.all_eq_true.mp this t ht
set_option maxRecDepth 100000 in
theorem lifted (os : Os) (started : os.Started) (H : Type) (enc : TypeId × Value → H) :
    ReturnsInHanded {} Try.checked os 6 .any (Rows.iccHitsSpec.pre6 enc Try.prog Try.f6 Rows.iccHitsRow.domain false) (Rows.iccHitsSpec.post enc Try.prog Try.f6 false true false false) := by
  refine returnsInHanded_of_change (C := Try.checked) own started (by kernel_rfl) Try.func6
    (ChangeSpec.witness6 (enc := enc) (C := Try.checked) false ⟨#[], #[.agg #[.int .u8 0, .int .u8 0, .int .u8 0], .int .u8 0], []⟩ 8 (by kernel_rfl) (by kernel_rfl) (by kernel_rfl) (by kernel_rfl)) ?_
  intro W base args ds gs before hval hW hcnd _
  obtain ⟨p, q, hA, _, _, _, _⟩ := id hW
  have hA : DataW.TrodAll enc Try.prog W 0 (fun _ => true) true Try.f6.params.toList args.toList ds p := hA
  rw [Try.params6] at hA
  obtain ⟨v0, v1, d0, d1, p0, p1, rfl, rfl, rfl, h0, h1⟩ := trodAll_two hA
  have hv0 : Value.okWide Try.prog W .any base 52 v0 := hval 0 _ _ (by rw [Try.params6]; rfl) rfl
  have hv1 : Value.okWide Try.prog W .any base 5 v1 := hval 1 _ _ (by rw [Try.params6]; rfl) rfl
  obtain ⟨n0, rfl, hl0, hz0⟩ := open_arr Try.underlying52 Try.underlying5 (by kernel_rfl) (by kernel_rfl) hv0 h0
  obtain ⟨n1, rfl, _, _, hz1⟩ := open_int Try.underlying5 hv1 h1
  have hcalls := Runs.callsL libFr (libOk _) sound rfl (Begun.start W) (law (St.start W).s n0 n1 (SR.start W).wf rfl hl0 hz0 hz1) (args' := #[.agg (n0.map (Value.int .u8)).toArray, .int .u8 n1]) (VRL.cons (VR.arr _ _ _) (VRL.cons (.int _ _) VRL.nil))
  refine hcalls.mono fun e W' ⟨he, hb⟩ => ?_
  subst he
  exact law_post laid read rfl Try.underlying4 rfl (fun L hL => by match L, hL with | [a0, a1], _ => rfl) hW hb

theorem over : Rows.iccHitsRow.holds Try.pinned (OpenSpec.ofChange Rows.iccHitsSpec) :=
  OpenClaim.holds_of_wide 6 Try.f6 rfl rfl rfl rfl rfl rfl rfl ⟨rfl, rfl, rfl, rfl, rfl⟩ rfl rfl rfl rfl rfl (by kernel_rfl) Try.func6 (by kernel_rfl)
    (of_decide_eq_true (by kernel_rfl)) (by unfold Func.isWrapper; first | (rw [if_pos (by decide +kernel)]; kernel_rfl) | (rw [if_neg (by decide +kernel)]; exact ⟨rfl, rfl⟩))
    (fun os started H enc _ => lifted os started H enc)

/-- THE STATEMENT. -/
theorem proved : Rows.IccHitsSaid := over
#print axioms proved
end Go.Proofs.Ytbakljlaladpoaa.iccHits
