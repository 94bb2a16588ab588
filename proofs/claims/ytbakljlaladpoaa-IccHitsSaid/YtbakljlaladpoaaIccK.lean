/-
  Profiles: the reference's Read.
-/
import Derived.Test.YtbakljlaladpoaaIccJ
import Derived.Test.YtbakljlaladpoaaRecs
set_option linter.unusedSimpArgs false
set_option linter.unusedVariables false
namespace Go.Cl
/-- What was there is below. -/
theorem LA.lowV_old {A : Nat → Bool} {s : ASt} {z : Nat} {v : Value} {n : Nat} {l : List Value} (h : Sees s z v n l) (hA : ∀ i, i < s.next → A i = true) : LA.lowV A (some v) = true := by
  cases h with
  | nil => simp [LA.lowV]
  | bare i off => simp [LA.lowV]
  | of i off n c bl l hi hbb hz hl hc hlen hoff ht => simp only [LA.lowV, Bool.or_eq_true]; left; exact hA i (by assumption)
theorem LA.lowV_elemOld {A : Nat → Bool} {s : ASt} {z : Nat} {v : Value} {n : Nat} {l : List Value} (h : Sees s z v n l) (hA : ∀ i, i < s.next → A i = true) {k : Nat} (hk : k < n) : LA.lowV A (some (elemPtr z v k)) = true := by
  cases h with
  | nil => omega
  | bare => omega
  | of i off n c bl l hi hbb hz hl hc hlen hoff ht => simp only [elemPtr, LA.lowV]; exact hA i hi
end Go.Cl
namespace Go.Proofs.Ytbakljlaladpoaa
open Go.Cl Go.Cl.Icc
theorem rzProf : zeroB Try.prog 40 = some (.agg zeroP.toArray) := by kernel_rfl
theorem rszProf : sizeB Try.prog 40 = some 7 := by kernel_rfl
theorem ragProf : isAggB Try.prog 40 = some true := by kernel_rfl
theorem rszHead : sizeB Try.prog 37 = some 6 := by kernel_rfl
theorem ragHead : isAggB Try.prog 37 = some true := by kernel_rfl
theorem rszTag : sizeB Try.prog 46 = some 3 := by kernel_rfl
theorem rbyTag : bytesB Try.prog 46 = some 32 := by kernel_rfl
theorem ragTag : isAggB Try.prog 46 = some true := by kernel_rfl
theorem rzTag : zeroB Try.prog 46 = some (.agg (tagC ([], 0, 0)).toArray) := by kernel_rfl
theorem rszTagS : sizeB Try.prog 38 = some 1 := by kernel_rfl
theorem ragTagS : isAggB Try.prog 38 = some false := by kernel_rfl
theorem rbProf0 : buildA Try.prog 40 [] = some (.agg zeroP.toArray) := by kernel_rfl
theorem rbHead (a b : Int) (x y z : List UInt8) : buildA Try.prog 37 [(0, .int .i64 a), (1, .int .i64 b), (3, .string ⟨x.toArray⟩), (4, .string ⟨y.toArray⟩), (5, .string ⟨z.toArray⟩)] = some (.agg (headC a b 0 x y z).toArray) := by
  unfold buildA; rw [Try.underlying37]
  have hz : zeroB Try.prog 37 = some (.agg #[.int .i64 0, .int .i64 0, .int .i64 0, .string ⟨#[]⟩, .string ⟨#[]⟩, .string ⟨#[]⟩]) := by kernel_rfl
  rw [hz]
  have ci : ∀ k n, (Value.int k n).cells = #[.int k n] := fun _ _ => rfl
  have cs : ∀ b, (Value.string b).cells = #[.string b] := fun _ => rfl
  simp [szInt, qszStr, plainV, plain1, fillA, placeOf, cells_agg, setAt, ci, cs, headC]
theorem rbProf1 (a b c : Int) (x y z : List UInt8) : buildA Try.prog 40 [(0, .agg (headC a b c x y z).toArray)] = some (.agg (headC a b c x y z ++ [Value.slice none 0 0]).toArray) := by
  unfold buildA; rw [Try.underlying40]
  have hz : zeroB Try.prog 40 = some (.agg #[.int .i64 0, .int .i64 0, .int .i64 0, .string ⟨#[]⟩, .string ⟨#[]⟩, .string ⟨#[]⟩, .slice none 0 0]) := by kernel_rfl
  rw [hz]
  simp [rszHead, rszTagS, plainV, plain1, fillA, placeOf, cells_agg, setAt, headC]
theorem rbTag (a : List UInt8) (x y : Int) : buildA Try.prog 46 [(0, .string ⟨a.toArray⟩), (1, .int .i64 x), (2, .int .i64 y)] = some (.agg (tagC (a, x, y)).toArray) := by
  unfold buildA; rw [Try.underlying46]
  have hz : zeroB Try.prog 46 = some (.agg #[.string ⟨#[]⟩, .int .i64 0, .int .i64 0]) := by kernel_rfl
  rw [hz]
  have ci : ∀ k n, (Value.int k n).cells = #[.int k n] := fun _ _ => rfl
  have cs : ∀ b, (Value.string b).cells = #[.string b] := fun _ => rfl
  simp [szInt, qszStr, plainV, plain1, fillA, placeOf, cells_agg, setAt, ci, cs, tagC]
theorem rpf0 (i o c : Nat) : fieldAddrA Try.prog 40 (.pointer (some ⟨i, o, some c⟩)) 0 = some (.pointer (some ⟨i, o + 0, some c⟩)) := by
  unfold fieldAddrA; rw [Try.underlying40]; simp [rszHead]
theorem rpf1 (i o c : Nat) : fieldAddrA Try.prog 40 (.pointer (some ⟨i, o, some c⟩)) 1 = some (.pointer (some ⟨i, o + 6, some c⟩)) := by
  unfold fieldAddrA; rw [Try.underlying40]; simp [rszHead, rszTagS]
theorem rhf0 (i o c : Nat) : fieldAddrA Try.prog 37 (.pointer (some ⟨i, o, some c⟩)) 0 = some (.pointer (some ⟨i, o + 0, some c⟩)) := by
  unfold fieldAddrA; rw [Try.underlying37]; simp [szInt, qszStr]
theorem rhf1 (i o c : Nat) : fieldAddrA Try.prog 37 (.pointer (some ⟨i, o, some c⟩)) 1 = some (.pointer (some ⟨i, o + 1, some c⟩)) := by
  unfold fieldAddrA; rw [Try.underlying37]; simp [szInt, qszStr]
theorem rhf2 (i o c : Nat) : fieldAddrA Try.prog 37 (.pointer (some ⟨i, o, some c⟩)) 2 = some (.pointer (some ⟨i, o + 2, some c⟩)) := by
  unfold fieldAddrA; rw [Try.underlying37]; simp [szInt, qszStr]
theorem rhf3 (i o c : Nat) : fieldAddrA Try.prog 37 (.pointer (some ⟨i, o, some c⟩)) 3 = some (.pointer (some ⟨i, o + 3, some c⟩)) := by
  unfold fieldAddrA; rw [Try.underlying37]; simp [szInt, qszStr]
theorem rhf4 (i o c : Nat) : fieldAddrA Try.prog 37 (.pointer (some ⟨i, o, some c⟩)) 4 = some (.pointer (some ⟨i, o + 4, some c⟩)) := by
  unfold fieldAddrA; rw [Try.underlying37]; simp [szInt, qszStr]
theorem rhf5 (i o c : Nat) : fieldAddrA Try.prog 37 (.pointer (some ⟨i, o, some c⟩)) 5 = some (.pointer (some ⟨i, o + 5, some c⟩)) := by
  unfold fieldAddrA; rw [Try.underlying37]; simp [szInt, qszStr]
theorem rtf0 (i o c : Nat) : fieldAddrA Try.prog 46 (.pointer (some ⟨i, o, some c⟩)) 0 = some (.pointer (some ⟨i, o + 0, some c⟩)) := by
  unfold fieldAddrA; rw [Try.underlying46]; simp [szInt, qszStr]
theorem rtf1 (i o c : Nat) : fieldAddrA Try.prog 46 (.pointer (some ⟨i, o, some c⟩)) 1 = some (.pointer (some ⟨i, o + 1, some c⟩)) := by
  unfold fieldAddrA; rw [Try.underlying46]; simp [szInt, qszStr]
theorem rtf2 (i o c : Nat) : fieldAddrA Try.prog 46 (.pointer (some ⟨i, o, some c⟩)) 2 = some (.pointer (some ⟨i, o + 2, some c⟩)) := by
  unfold fieldAddrA; rw [Try.underlying46]; simp [szInt, qszStr]
theorem rtfld {s : ASt} {v : Value} {n : Nat} {l : List Value} (h : Sees s 3 v n l) {k : Nat} (hk : k < n) : fieldAddrA Try.prog 46 (elemPtr 3 v k) 0 = some (plusPtr (elemPtr 3 v k) 0) := by
  obtain ⟨i, off, c, e, _⟩ := h.cells hk
  rw [e]
  unfold fieldAddrA; rw [Try.underlying46]; simp [szInt, qszStr, plusPtr]
theorem tagsC_getD : ∀ (T : List (List UInt8 × Int × Int)) (i : Nat) (h : i < T.length), (tagsC T).getD (i * 3 + 0) undef = .string ⟨(T[i].1).toArray⟩
  | [], i, h => by simp at h
  | t :: r, 0, h => by simp [tagsC, tagC]
  | t :: r, i + 1, h => by
    have h1 : (tagsC (t :: r)).getD ((i + 1) * 3 + 0) undef = (tagsC r).getD (i * 3 + 0) undef := by
      rw [show (i + 1) * 3 + 0 = i * 3 + 0 + 3 by omega]
      simp [tagsC, tagC]
    rw [h1, tagsC_getD r i (by simpa using h)]
    rfl
theorem has_snoc (T : List (List UInt8 × Int × Int)) (t : List UInt8 × Int × Int) (a : List UInt8) : has (T ++ [t]) a = (has T a || decide (t.1 = a)) := by simp [has]
theorem any_take_false {T : List (List UInt8 × Int × Int)} {a : List UInt8} (h : ∀ t ∈ T, t.1 ≠ a) : (T.any fun u => decide (u.1 = a)) = false := by
  rw [List.any_eq_false]; intro t ht he; exact h t ht (by simpa using he)
set_option maxHeartbeats 8000000 in
theorem rread_any (s : ASt) (x : Value) (l : List UInt8) (hx : Sees s 1 x l.length (ofBytes l)) (hlen : l.length ≤ 100000000) :
    Runs Try.prog libN 11 [x] s (ReadIs s l) := by
  refine Runs.enter 211 Try.func11 rfl rfl rfl rfl ?_
  intro f hn hf
  have h0 : f.get 0 = x := hf 0
  clear hf
  simp (config := { maxSteps := 1000000, implicitDefEqProofs := false }) (disch := omega) only [allW, cond_true, cond_false, oneOf, evalAll, partsA, optA, List.drop_zero, List.drop_succ_cons, List.cons_append, List.nil_append, Nat.reduceLT, Nat.reduceLeDiff, Nat.reduceEqDiff, Nat.reduceAdd, List.getD_cons_zero, List.getD_cons_succ, List.set_cons_zero, List.set_cons_succ, ↓reduceIte, if_true, if_false, beq_self_eq_true, ne_eq, eq_self, not_true_eq_false, not_false_eq_true, hn, h0, rzProf, plProf]
  refine wstep_newPtr ?_
  intro s1 htr hst1 hnx1
  have hd8 : zeroP.length + 1 = 8 := rfl
  have hx1 := hx.keeps hst1
  have hstr := hst1
  by_cases c1 : (l.length : Int) < 132
  · have h2 : (f.put 2 (.pointer (some ⟨s.next, 0, some 8⟩))).get 2 = .pointer (some ⟨s.next, 0, some 8⟩) := by simp only [get_put, n_put, ↓reduceIte, Nat.reduceEqDiff]
    simp (config := { maxSteps := 1000000, implicitDefEqProofs := false }) (disch := omega) only [allW, allL, allB, Nat.sub_self, Nat.add_one_sub_one, Nat.reduceSub, cond_true, cond_false, oneOf, evalAll, partsA, optA, List.drop_zero, List.drop_succ_cons, List.cons_append, List.nil_append, Nat.reduceLT, Nat.reduceLeDiff, Nat.reduceEqDiff, Nat.reduceAdd, List.getD_cons_zero, List.getD_cons_succ, List.set_cons_zero, List.set_cons_succ, ↓reduceIte, if_true, if_false, beq_self_eq_true, ne_eq, eq_self, not_true_eq_false, not_false_eq_true, hn, h2, h0, hd8, hx1.lenA Try.underlying31, hx.self, eq_true c1, rbProf0]
    refine wstep_storeAll rszProf (by decide) htr rfl rfl rfl rfl ?_
    intro s9 ht9 hnx9 hot9
    have l9 := Thing.loadAll (P := Try.prog) (cs := zeroP) ragProf rszProf ht9 (c := 8) rfl
    simp (config := { maxSteps := 1000000, implicitDefEqProofs := false }) (disch := omega) only [allW, wfn_ret, wfn_normal, cond_true, cond_false, oneOf, evalAll, partsA, optA, List.drop_zero, List.drop_succ_cons, List.cons_append, List.nil_append, Nat.reduceLT, Nat.reduceLeDiff, Nat.reduceEqDiff, Nat.reduceAdd, List.getD_cons_zero, List.getD_cons_succ, List.set_cons_zero, List.set_cons_succ, ↓reduceIte, if_true, if_false, beq_self_eq_true, ne_eq, eq_self, not_true_eq_false, not_false_eq_true, hn, h2, l9, resultsA_cell, Try.results11]
    have hr : readP l = (2, []) := by exact readP_short (by omega)
    refine ⟨zeroP, by rw [hr], ⟨fun _ => rfl, fun h => by rw [hr] at h; exact absurd h (by decide)⟩, hstr.trans ⟨by omega, fun j hj => hot9 j (by omega)⟩⟩
  have c1' : ¬ l.length < 132 := by omega
  simp (config := { maxSteps := 1000000, implicitDefEqProofs := false }) (disch := omega) only [allW, cond_true, cond_false, oneOf, evalAll, partsA, optA, List.drop_zero, List.drop_succ_cons, List.cons_append, List.nil_append, Nat.reduceLT, Nat.reduceLeDiff, Nat.reduceEqDiff, Nat.reduceAdd, List.getD_cons_zero, List.getD_cons_succ, List.set_cons_zero, List.set_cons_succ, ↓reduceIte, if_true, if_false, beq_self_eq_true, ne_eq, eq_self, not_true_eq_false, not_false_eq_true, hn, h0, hd8, hx1.lenA Try.underlying31, hx.self, eq_false c1]
  obtain ⟨A, hA⟩ : ∃ A : Nat → Bool, A = fun j => decide (j < s1.next) := ⟨_, rfl⟩
  have hAl : ∀ j, A j = true → j < s1.next := by
    intro j h
    rw [hA] at h
    exact of_decide_eq_true h
  have hAo : ∀ j, j < s1.next → A j = true := fun j h => by rw [hA]; exact decide_eq_true h
  have hlow : LA.lowV A (some x) = true := LA.lowV_old hx1 hAo
  refine LB.Drawn.looseK A hAl 2 1 (by kernel_rfl) (by kernel_rfl) ?_
  have hsp := Stay.spare s1 1
  have hx2 := hx1.keeps hsp
  have hnT : (spare s1 1).next = s1.next + 1 := spare_next _ _
  simp (config := { maxSteps := 1000000, implicitDefEqProofs := false }) (disch := omega) only [allW, allL, allB, Nat.sub_self, Nat.add_one_sub_one, Nat.reduceSub, cond_true, cond_false, oneOf, evalAll, partsA, optA, List.drop_zero, List.drop_succ_cons, List.cons_append, List.nil_append, Nat.reduceLT, Nat.reduceLeDiff, Nat.reduceEqDiff, Nat.reduceAdd, List.getD_cons_zero, List.getD_cons_succ, List.set_cons_zero, List.set_cons_succ, ↓reduceIte, if_true, if_false, beq_self_eq_true, ne_eq, eq_self, not_true_eq_false, not_false_eq_true, hn, h0, hlow, hx.self]
  refine (rnum_any rfl rfl (spare s1 1) x l 0 hx2 (by omega) hlen).mono ?_
  rintro _ s2 ⟨rfl, hs2⟩
  rw [hs2]; clear hs2 s2
  refine ⟨fun _ => LA.StayA.refl _ _, ?_⟩
  have hb8 := (l.getD 8 0).toNat_lt
  have hi8 := hx2.indexAddr (P := Try.prog) (k := .i64) (x := 8) Try.underlying31 szU8 (by omega) (by omega)
  rw [show (8 : Int).toNat = 8 from rfl] at hi8
  have hl8 := hx2.load1 (P := Try.prog) agU8 (k := 8) (by omega)
  rw [ofBytes_getD (by omega)] at hl8
  have hlow8 : LA.lowV A (some (elemPtr 1 x 8)) = true := LA.lowV_elemOld hx1 hAo (by omega)
  have hsl : ∀ k : Nat, k + 4 ≤ l.length → convA Try.prog (spare s1 1) 31 9 (cutS 1 x k (k + 4)) = some (.string ⟨(four l k).toArray⟩, spare s1 1) := fun k hk => by
    have := (hx2.cutB (lo := k) (hi := k + 4) (by omega) hk).str (P := Try.prog) Try.underlying31 Try.underlying9 Try.underlying5
    rw [show k + 4 - k = 4 by omega] at this
    exact this
  have q12 := hsl 12 (by omega)
  have q16 := hsl 16 (by omega)
  have q20 := hsl 20 (by omega)
  have s12 : sliceA Try.prog (spare s1 1) 31 x (some (.int .i64 12)) (some (.int .i64 16)) none = some (cutS 1 x 12 16) := hx2.sliceBoth Try.underlying31 szU8 (by omega) (by omega) (by omega)
  have s16 : sliceA Try.prog (spare s1 1) 31 x (some (.int .i64 16)) (some (.int .i64 20)) none = some (cutS 1 x 16 20) := hx2.sliceBoth Try.underlying31 szU8 (by omega) (by omega) (by omega)
  have s20 : sliceA Try.prog (spare s1 1) 31 x (some (.int .i64 20)) (some (.int .i64 24)) none = some (cutS 1 x 20 24) := hx2.sliceBoth Try.underlying31 szU8 (by omega) (by omega) (by omega)
  have hlc : ∀ lo hi, lo ≤ hi → hi ≤ l.length → LA.lowC A (some (cutS 1 x lo hi)) = true := fun lo hi h1 h2 => LA.lowC_of (LA.lowV_old (hx1.cutB h1 h2) hAo)
  have hvR : ∀ a b c x y z, valEq (.agg (headC a b c x y z ++ [Value.slice none 0 0]).toArray) (.agg (headC a b c x y z ++ [Value.slice none 0 0]).toArray) = true := fun a b c x y z => by simp [valEq, valEqL, valEq1, headC]
  have hvH : ∀ a b c x y z, valEq (.agg (headC a b c x y z).toArray) (.agg (headC a b c x y z).toArray) = true := fun a b c x y z => by simp [valEq, valEqL, valEq1, headC]
  simp (config := { maxSteps := 1000000, implicitDefEqProofs := false }) (disch := omega) only [allW, allL, allB, Nat.sub_self, Nat.add_one_sub_one, Nat.reduceSub, cond_true, cond_false, oneOf, evalAll, partsA, optA, List.drop_zero, List.drop_succ_cons, List.cons_append, List.nil_append, Nat.reduceLT, Nat.reduceLeDiff, Nat.reduceEqDiff, Nat.reduceAdd, List.getD_cons_zero, List.getD_cons_succ, List.set_cons_zero, List.set_cons_succ, ↓reduceIte, if_true, if_false, beq_self_eq_true, ne_eq, eq_self, not_true_eq_false, not_false_eq_true, hn, h0, hlow, hx.self, hi8, hl8, hlow8, valEq_elemPtr, conv_int Try.underlying5 Try.underlying3, wrapI, s12, s16, s20, q12, q16, q20, valEq_cutS, valEq_int, valEq_string, Try.underlying3, Try.underlying9, hlc 12 16 (by omega) (by omega), hlc 16 20 (by omega) (by omega), hlc 20 24 (by omega) (by omega), rbHead, rbProf1, rzProf, plProf, hvR, hvH]
  refine LB.smake_newPtr (by omega) ?_
  intro s3 ht3 hnx3 hot3
  have hn3 : s3.next = s1.next + 1 := by omega
  simp (config := { maxSteps := 1000000, implicitDefEqProofs := false }) (disch := omega) only [allW, allL, allB, Nat.sub_self, Nat.add_one_sub_one, Nat.reduceSub, cond_true, cond_false, oneOf, evalAll, partsA, optA, List.drop_zero, List.drop_succ_cons, List.cons_append, List.nil_append, Nat.reduceLT, Nat.reduceLeDiff, Nat.reduceEqDiff, Nat.reduceAdd, List.getD_cons_zero, List.getD_cons_succ, List.set_cons_zero, List.set_cons_succ, ↓reduceIte, if_true, if_false, beq_self_eq_true, ne_eq, eq_self, not_true_eq_false, not_false_eq_true, hn, hd8]
  refine LB.sstep_storeAll rszProf (by decide) ht3 rfl rfl rfl rfl (fun _ => by rw [hA]; exact decide_eq_false (by omega)) ?_
  intro s4 ht4 hnx4 hot4
  have hst4 : Stay s1.next s1 s4 := ⟨by omega, fun j hj => ((hot4 j (by omega)).trans (hot3 j (by omega))).trans (hsp.get j hj)⟩
  have hx4 := hx1.keeps hst4
  have htr4 := htr.keeps hst4
  have hstr4 := hst1.trans (hst4.weaken (by omega))
  have ht4 : Thing s4 s1.next [.int .i64 (num l 0), .int .i64 ((l.getD 8 0).toNat : Int), .int .i64 0, .string ⟨(four l 12).toArray⟩, .string ⟨(four l 16).toArray⟩, .string ⟨(four l 20).toArray⟩, .slice none 0 0] := ht4
  refine LB.scall_reframe (fun f => f.n = 211 ∧ f.get 0 = x ∧ f.get 2 = .pointer (some ⟨s.next, 0, some 8⟩) ∧ f.get 4 = .pointer (some ⟨s1.next, 0, some 8⟩)) ⟨by simp only [get_put, n_put, ↓reduceIte, Nat.reduceEqDiff, hn], by first | simp only [get_put, n_put, ↓reduceIte, Nat.reduceEqDiff, h0] | simp only [get_put, n_put, ↓reduceIte, Nat.reduceEqDiff], by first | simp only [get_put, n_put, ↓reduceIte, Nat.reduceEqDiff, h2] | simp only [get_put, n_put, ↓reduceIte, Nat.reduceEqDiff], by first | simp only [get_put, n_put, ↓reduceIte, Nat.reduceEqDiff, h4] | simp only [get_put, n_put, ↓reduceIte, Nat.reduceEqDiff]⟩ ?_
  rintro f ⟨hn, h0, h2, h4⟩
  have l4 := ht4.load (P := Try.prog) qagStr (off := 4) (c := 8) rfl (by simp)
  simp (config := { maxSteps := 1000000, implicitDefEqProofs := false }) (disch := omega) only [allW, allL, allB, Nat.sub_self, Nat.add_one_sub_one, Nat.reduceSub, cond_true, cond_false, oneOf, evalAll, partsA, optA, List.drop_zero, List.drop_succ_cons, List.cons_append, List.nil_append, Nat.reduceLT, Nat.reduceLeDiff, Nat.reduceEqDiff, Nat.reduceAdd, List.getD_cons_zero, List.getD_cons_succ, List.set_cons_zero, List.set_cons_succ, ↓reduceIte, if_true, if_false, beq_self_eq_true, ne_eq, eq_self, not_true_eq_false, not_false_eq_true, hn, h0, h4, rpf0, rhf4, l4]
  refine (rparts_any rfl s4 (four l 16)).mono ?_
  rintro _ _ ⟨rfl, rfl⟩
  simp (config := { maxSteps := 1000000, implicitDefEqProofs := false }) (disch := omega) only [allW, cond_true, cond_false, oneOf, evalAll, partsA, optA, List.drop_zero, List.drop_succ_cons, List.cons_append, List.nil_append, Nat.reduceLT, Nat.reduceLeDiff, Nat.reduceEqDiff, Nat.reduceAdd, List.getD_cons_zero, List.getD_cons_succ, List.set_cons_zero, List.set_cons_succ, ↓reduceIte, if_true, if_false, beq_self_eq_true, ne_eq, eq_self, not_true_eq_false, not_false_eq_true, hn, h0, h4, rpf0, rhf2]
  refine wstep_store szInt ht4 rfl (by simp) rfl ?_
  intro s5 ht5 hnx5 hot5
  have hx5 : Sees s5 1 x l.length (ofBytes l) := hx.keeps (hstr4.trans ⟨by omega, fun j hj => hot5 j (by have := hst4.next; omega)⟩)
  have htr5 := htr4.ofPut hnx5 hot5 (by omega)
  have hst5 : Stay s1.next s1 s5 := hst4.trans ⟨by omega, fun j hj => hot5 j (by omega)⟩
  have ht5 : Thing s5 s1.next (headIs l ++ [.slice none 0 0]) := ht5
  clear ht3 ht4 hot3 hot4 hot5 hx2 hx4 htr4
  simp (config := { maxSteps := 1000000, implicitDefEqProofs := false }) (disch := omega) only [allW, cond_true, cond_false, oneOf, evalAll, partsA, optA, List.drop_zero, List.drop_succ_cons, List.cons_append, List.nil_append, Nat.reduceLT, Nat.reduceLeDiff, Nat.reduceEqDiff, Nat.reduceAdd, List.getD_cons_zero, List.getD_cons_succ, List.set_cons_zero, List.set_cons_succ, ↓reduceIte, if_true, if_false, beq_self_eq_true, ne_eq, eq_self, not_true_eq_false, not_false_eq_true, hn, h0, h4, hx.self]
  refine (rnum_any rfl rfl s5 x l 128 hx5 (by omega) hlen).mono ?_
  rintro _ s6 ⟨rfl, hs6⟩
  rw [hs6]; clear hs6 s6
  refine wcall_cut (fun f' s' => s' = s5 ∧ f'.n = 211 ∧ f'.get 0 = x ∧ f'.get 2 = .pointer (some ⟨s.next, 0, some 8⟩) ∧ f'.get 4 = .pointer (some ⟨s1.next, 0, some 8⟩) ∧ f'.get 5 = .int .i64 (num l 128)) (by simp (config := { maxSteps := 1000000, implicitDefEqProofs := false }) (disch := omega) only [allW, allL, allB, Nat.sub_self, Nat.add_one_sub_one, Nat.reduceSub, cond_true, cond_false, oneOf, evalAll, partsA, optA, List.drop_zero, List.drop_succ_cons, List.cons_append, List.nil_append, Nat.reduceLT, Nat.reduceLeDiff, Nat.reduceEqDiff, Nat.reduceAdd, List.getD_cons_zero, List.getD_cons_succ, List.set_cons_zero, List.set_cons_succ, ↓reduceIte, if_true, if_false, beq_self_eq_true, ne_eq, eq_self, not_true_eq_false, not_false_eq_true, hn, h0, h2, h4]) ?_
  clear hn h0 h2 h4 f
  rintro f td ⟨htd, hn, h0, h2, h4, h5⟩
  rw [htd]; clear htd td
  rw [wthen_normal]
  have lq0 : loadA Try.prog s5 3 (.pointer (some ⟨s1.next, 0, some 8⟩)) = some (.int .i64 (num l 0)) := ht5.load agInt (off := 0) (c := 8) rfl (by simp [headIs, headC])
  have lq1 : loadA Try.prog s5 3 (.pointer (some ⟨s1.next, 1, some 8⟩)) = some (.int .i64 ((l.getD 8 0).toNat : Int)) := ht5.load agInt (off := 1) (c := 8) rfl (by simp [headIs, headC])
  have lq2 : loadA Try.prog s5 3 (.pointer (some ⟨s1.next, 2, some 8⟩)) = some (.int .i64 (parts (four l 16) : Int)) := ht5.load agInt (off := 2) (c := 8) rfl (by simp [headIs, headC])
  have lq3 : loadA Try.prog s5 9 (.pointer (some ⟨s1.next, 3, some 8⟩)) = some (.string ⟨(four l 12).toArray⟩) := ht5.load qagStr (off := 3) (c := 8) rfl (by simp [headIs, headC])
  have lq5 : loadA Try.prog s5 9 (.pointer (some ⟨s1.next, 5, some 8⟩)) = some (.string ⟨(four l 20).toArray⟩) := ht5.load qagStr (off := 5) (c := 8) rfl (by simp [headIs, headC])
  obtain ⟨cl, hcl⟩ : ∃ c, c = decide (four l 12 ∈ CLASSES) := ⟨_, rfl⟩
  refine wseq_cut (fun f' s' => s' = s5 ∧ f'.n = 211 ∧ f'.get 0 = x ∧ f'.get 2 = .pointer (some ⟨s.next, 0, some 8⟩) ∧ f'.get 4 = .pointer (some ⟨s1.next, 0, some 8⟩) ∧ f'.get 5 = .int .i64 (num l 128) ∧ f'.get 6 = .bool cl) ?_ ?_
  · have e1 := str_eql (P := Try.prog) (t := 9) (four l 12) [112, 114, 116, 114]
    have e2 := str_eql (P := Try.prog) (t := 9) (four l 12) [109, 110, 116, 114]
    have e3 := str_eql (P := Try.prog) (t := 9) (four l 12) [115, 99, 110, 114]
    have e4 := str_eql (P := Try.prog) (t := 9) (four l 12) [115, 112, 97, 99]
    by_cases d1 : four l 12 = [112, 114, 116, 114]
    · have : cl = true := by rw [hcl]; exact decide_eq_true (by rw [d1]; simp [CLASSES])
      subst this
      rw [decide_eq_true d1] at e1
      simp (config := { maxSteps := 1000000, implicitDefEqProofs := false }) (disch := omega) only [allW, cond_true, cond_false, oneOf, evalAll, partsA, optA, List.drop_zero, List.drop_succ_cons, List.cons_append, List.nil_append, Nat.reduceLT, Nat.reduceLeDiff, Nat.reduceEqDiff, Nat.reduceAdd, List.getD_cons_zero, List.getD_cons_succ, List.set_cons_zero, List.set_cons_succ, ↓reduceIte, if_true, if_false, beq_self_eq_true, ne_eq, eq_self, not_true_eq_false, not_false_eq_true, undef, hn, h0, h2, h4, h5, rpf0, rhf3, lq3, e1]
    rw [decide_eq_false d1] at e1
    by_cases d2 : four l 12 = [109, 110, 116, 114]
    · have : cl = true := by rw [hcl]; exact decide_eq_true (by rw [d2]; simp [CLASSES])
      subst this
      rw [decide_eq_true d2] at e2
      simp (config := { maxSteps := 1000000, implicitDefEqProofs := false }) (disch := omega) only [allW, cond_true, cond_false, oneOf, evalAll, partsA, optA, List.drop_zero, List.drop_succ_cons, List.cons_append, List.nil_append, Nat.reduceLT, Nat.reduceLeDiff, Nat.reduceEqDiff, Nat.reduceAdd, List.getD_cons_zero, List.getD_cons_succ, List.set_cons_zero, List.set_cons_succ, ↓reduceIte, if_true, if_false, beq_self_eq_true, ne_eq, eq_self, not_true_eq_false, not_false_eq_true, undef, hn, h0, h2, h4, h5, rpf0, rhf3, lq3, e1, e2]
    rw [decide_eq_false d2] at e2
    by_cases d3 : four l 12 = [115, 99, 110, 114]
    · have : cl = true := by rw [hcl]; exact decide_eq_true (by rw [d3]; simp [CLASSES])
      subst this
      rw [decide_eq_true d3] at e3
      simp (config := { maxSteps := 1000000, implicitDefEqProofs := false }) (disch := omega) only [allW, cond_true, cond_false, oneOf, evalAll, partsA, optA, List.drop_zero, List.drop_succ_cons, List.cons_append, List.nil_append, Nat.reduceLT, Nat.reduceLeDiff, Nat.reduceEqDiff, Nat.reduceAdd, List.getD_cons_zero, List.getD_cons_succ, List.set_cons_zero, List.set_cons_succ, ↓reduceIte, if_true, if_false, beq_self_eq_true, ne_eq, eq_self, not_true_eq_false, not_false_eq_true, undef, hn, h0, h2, h4, h5, rpf0, rhf3, lq3, e1, e2, e3]
    rw [decide_eq_false d3] at e3
    by_cases d4 : four l 12 = [115, 112, 97, 99]
    · have : cl = true := by rw [hcl]; exact decide_eq_true (by rw [d4]; simp [CLASSES])
      subst this
      rw [decide_eq_true d4] at e4
      simp (config := { maxSteps := 1000000, implicitDefEqProofs := false }) (disch := omega) only [allW, cond_true, cond_false, oneOf, evalAll, partsA, optA, List.drop_zero, List.drop_succ_cons, List.cons_append, List.nil_append, Nat.reduceLT, Nat.reduceLeDiff, Nat.reduceEqDiff, Nat.reduceAdd, List.getD_cons_zero, List.getD_cons_succ, List.set_cons_zero, List.set_cons_succ, ↓reduceIte, if_true, if_false, beq_self_eq_true, ne_eq, eq_self, not_true_eq_false, not_false_eq_true, undef, hn, h0, h2, h4, h5, rpf0, rhf3, lq3, e1, e2, e3, e4]
    · have : cl = false := by rw [hcl]; exact decide_eq_false (by simp [CLASSES, d1, d2, d3, d4])
      subst this
      rw [decide_eq_false d4] at e4
      simp (config := { maxSteps := 1000000, implicitDefEqProofs := false }) (disch := omega) only [allW, cond_true, cond_false, oneOf, evalAll, partsA, optA, List.drop_zero, List.drop_succ_cons, List.cons_append, List.nil_append, Nat.reduceLT, Nat.reduceLeDiff, Nat.reduceEqDiff, Nat.reduceAdd, List.getD_cons_zero, List.getD_cons_succ, List.set_cons_zero, List.set_cons_succ, ↓reduceIte, if_true, if_false, beq_self_eq_true, ne_eq, eq_self, not_true_eq_false, not_false_eq_true, undef, hn, h0, h2, h4, h5, rpf0, rhf3, lq3, e1, e2, e3, e4]
  clear hn h0 h2 h4 h5 f
  rintro f td ⟨htd, hn, h0, h2, h4, h5, h6⟩
  rw [htd]; clear htd td
  rw [wcode_seq]
  obtain ⟨ok, hok⟩ : ∃ c, c = (decide (okHead l) && decide (okMany l)) := ⟨_, rfl⟩
  have hmm : num l 128 < 4294967296 := bigOf_lt (four l 128) 4 (four_length (by omega))
  refine wseq_cut (fun f' s' => s' = s5 ∧ f'.n = 211 ∧ f'.get 0 = x ∧ f'.get 2 = .pointer (some ⟨s.next, 0, some 8⟩) ∧ f'.get 4 = .pointer (some ⟨s1.next, 0, some 8⟩) ∧ f'.get 5 = .int .i64 (num l 128) ∧ f'.get 121 = .bool (!ok)) ?_ ?_
  · have hx4 := hx5
    have e5 := str_neq (P := Try.prog) (t := 9) (four l 20) XYZ
    have e6 := str_neq (P := Try.prog) (t := 9) (four l 20) LAB
    have e7 := str_neq (P := Try.prog) (t := 9) (four l 36) ACSP
    have s36 : sliceA Try.prog s5 31 x (some (.int .i64 36)) (some (.int .i64 40)) none = some (cutS 1 x 36 40) := hx5.sliceBoth Try.underlying31 szU8 (by omega) (by omega) (by omega)
    have q36 : convA Try.prog s5 31 9 (cutS 1 x 36 40) = some (.string ⟨(four l 36).toArray⟩, s5) := (hx5.cutB (lo := 36) (hi := 40) (by omega) (by omega)).str (P := Try.prog) Try.underlying31 Try.underlying9 Try.underlying5
    by_cases g1 : (num l 0 : Int) = l.length
    rotate_left
    · have hbad : ok = false := by rw [hok, ← Bool.not_eq_true]; simp only [Bool.and_eq_true, decide_eq_true_eq]; exact fun ⟨h, h'⟩ => g1 (by have := h.1; omega)
      subst hbad
      simp (config := { maxSteps := 1000000, implicitDefEqProofs := false }) (disch := omega) only [allW, cond_true, cond_false, oneOf, evalAll, partsA, optA, List.drop_zero, List.drop_succ_cons, List.cons_append, List.nil_append, Nat.reduceLT, Nat.reduceLeDiff, Nat.reduceEqDiff, Nat.reduceAdd, List.getD_cons_zero, List.getD_cons_succ, List.set_cons_zero, List.set_cons_succ, ↓reduceIte, if_true, if_false, beq_self_eq_true, ne_eq, eq_self, not_true_eq_false, not_false_eq_true, undef, hn, h0, h2, h4, h5, h6, rpf0, rhf0, rhf1, rhf2, rhf5, hx4.lenA Try.underlying31, hx4.self, lq0, lq1, lq2, lq5, bin_neq, decide_true, eq_true g1]
    have g1' := eq_true g1
    by_cases g2 : ((l.getD 8 0).toNat : Int) < 2
    · have hbad : ok = false := by rw [hok, ← Bool.not_eq_true]; simp only [Bool.and_eq_true, decide_eq_true_eq]; exact fun ⟨h, h'⟩ => by have := h.2.1; omega
      subst hbad
      simp (config := { maxSteps := 1000000, implicitDefEqProofs := false }) (disch := omega) only [allW, cond_true, cond_false, oneOf, evalAll, partsA, optA, List.drop_zero, List.drop_succ_cons, List.cons_append, List.nil_append, Nat.reduceLT, Nat.reduceLeDiff, Nat.reduceEqDiff, Nat.reduceAdd, List.getD_cons_zero, List.getD_cons_succ, List.set_cons_zero, List.set_cons_succ, ↓reduceIte, if_true, if_false, beq_self_eq_true, ne_eq, eq_self, not_true_eq_false, not_false_eq_true, undef, hn, h0, h2, h4, h5, h6, rpf0, rhf0, rhf1, rhf2, rhf5, hx4.lenA Try.underlying31, hx4.self, lq0, lq1, lq2, lq5, bin_neq, g1', eq_true g2]
    have g2' := eq_false g2
    by_cases g3 : (4 : Int) < ((l.getD 8 0).toNat : Int)
    · have hbad : ok = false := by rw [hok, ← Bool.not_eq_true]; simp only [Bool.and_eq_true, decide_eq_true_eq]; exact fun ⟨h, h'⟩ => by have := h.2.2.1; omega
      subst hbad
      simp (config := { maxSteps := 1000000, implicitDefEqProofs := false }) (disch := omega) only [allW, cond_true, cond_false, oneOf, evalAll, partsA, optA, List.drop_zero, List.drop_succ_cons, List.cons_append, List.nil_append, Nat.reduceLT, Nat.reduceLeDiff, Nat.reduceEqDiff, Nat.reduceAdd, List.getD_cons_zero, List.getD_cons_succ, List.set_cons_zero, List.set_cons_succ, ↓reduceIte, if_true, if_false, beq_self_eq_true, ne_eq, eq_self, not_true_eq_false, not_false_eq_true, undef, hn, h0, h2, h4, h5, h6, rpf0, rhf0, rhf1, rhf2, rhf5, hx4.lenA Try.underlying31, hx4.self, lq0, lq1, lq2, lq5, bin_neq, g1', g2', eq_true g3]
    have g3' := eq_false g3
    by_cases g4 : four l 12 ∈ CLASSES
    rotate_left
    · rw [decide_eq_false g4] at hcl
      subst hcl
      have hbad : ok = false := by rw [hok, ← Bool.not_eq_true]; simp only [Bool.and_eq_true, decide_eq_true_eq]; exact fun ⟨h, h'⟩ => g4 h.2.2.2.1
      subst hbad
      simp (config := { maxSteps := 1000000, implicitDefEqProofs := false }) (disch := omega) only [allW, cond_true, cond_false, oneOf, evalAll, partsA, optA, List.drop_zero, List.drop_succ_cons, List.cons_append, List.nil_append, Nat.reduceLT, Nat.reduceLeDiff, Nat.reduceEqDiff, Nat.reduceAdd, List.getD_cons_zero, List.getD_cons_succ, List.set_cons_zero, List.set_cons_succ, ↓reduceIte, if_true, if_false, beq_self_eq_true, ne_eq, eq_self, not_true_eq_false, not_false_eq_true, undef, hn, h0, h2, h4, h5, h6, rpf0, rhf0, rhf1, rhf2, rhf5, hx4.lenA Try.underlying31, hx4.self, lq0, lq1, lq2, lq5, bin_neq, g1', g2', g3']
    rw [decide_eq_true g4] at hcl
    subst hcl
    by_cases g5 : (parts (four l 16) : Int) = 0
    · have hbad : ok = false := by rw [hok, ← Bool.not_eq_true]; simp only [Bool.and_eq_true, decide_eq_true_eq]; exact fun ⟨h, h'⟩ => by have := h.2.2.2.2.1; omega
      subst hbad
      simp (config := { maxSteps := 1000000, implicitDefEqProofs := false }) (disch := omega) only [allW, cond_true, cond_false, oneOf, evalAll, partsA, optA, List.drop_zero, List.drop_succ_cons, List.cons_append, List.nil_append, Nat.reduceLT, Nat.reduceLeDiff, Nat.reduceEqDiff, Nat.reduceAdd, List.getD_cons_zero, List.getD_cons_succ, List.set_cons_zero, List.set_cons_succ, ↓reduceIte, if_true, if_false, beq_self_eq_true, ne_eq, eq_self, not_true_eq_false, not_false_eq_true, undef, hn, h0, h2, h4, h5, h6, rpf0, rhf0, rhf1, rhf2, rhf5, hx4.lenA Try.underlying31, hx4.self, lq0, lq1, lq2, lq5, bin_neq, g1', g2', g3', eq_true g5]
    have g5' := eq_false g5
    by_cases g6 : four l 20 = XYZ ∨ four l 20 = LAB
    rotate_left
    · rw [decide_eq_true (p := four l 20 ≠ XYZ) (fun h => g6 (.inl h))] at e5
      rw [decide_eq_true (p := four l 20 ≠ LAB) (fun h => g6 (.inr h))] at e6
      simp only [XYZ, LAB] at e5 e6
      have hbad : ok = false := by rw [hok, ← Bool.not_eq_true]; simp only [Bool.and_eq_true, decide_eq_true_eq]; exact fun ⟨h, h'⟩ => g6 h.2.2.2.2.2.1
      subst hbad
      simp (config := { maxSteps := 1000000, implicitDefEqProofs := false }) (disch := omega) only [allW, cond_true, cond_false, oneOf, evalAll, partsA, optA, List.drop_zero, List.drop_succ_cons, List.cons_append, List.nil_append, Nat.reduceLT, Nat.reduceLeDiff, Nat.reduceEqDiff, Nat.reduceAdd, List.getD_cons_zero, List.getD_cons_succ, List.set_cons_zero, List.set_cons_succ, ↓reduceIte, if_true, if_false, beq_self_eq_true, ne_eq, eq_self, not_true_eq_false, not_false_eq_true, undef, hn, h0, h2, h4, h5, h6, rpf0, rhf0, rhf1, rhf2, rhf5, hx4.lenA Try.underlying31, hx4.self, lq0, lq1, lq2, lq5, bin_neq, g1', g2', g3', g5', e5, e6]
    obtain ⟨w1, w2, hw5, hw6, hw12⟩ : ∃ w1 w2, decide (four l 20 ≠ XYZ) = w1 ∧ decide (four l 20 ≠ LAB) = w2 ∧ (w1 = false ∨ w1 = true ∧ w2 = false) := ⟨_, _, rfl, rfl, by
      rcases g6 with h | h
      · left; rw [h]; rfl
      · by_cases h2 : four l 20 = XYZ
        · left; rw [h2]; rfl
        · right; exact ⟨decide_eq_true h2, by rw [h]; rfl⟩⟩
    rw [hw5] at e5
    rw [hw6] at e6
    clear hw5 hw6
    simp only [XYZ, LAB] at e5 e6
    have g6' : binA Try.prog .neq 9 (.string ⟨(four l 36).toArray⟩) (.string ⟨#[97, 99, 115, 112]⟩) = some (.bool (decide (four l 36 ≠ ACSP))) := e7
    by_cases g7 : four l 36 = ACSP
    rotate_left
    · rw [decide_eq_true g7] at g6'
      rcases hw12 with rfl | ⟨rfl, rfl⟩
      · have hbad : ok = false := by rw [hok, ← Bool.not_eq_true]; simp only [Bool.and_eq_true, decide_eq_true_eq]; exact fun ⟨h, h'⟩ => g7 h.2.2.2.2.2.2
        subst hbad
        simp (config := { maxSteps := 1000000, implicitDefEqProofs := false }) (disch := omega) only [allW, cond_true, cond_false, oneOf, evalAll, partsA, optA, List.drop_zero, List.drop_succ_cons, List.cons_append, List.nil_append, Nat.reduceLT, Nat.reduceLeDiff, Nat.reduceEqDiff, Nat.reduceAdd, List.getD_cons_zero, List.getD_cons_succ, List.set_cons_zero, List.set_cons_succ, ↓reduceIte, if_true, if_false, beq_self_eq_true, ne_eq, eq_self, not_true_eq_false, not_false_eq_true, undef, hn, h0, h2, h4, h5, h6, rpf0, rhf0, rhf1, rhf2, rhf5, hx4.lenA Try.underlying31, hx4.self, lq0, lq1, lq2, lq5, bin_neq, g1', g2', g3', g5', e5, s36, q36, g6']
      · have hbad : ok = false := by rw [hok, ← Bool.not_eq_true]; simp only [Bool.and_eq_true, decide_eq_true_eq]; exact fun ⟨h, h'⟩ => g7 h.2.2.2.2.2.2
        subst hbad
        simp (config := { maxSteps := 1000000, implicitDefEqProofs := false }) (disch := omega) only [allW, cond_true, cond_false, oneOf, evalAll, partsA, optA, List.drop_zero, List.drop_succ_cons, List.cons_append, List.nil_append, Nat.reduceLT, Nat.reduceLeDiff, Nat.reduceEqDiff, Nat.reduceAdd, List.getD_cons_zero, List.getD_cons_succ, List.set_cons_zero, List.set_cons_succ, ↓reduceIte, if_true, if_false, beq_self_eq_true, ne_eq, eq_self, not_true_eq_false, not_false_eq_true, undef, hn, h0, h2, h4, h5, h6, rpf0, rhf0, rhf1, rhf2, rhf5, hx4.lenA Try.underlying31, hx4.self, lq0, lq1, lq2, lq5, bin_neq, g1', g2', g3', g5', e5, e6, s36, q36, g6']
    rw [decide_eq_false (not_not_intro g7)] at g6'
    by_cases g8 : (100 : Int) < (num l 128 : Int)
    · rcases hw12 with rfl | ⟨rfl, rfl⟩
      · have hbad : ok = false := by rw [hok, ← Bool.not_eq_true]; simp only [Bool.and_eq_true, decide_eq_true_eq]; exact fun ⟨h, h'⟩ => by have := h'.1; omega
        subst hbad
        simp (config := { maxSteps := 1000000, implicitDefEqProofs := false }) (disch := omega) only [allW, cond_true, cond_false, oneOf, evalAll, partsA, optA, List.drop_zero, List.drop_succ_cons, List.cons_append, List.nil_append, Nat.reduceLT, Nat.reduceLeDiff, Nat.reduceEqDiff, Nat.reduceAdd, List.getD_cons_zero, List.getD_cons_succ, List.set_cons_zero, List.set_cons_succ, ↓reduceIte, if_true, if_false, beq_self_eq_true, ne_eq, eq_self, not_true_eq_false, not_false_eq_true, undef, hn, h0, h2, h4, h5, h6, rpf0, rhf0, rhf1, rhf2, rhf5, hx4.lenA Try.underlying31, hx4.self, lq0, lq1, lq2, lq5, bin_neq, g1', g2', g3', g5', e5, s36, q36, g6', eq_true g8]
      · have hbad : ok = false := by rw [hok, ← Bool.not_eq_true]; simp only [Bool.and_eq_true, decide_eq_true_eq]; exact fun ⟨h, h'⟩ => by have := h'.1; omega
        subst hbad
        simp (config := { maxSteps := 1000000, implicitDefEqProofs := false }) (disch := omega) only [allW, cond_true, cond_false, oneOf, evalAll, partsA, optA, List.drop_zero, List.drop_succ_cons, List.cons_append, List.nil_append, Nat.reduceLT, Nat.reduceLeDiff, Nat.reduceEqDiff, Nat.reduceAdd, List.getD_cons_zero, List.getD_cons_succ, List.set_cons_zero, List.set_cons_succ, ↓reduceIte, if_true, if_false, beq_self_eq_true, ne_eq, eq_self, not_true_eq_false, not_false_eq_true, undef, hn, h0, h2, h4, h5, h6, rpf0, rhf0, rhf1, rhf2, rhf5, hx4.lenA Try.underlying31, hx4.self, lq0, lq1, lq2, lq5, bin_neq, g1', g2', g3', g5', e5, e6, s36, q36, g6', eq_true g8]
    have g8' := eq_false g8
    by_cases g9 : (l.length : Int) < 132 + 12 * (num l 128 : Int)
    · rcases hw12 with rfl | ⟨rfl, rfl⟩
      · have hbad : ok = false := by rw [hok, ← Bool.not_eq_true]; simp only [Bool.and_eq_true, decide_eq_true_eq]; exact fun ⟨h, h'⟩ => by have := h'.2; omega
        subst hbad
        simp (config := { maxSteps := 1000000, implicitDefEqProofs := false }) (disch := omega) only [allW, cond_true, cond_false, oneOf, evalAll, partsA, optA, List.drop_zero, List.drop_succ_cons, List.cons_append, List.nil_append, Nat.reduceLT, Nat.reduceLeDiff, Nat.reduceEqDiff, Nat.reduceAdd, List.getD_cons_zero, List.getD_cons_succ, List.set_cons_zero, List.set_cons_succ, ↓reduceIte, if_true, if_false, beq_self_eq_true, ne_eq, eq_self, not_true_eq_false, not_false_eq_true, undef, hn, h0, h2, h4, h5, h6, rpf0, rhf0, rhf1, rhf2, rhf5, hx4.lenA Try.underlying31, hx4.self, lq0, lq1, lq2, lq5, bin_neq, g1', g2', g3', g5', e5, s36, q36, g6', g8', wrapI, eq_true g9]
      · have hbad : ok = false := by rw [hok, ← Bool.not_eq_true]; simp only [Bool.and_eq_true, decide_eq_true_eq]; exact fun ⟨h, h'⟩ => by have := h'.2; omega
        subst hbad
        simp (config := { maxSteps := 1000000, implicitDefEqProofs := false }) (disch := omega) only [allW, cond_true, cond_false, oneOf, evalAll, partsA, optA, List.drop_zero, List.drop_succ_cons, List.cons_append, List.nil_append, Nat.reduceLT, Nat.reduceLeDiff, Nat.reduceEqDiff, Nat.reduceAdd, List.getD_cons_zero, List.getD_cons_succ, List.set_cons_zero, List.set_cons_succ, ↓reduceIte, if_true, if_false, beq_self_eq_true, ne_eq, eq_self, not_true_eq_false, not_false_eq_true, undef, hn, h0, h2, h4, h5, h6, rpf0, rhf0, rhf1, rhf2, rhf5, hx4.lenA Try.underlying31, hx4.self, lq0, lq1, lq2, lq5, bin_neq, g1', g2', g3', g5', e5, e6, s36, q36, g6', g8', wrapI, eq_true g9]
    have g9' := eq_false g9
    have hgood : ok = true := by
      rw [hok, decide_eq_true (p := okHead l) ⟨by omega, by omega, by omega, g4, by omega, g6, g7⟩, decide_eq_true (p := okMany l) ⟨by omega, by omega⟩]; rfl
    subst hgood
    rcases hw12 with rfl | ⟨rfl, rfl⟩
    · simp (config := { maxSteps := 1000000, implicitDefEqProofs := false }) (disch := omega) only [allW, cond_true, cond_false, oneOf, evalAll, partsA, optA, List.drop_zero, List.drop_succ_cons, List.cons_append, List.nil_append, Nat.reduceLT, Nat.reduceLeDiff, Nat.reduceEqDiff, Nat.reduceAdd, List.getD_cons_zero, List.getD_cons_succ, List.set_cons_zero, List.set_cons_succ, ↓reduceIte, if_true, if_false, beq_self_eq_true, ne_eq, eq_self, not_true_eq_false, not_false_eq_true, undef, hn, h0, h2, h4, h5, h6, rpf0, rhf0, rhf1, rhf2, rhf5, hx4.lenA Try.underlying31, hx4.self, lq0, lq1, lq2, lq5, bin_neq, g1', g2', g3', g5', e5, s36, q36, g6', g8', wrapI, g9']
    · simp (config := { maxSteps := 1000000, implicitDefEqProofs := false }) (disch := omega) only [allW, cond_true, cond_false, oneOf, evalAll, partsA, optA, List.drop_zero, List.drop_succ_cons, List.cons_append, List.nil_append, Nat.reduceLT, Nat.reduceLeDiff, Nat.reduceEqDiff, Nat.reduceAdd, List.getD_cons_zero, List.getD_cons_succ, List.set_cons_zero, List.set_cons_succ, ↓reduceIte, if_true, if_false, beq_self_eq_true, ne_eq, eq_self, not_true_eq_false, not_false_eq_true, undef, hn, h0, h2, h4, h5, h6, rpf0, rhf0, rhf1, rhf2, rhf5, hx4.lenA Try.underlying31, hx4.self, lq0, lq1, lq2, lq5, bin_neq, g1', g2', g3', g5', e5, e6, s36, q36, g6', g8', wrapI, g9']
  clear hn h0 h2 h4 h5 h6 f lq0 lq1 lq2 lq3 lq5
  rintro f td ⟨htd, hn, h0, h2, h4, h5, h121⟩
  rw [htd]; clear htd td
  have hstr5 : Stay s.next s s5 := hst1.trans (hst5.weaken (by omega))
  have hn5 := hst5.next
  cases ok with
  | false =>
    have c2 : ¬ (okHead l ∧ okMany l) := by
      intro ⟨a, b⟩
      rw [decide_eq_true a, decide_eq_true b] at hok; cases hok
    have htr := htr5
    have hstr := hstr5
    simp (config := { maxSteps := 1000000, implicitDefEqProofs := false }) (disch := omega) only [allW, allL, allB, Nat.sub_self, Nat.add_one_sub_one, Nat.reduceSub, cond_true, cond_false, oneOf, evalAll, partsA, optA, List.drop_zero, List.drop_succ_cons, List.cons_append, List.nil_append, Nat.reduceLT, Nat.reduceLeDiff, Nat.reduceEqDiff, Nat.reduceAdd, List.getD_cons_zero, List.getD_cons_succ, List.set_cons_zero, List.set_cons_succ, ↓reduceIte, if_true, if_false, beq_self_eq_true, ne_eq, eq_self, not_true_eq_false, not_false_eq_true, hn, h2, h121, Bool.not_false, rbProf0]
    refine wstep_storeAll rszProf (by decide) htr rfl rfl rfl rfl ?_
    intro s9 ht9 hnx9 hot9
    have l9 := Thing.loadAll (P := Try.prog) (cs := zeroP) ragProf rszProf ht9 (c := 8) rfl
    simp (config := { maxSteps := 1000000, implicitDefEqProofs := false }) (disch := omega) only [allW, wfn_ret, wfn_normal, cond_true, cond_false, oneOf, evalAll, partsA, optA, List.drop_zero, List.drop_succ_cons, List.cons_append, List.nil_append, Nat.reduceLT, Nat.reduceLeDiff, Nat.reduceEqDiff, Nat.reduceAdd, List.getD_cons_zero, List.getD_cons_succ, List.set_cons_zero, List.set_cons_succ, ↓reduceIte, if_true, if_false, beq_self_eq_true, ne_eq, eq_self, not_true_eq_false, not_false_eq_true, hn, h2, l9, resultsA_cell, Try.results11]
    have hr : readP l = (4, []) := by exact readP_bad c1' c2
    refine ⟨zeroP, by rw [hr], ⟨fun _ => rfl, fun h => by rw [hr] at h; exact absurd h (by decide)⟩, hstr.trans ⟨by omega, fun j hj => hot9 j (by omega)⟩⟩
  | true =>
  have c2 : okHead l ∧ okMany l := by
    have := hok.symm
    rw [Bool.and_eq_true, decide_eq_true_eq, decide_eq_true_eq] at this
    exact this
  obtain ⟨many, hmany⟩ : ∃ m, m = num l 128 := ⟨_, rfl⟩
  rw [← hmany] at h5
  have hm100 : many ≤ 100 := by rw [hmany]; exact c2.2.1
  have hmlen : 132 + 12 * many ≤ l.length := by rw [hmany]; exact c2.2.2
  simp (config := { maxSteps := 1000000, implicitDefEqProofs := false }) (disch := omega) only [allW, cond_true, cond_false, oneOf, evalAll, partsA, optA, List.drop_zero, List.drop_succ_cons, List.cons_append, List.nil_append, Nat.reduceLT, Nat.reduceLeDiff, Nat.reduceEqDiff, Nat.reduceAdd, List.getD_cons_zero, List.getD_cons_succ, List.set_cons_zero, List.set_cons_succ, ↓reduceIte, if_true, if_false, beq_self_eq_true, ne_eq, eq_self, not_true_eq_false, not_false_eq_true, hn, h0, h2, h4, h5, h121, Bool.not_true]
  refine Comes.loopAt (fun z f s6 => ∃ (i : Nat) (T : List (List UInt8 × Int × Int)) (y : Value), z = many - i ∧ i ≤ many ∧ tagsTo l many i = some T ∧ Own s6 3 y T.length (tagsC T) ∧ Fresh s5.next y ∧ Thing s6 s1.next (headIs l ++ [y]) ∧ Thing s6 s.next zeroP ∧ Stay s.next s s6 ∧ s5.next ≤ s6.next ∧ f.n = 211 ∧ f.get 0 = x ∧ f.get 2 = .pointer (some ⟨s.next, 0, some 8⟩) ∧ f.get 4 = .pointer (some ⟨s1.next, 0, some 8⟩) ∧ f.get 5 = .int .i64 (many : Nat) ∧ f.get 7 = .bool (has T DESC) ∧ f.get 8 = .bool (has T WTPT) ∧ f.get 9 = .int .i64 (i : Nat))
    ⟨0, [], .slice none 0 0, rfl, by omega, rfl, .nil, Fresh.nil _, ht5, htr5, hstr5, Nat.le_refl _, by simp only [get_put, n_put, ↓reduceIte, Nat.reduceEqDiff, hn], by simp only [get_put, n_put, ↓reduceIte, Nat.reduceEqDiff, h0], by simp only [get_put, n_put, ↓reduceIte, Nat.reduceEqDiff, h2], by simp only [get_put, n_put, ↓reduceIte, Nat.reduceEqDiff, h4], by simp only [get_put, n_put, ↓reduceIte, Nat.reduceEqDiff, h5], by simp only [get_put, n_put, ↓reduceIte, Nat.reduceEqDiff]; rfl, by simp only [get_put, n_put, ↓reduceIte, Nat.reduceEqDiff]; rfl, by simp only [get_put, n_put, ↓reduceIte, Nat.reduceEqDiff]; rfl⟩ ?_
  clear hn h0 h2 h4 h5 h121 f ht5 htr5 hstr5 hx5 hstr htr hx1
  rintro z f s6 ⟨i, T, y, rfl, hi, hT, hy, hyF, htp, htr, hstr, hn6, hn, h0, h2, h4, h5, h7, h8, h9⟩
  have hTl := tagsTo_length hT
  by_cases hlt : i < many
  · have d1 : (i : Int) < (many : Int) := by omega
    have k0 : 132 + 12 * (i : Int) = ((132 + 12 * i : Nat) : Int) := by omega
    simp (config := { maxSteps := 1000000, implicitDefEqProofs := false }) (disch := omega) only [allW, allL, allB, Nat.sub_self, Nat.add_one_sub_one, Nat.reduceSub, cond_true, cond_false, oneOf, evalAll, partsA, optA, List.drop_zero, List.drop_succ_cons, List.cons_append, List.nil_append, Nat.reduceLT, Nat.reduceLeDiff, Nat.reduceEqDiff, Nat.reduceAdd, List.getD_cons_zero, List.getD_cons_succ, List.set_cons_zero, List.set_cons_succ, ↓reduceIte, if_true, if_false, beq_self_eq_true, ne_eq, eq_self, not_true_eq_false, not_false_eq_true, hn, h0, h2, h4, h5, h7, h8, h9, eq_true d1, wrapI, k0]
    obtain ⟨k, hk⟩ : ∃ k, k = 132 + 12 * i := ⟨_, rfl⟩
    rw [← hk]
    have k4 : (k : Int) + 4 = ((k + 4 : Nat) : Int) := by omega
    have k8 : (k : Int) + 8 = ((k + 8 : Nat) : Int) := by omega
    obtain ⟨A, hA⟩ : ∃ A : Nat → Bool, A = fun j => decide (j < s6.next) := ⟨_, rfl⟩
    have hAl : ∀ j, A j = true → j < s6.next := by
      intro j h
      rw [hA] at h
      exact of_decide_eq_true h
    have hAo : ∀ j, j < s6.next → A j = true := fun j h => by rw [hA]; exact decide_eq_true h
    have hx6 := hx.keeps hstr
    have hlow : LA.lowV A (some x) = true := LA.lowV_old hx6 hAo
    refine LB.Drawn.looseK A hAl 3 1 (by kernel_rfl) (by kernel_rfl) ?_
    have hsp := Stay.spare s6 1
    have hx7 := hx6.keeps hsp
    have hnT : (spare s6 1).next = s6.next + 1 := spare_next _ _
    have hsk : sliceA Try.prog (spare s6 1) 31 x (some (.int .i64 (k : Nat))) (some (.int .i64 (k + 4 : Nat))) none = some (cutS 1 x k (k + 4)) := hx7.sliceBoth Try.underlying31 szU8 (by omega) (by omega) (by omega)
    have hqk : convA Try.prog (spare s6 1) 31 9 (cutS 1 x k (k + 4)) = some (.string ⟨(four l k).toArray⟩, spare s6 1) := by
      have := (hx7.cutB (lo := k) (hi := k + 4) (by omega) (by omega)).str (P := Try.prog) Try.underlying31 Try.underlying9 Try.underlying5
      rw [show k + 4 - k = 4 by omega] at this
      exact this
    have hlc : LA.lowC A (some (cutS 1 x k (k + 4))) = true := LA.lowC_of (LA.lowV_old (hx6.cutB (by omega) (by omega)) hAo)
    have hvT : ∀ t, valEq (.agg (tagC t).toArray) (.agg (tagC t).toArray) = true := fun t => by simp [valEq, valEqL, valEq1, tagC]
    simp (config := { maxSteps := 1000000, implicitDefEqProofs := false }) (disch := omega) only [allW, allL, allB, Nat.sub_self, Nat.add_one_sub_one, Nat.reduceSub, cond_true, cond_false, oneOf, evalAll, partsA, optA, List.drop_zero, List.drop_succ_cons, List.cons_append, List.nil_append, Nat.reduceLT, Nat.reduceLeDiff, Nat.reduceEqDiff, Nat.reduceAdd, List.getD_cons_zero, List.getD_cons_succ, List.set_cons_zero, List.set_cons_succ, ↓reduceIte, if_true, if_false, beq_self_eq_true, ne_eq, eq_self, not_true_eq_false, not_false_eq_true, hn, h0, h2, h4, h5, h7, h8, h9, hlow, hx6.self, wrapI, k4, hsk, hqk, hlc, valEq_cutS, valEq_int, valEq_string, Try.underlying3, Try.underlying9]
    refine (rnum_any rfl rfl (spare s6 1) x l (k + 4) hx7 (by omega) hlen).mono ?_
    rintro _ s7 ⟨rfl, hs7⟩
    rw [hs7]; clear hs7 s7
    refine ⟨fun _ => LA.StayA.refl _ _, ?_⟩
    simp (config := { maxSteps := 1000000, implicitDefEqProofs := false }) (disch := omega) only [allW, allL, allB, Nat.sub_self, Nat.add_one_sub_one, Nat.reduceSub, cond_true, cond_false, oneOf, evalAll, partsA, optA, List.drop_zero, List.drop_succ_cons, List.cons_append, List.nil_append, Nat.reduceLT, Nat.reduceLeDiff, Nat.reduceEqDiff, Nat.reduceAdd, List.getD_cons_zero, List.getD_cons_succ, List.set_cons_zero, List.set_cons_succ, ↓reduceIte, if_true, if_false, beq_self_eq_true, ne_eq, eq_self, not_true_eq_false, not_false_eq_true, hn, h0, h2, h4, h5, h7, h8, h9, hlow, hx6.self, wrapI, k8, valEq_int, valEq_string]
    refine (rnum_any rfl rfl (spare s6 1) x l (k + 8) hx7 (by omega) hlen).mono ?_
    rintro _ s7 ⟨rfl, hs7⟩
    rw [hs7]; clear hs7 s7
    refine ⟨fun _ => LA.StayA.refl _ _, ?_⟩
    obtain ⟨at', hat⟩ : ∃ a, a = num l (k + 4) := ⟨_, rfl⟩
    obtain ⟨sz', hsz⟩ : ∃ a, a = num l (k + 8) := ⟨_, rfl⟩
    obtain ⟨nm, hnm⟩ : ∃ a, a = four l k := ⟨_, rfl⟩
    have m1 : at' < 4294967296 := by rw [hat]; exact bigOf_lt (four l (k + 4)) 4 (four_length (by omega))
    have m2 : sz' < 4294967296 := by rw [hsz]; exact bigOf_lt (four l (k + 8)) 4 (four_length (by omega))
    have htA : tagAt l i = (nm, (at' : Int), (sz' : Int)) := by rw [hat, hsz, hnm, hk]; rfl
    rw [← hat, ← hsz, ← hnm]
    have hd4 : (tagC ([], 0, 0)).length + 1 = 4 := rfl
    simp (config := { maxSteps := 1000000, implicitDefEqProofs := false }) (disch := omega) only [allW, allL, allB, Nat.sub_self, Nat.add_one_sub_one, Nat.reduceSub, cond_true, cond_false, oneOf, evalAll, partsA, optA, List.drop_zero, List.drop_succ_cons, List.cons_append, List.nil_append, Nat.reduceLT, Nat.reduceLeDiff, Nat.reduceEqDiff, Nat.reduceAdd, List.getD_cons_zero, List.getD_cons_succ, List.set_cons_zero, List.set_cons_succ, ↓reduceIte, if_true, if_false, beq_self_eq_true, ne_eq, eq_self, not_true_eq_false, not_false_eq_true, hn, h0, h2, h4, h5, h7, h8, h9, rbTag, hvT, rzTag, plTag]
    refine LB.smake_newPtr (by omega) ?_
    intro s8 ht8 hnx8 hot8
    simp (config := { maxSteps := 1000000, implicitDefEqProofs := false }) (disch := omega) only [allW, allL, allB, Nat.sub_self, Nat.add_one_sub_one, Nat.reduceSub, cond_true, cond_false, oneOf, evalAll, partsA, optA, List.drop_zero, List.drop_succ_cons, List.cons_append, List.nil_append, Nat.reduceLT, Nat.reduceLeDiff, Nat.reduceEqDiff, Nat.reduceAdd, List.getD_cons_zero, List.getD_cons_succ, List.set_cons_zero, List.set_cons_succ, ↓reduceIte, if_true, if_false, beq_self_eq_true, ne_eq, eq_self, not_true_eq_false, not_false_eq_true, hn, hd4]
    refine LB.sstep_storeAll rszTag (by decide) ht8 rfl rfl rfl rfl (fun _ => by rw [hA]; exact decide_eq_false (by omega)) ?_
    intro s9 ht9 hnx9 hot9
    have hst9 : Stay s6.next s6 s9 := ⟨by omega, fun j hj => ((hot9 j (by omega)).trans (hot8 j (by omega))).trans (hsp.get j hj)⟩
    have hx9 := hx6.keeps hst9
    have hy9 := hy.keeps hst9
    have htp9 := htp.keeps hst9
    have htr9 := htr.keeps hst9
    have hstr9 := hstr.trans (hst9.weaken (by have := hstr.next; omega))
    have hn9 := hst9.next
    have ht9 : Thing s9 s6.next [.string ⟨nm.toArray⟩, .int .i64 at', .int .i64 sz'] := ht9
    clear ht8 hot8 hot9 hx7 hsk hqk hlc hsp htp htr hstr hx6 hlow hat hsz hnm
    refine LB.scall_reframe (fun f => f.n = 211 ∧ f.get 0 = x ∧ f.get 2 = .pointer (some ⟨s.next, 0, some 8⟩) ∧ f.get 4 = .pointer (some ⟨s1.next, 0, some 8⟩) ∧ f.get 5 = .int .i64 (many : Nat) ∧ f.get 7 = .bool (has T DESC) ∧ f.get 8 = .bool (has T WTPT) ∧ f.get 9 = .int .i64 (i : Nat) ∧ f.get 11 = .pointer (some ⟨s6.next, 0, some 4⟩)) ⟨by simp only [get_put, n_put, ↓reduceIte, Nat.reduceEqDiff, hn], by first | simp only [get_put, n_put, ↓reduceIte, Nat.reduceEqDiff, h0] | simp only [get_put, n_put, ↓reduceIte, Nat.reduceEqDiff], by first | simp only [get_put, n_put, ↓reduceIte, Nat.reduceEqDiff, h2] | simp only [get_put, n_put, ↓reduceIte, Nat.reduceEqDiff], by first | simp only [get_put, n_put, ↓reduceIte, Nat.reduceEqDiff, h4] | simp only [get_put, n_put, ↓reduceIte, Nat.reduceEqDiff], by first | simp only [get_put, n_put, ↓reduceIte, Nat.reduceEqDiff, h5] | simp only [get_put, n_put, ↓reduceIte, Nat.reduceEqDiff], by first | simp only [get_put, n_put, ↓reduceIte, Nat.reduceEqDiff, h7] | simp only [get_put, n_put, ↓reduceIte, Nat.reduceEqDiff], by first | simp only [get_put, n_put, ↓reduceIte, Nat.reduceEqDiff, h8] | simp only [get_put, n_put, ↓reduceIte, Nat.reduceEqDiff], by first | simp only [get_put, n_put, ↓reduceIte, Nat.reduceEqDiff, h9] | simp only [get_put, n_put, ↓reduceIte, Nat.reduceEqDiff], by first | simp only [get_put, n_put, ↓reduceIte, Nat.reduceEqDiff, h11] | simp only [get_put, n_put, ↓reduceIte, Nat.reduceEqDiff]⟩ ?_
    rintro f ⟨hn, h0, h2, h4, h5, h7, h8, h9, h11⟩
    have lt0 := ht9.load (P := Try.prog) qagStr (off := 0) (c := 4) rfl (by simp)
    have lt1 := ht9.load (P := Try.prog) agInt (off := 1) (c := 4) rfl (by simp)
    have lt2 := ht9.load (P := Try.prog) agInt (off := 2) (c := 4) rfl (by simp)
    by_cases b1 : (at' : Int) < 132 + 12 * (many : Int)
    · have hno : ¬ okTag l many T (tagAt l i) := fun h => by rw [htA] at h; have h1 : 132 + 12 * (many : Int) ≤ (at' : Int) := h.1; omega
      have htr := htr9
      have hstr := hstr9
      simp (config := { maxSteps := 1000000, implicitDefEqProofs := false }) (disch := omega) only [allW, allL, allB, Nat.sub_self, Nat.add_one_sub_one, Nat.reduceSub, cond_true, cond_false, oneOf, evalAll, partsA, optA, List.drop_zero, List.drop_succ_cons, List.cons_append, List.nil_append, Nat.reduceLT, Nat.reduceLeDiff, Nat.reduceEqDiff, Nat.reduceAdd, List.getD_cons_zero, List.getD_cons_succ, List.set_cons_zero, List.set_cons_succ, ↓reduceIte, if_true, if_false, beq_self_eq_true, ne_eq, eq_self, not_true_eq_false, not_false_eq_true, hn, h2, undef, h0, h4, h5, h11, rtf1, rtf2, lt1, lt2, wrapI, eq_true b1, rbProf0]
      refine wstep_storeAll rszProf (by decide) htr rfl rfl rfl rfl ?_
      intro s9 ht9 hnx9 hot9
      have l9 := Thing.loadAll (P := Try.prog) (cs := zeroP) ragProf rszProf ht9 (c := 8) rfl
      simp (config := { maxSteps := 1000000, implicitDefEqProofs := false }) (disch := omega) only [allW, wfn_ret, wfn_normal, cond_true, cond_false, oneOf, evalAll, partsA, optA, List.drop_zero, List.drop_succ_cons, List.cons_append, List.nil_append, Nat.reduceLT, Nat.reduceLeDiff, Nat.reduceEqDiff, Nat.reduceAdd, List.getD_cons_zero, List.getD_cons_succ, List.set_cons_zero, List.set_cons_succ, ↓reduceIte, if_true, if_false, beq_self_eq_true, ne_eq, eq_self, not_true_eq_false, not_false_eq_true, hn, h2, l9, resultsA_cell, Try.results11]
      have hr : readP l = (4, []) := by exact readP_none c1' (by rw [← hmany]; exact tagsTo_bad hT hno many hlt)
      refine ⟨zeroP, by rw [hr], ⟨fun _ => rfl, fun h => by rw [hr] at h; exact absurd h (by decide)⟩, hstr.trans ⟨by omega, fun j hj => hot9 j (by omega)⟩⟩
    by_cases b2 : (l.length : Int) < (at' : Int)
    · have hno : ¬ okTag l many T (tagAt l i) := fun h => by rw [htA] at h; have h1 : (at' : Int) ≤ l.length := h.2.1; omega
      have htr := htr9
      have hstr := hstr9
      simp (config := { maxSteps := 1000000, implicitDefEqProofs := false }) (disch := omega) only [allW, allL, allB, Nat.sub_self, Nat.add_one_sub_one, Nat.reduceSub, cond_true, cond_false, oneOf, evalAll, partsA, optA, List.drop_zero, List.drop_succ_cons, List.cons_append, List.nil_append, Nat.reduceLT, Nat.reduceLeDiff, Nat.reduceEqDiff, Nat.reduceAdd, List.getD_cons_zero, List.getD_cons_succ, List.set_cons_zero, List.set_cons_succ, ↓reduceIte, if_true, if_false, beq_self_eq_true, ne_eq, eq_self, not_true_eq_false, not_false_eq_true, hn, h2, undef, h0, h4, h5, h11, rtf1, rtf2, lt1, lt2, wrapI, hx9.lenA Try.underlying31, hx9.self, eq_false b1, eq_true b2, rbProf0]
      refine wstep_storeAll rszProf (by decide) htr rfl rfl rfl rfl ?_
      intro s9 ht9 hnx9 hot9
      have l9 := Thing.loadAll (P := Try.prog) (cs := zeroP) ragProf rszProf ht9 (c := 8) rfl
      simp (config := { maxSteps := 1000000, implicitDefEqProofs := false }) (disch := omega) only [allW, wfn_ret, wfn_normal, cond_true, cond_false, oneOf, evalAll, partsA, optA, List.drop_zero, List.drop_succ_cons, List.cons_append, List.nil_append, Nat.reduceLT, Nat.reduceLeDiff, Nat.reduceEqDiff, Nat.reduceAdd, List.getD_cons_zero, List.getD_cons_succ, List.set_cons_zero, List.set_cons_succ, ↓reduceIte, if_true, if_false, beq_self_eq_true, ne_eq, eq_self, not_true_eq_false, not_false_eq_true, hn, h2, l9, resultsA_cell, Try.results11]
      have hr : readP l = (4, []) := by exact readP_none c1' (by rw [← hmany]; exact tagsTo_bad hT hno many hlt)
      refine ⟨zeroP, by rw [hr], ⟨fun _ => rfl, fun h => by rw [hr] at h; exact absurd h (by decide)⟩, hstr.trans ⟨by omega, fun j hj => hot9 j (by omega)⟩⟩
    by_cases b3 : (l.length : Int) - (at' : Int) < (sz' : Int)
    · have hno : ¬ okTag l many T (tagAt l i) := fun h => by rw [htA] at h; have h1 : (sz' : Int) ≤ l.length - (at' : Int) := h.2.2.1; omega
      have htr := htr9
      have hstr := hstr9
      simp (config := { maxSteps := 1000000, implicitDefEqProofs := false }) (disch := omega) only [allW, allL, allB, Nat.sub_self, Nat.add_one_sub_one, Nat.reduceSub, cond_true, cond_false, oneOf, evalAll, partsA, optA, List.drop_zero, List.drop_succ_cons, List.cons_append, List.nil_append, Nat.reduceLT, Nat.reduceLeDiff, Nat.reduceEqDiff, Nat.reduceAdd, List.getD_cons_zero, List.getD_cons_succ, List.set_cons_zero, List.set_cons_succ, ↓reduceIte, if_true, if_false, beq_self_eq_true, ne_eq, eq_self, not_true_eq_false, not_false_eq_true, hn, h2, undef, h0, h4, h5, h11, rtf1, rtf2, lt1, lt2, wrapI, hx9.lenA Try.underlying31, hx9.self, eq_false b1, eq_false b2, eq_true b3, rbProf0]
      refine wstep_storeAll rszProf (by decide) htr rfl rfl rfl rfl ?_
      intro s9 ht9 hnx9 hot9
      have l9 := Thing.loadAll (P := Try.prog) (cs := zeroP) ragProf rszProf ht9 (c := 8) rfl
      simp (config := { maxSteps := 1000000, implicitDefEqProofs := false }) (disch := omega) only [allW, wfn_ret, wfn_normal, cond_true, cond_false, oneOf, evalAll, partsA, optA, List.drop_zero, List.drop_succ_cons, List.cons_append, List.nil_append, Nat.reduceLT, Nat.reduceLeDiff, Nat.reduceEqDiff, Nat.reduceAdd, List.getD_cons_zero, List.getD_cons_succ, List.set_cons_zero, List.set_cons_succ, ↓reduceIte, if_true, if_false, beq_self_eq_true, ne_eq, eq_self, not_true_eq_false, not_false_eq_true, hn, h2, l9, resultsA_cell, Try.results11]
      have hr : readP l = (4, []) := by exact readP_none c1' (by rw [← hmany]; exact tagsTo_bad hT hno many hlt)
      refine ⟨zeroP, by rw [hr], ⟨fun _ => rfl, fun h => by rw [hr] at h; exact absurd h (by decide)⟩, hstr.trans ⟨by omega, fun j hj => hot9 j (by omega)⟩⟩
    simp (config := { maxSteps := 1000000, implicitDefEqProofs := false }) (disch := omega) only [allW, allL, allB, Nat.sub_self, Nat.add_one_sub_one, Nat.reduceSub, cond_true, cond_false, oneOf, evalAll, partsA, optA, List.drop_zero, List.drop_succ_cons, List.cons_append, List.nil_append, Nat.reduceLT, Nat.reduceLeDiff, Nat.reduceEqDiff, Nat.reduceAdd, List.getD_cons_zero, List.getD_cons_succ, List.set_cons_zero, List.set_cons_succ, ↓reduceIte, if_true, if_false, beq_self_eq_true, ne_eq, eq_self, not_true_eq_false, not_false_eq_true, undef, hn, h0, h2, h4, h5, h7, h8, h9, h11, rtf1, rtf2, lt1, lt2, wrapI, hx9.lenA Try.underlying31, hx9.self, eq_false b1, eq_false b2, eq_false b3]
    refine Comes.loopAt (fun z f sx => ∃ (q : Nat), z = T.length - q ∧ q ≤ T.length ∧ (∀ t ∈ T.take q, t.1 ≠ nm) ∧ sx = s9 ∧ f.n = 211 ∧ f.get 0 = x ∧ f.get 2 = .pointer (some ⟨s.next, 0, some 8⟩) ∧ f.get 4 = .pointer (some ⟨s1.next, 0, some 8⟩) ∧ f.get 5 = .int .i64 (many : Nat) ∧ f.get 7 = .bool (has T DESC) ∧ f.get 8 = .bool (has T WTPT) ∧ f.get 9 = .int .i64 (i : Nat) ∧ f.get 11 = .pointer (some ⟨s6.next, 0, some 4⟩) ∧ f.get 12 = .int .i64 (q : Nat))
      ⟨0, rfl, by omega, by simp, rfl, by simp only [get_put, n_put, ↓reduceIte, Nat.reduceEqDiff, hn], by simp only [get_put, n_put, ↓reduceIte, Nat.reduceEqDiff, h0], by simp only [get_put, n_put, ↓reduceIte, Nat.reduceEqDiff, h2], by simp only [get_put, n_put, ↓reduceIte, Nat.reduceEqDiff, h4], by simp only [get_put, n_put, ↓reduceIte, Nat.reduceEqDiff, h5], by simp only [get_put, n_put, ↓reduceIte, Nat.reduceEqDiff, h7], by simp only [get_put, n_put, ↓reduceIte, Nat.reduceEqDiff, h8], by simp only [get_put, n_put, ↓reduceIte, Nat.reduceEqDiff, h9], by simp only [get_put, n_put, ↓reduceIte, Nat.reduceEqDiff, h11], by simp only [get_put, n_put, ↓reduceIte, Nat.reduceEqDiff]; rfl⟩ ?_
    clear hn h0 h2 h4 h5 h7 h8 h9 h11 f
    rintro z f sx ⟨q, rfl, hq, hnq, hsx, hn, h0, h2, h4, h5, h7, h8, h9, h11, h12⟩
    subst hsx
    have l6 : loadA Try.prog sx 38 (.pointer (some ⟨s1.next, 6, some 8⟩)) = some y := htp9.load ragTagS (off := 6) (c := 8) rfl (by simp [headIs, headC])
    by_cases hql : q < T.length
    · have d2 : (q : Int) < (i : Int) := by omega
      have hidx := hy9.sees.indexAddr (P := Try.prog) (k := .i64) (x := (q : Int)) Try.underlying38 rszTag (by omega) (by omega)
      rw [Int.toNat_natCast] at hidx
      have hlf := hy9.sees.loadField (P := Try.prog) qagStr hql (j := 0) (by omega)
      rw [tagsC_getD T q hql] at hlf
      have htk : T.take (q + 1) = T.take q ++ [T[q]] := by rw [List.take_succ_eq_append_getElem hql]
      have he := str_eql (P := Try.prog) (t := 9) T[q].1 nm
      by_cases d3 : T[q].1 = nm
      · rw [decide_eq_true d3] at he
        have hno : ¬ okTag l many T (tagAt l i) := fun h => by
          rw [htA] at h
          have := h.2.2.2
          rw [List.any_eq_false] at this
          exact this T[q] (List.getElem_mem _) (by simpa using d3)
        have htr := htr9
        have hstr := hstr9
        simp (config := { maxSteps := 1000000, implicitDefEqProofs := false }) (disch := omega) only [allW, allL, allB, Nat.sub_self, Nat.add_one_sub_one, Nat.reduceSub, cond_true, cond_false, oneOf, evalAll, partsA, optA, List.drop_zero, List.drop_succ_cons, List.cons_append, List.nil_append, Nat.reduceLT, Nat.reduceLeDiff, Nat.reduceEqDiff, Nat.reduceAdd, List.getD_cons_zero, List.getD_cons_succ, List.set_cons_zero, List.set_cons_succ, ↓reduceIte, if_true, if_false, beq_self_eq_true, ne_eq, eq_self, not_true_eq_false, not_false_eq_true, hn, h2, h0, h4, h5, h9, h11, h12, eq_true d2, rpf1, l6, hy9.self, hidx, valEq_elemPtr, valEq_plus, rtfld hy9.sees hql, rtf0, hlf, lt0, valEq_string, he, rbProf0]
        refine wstep_storeAll rszProf (by decide) htr rfl rfl rfl rfl ?_
        intro s9 ht9 hnx9 hot9
        have l9 := Thing.loadAll (P := Try.prog) (cs := zeroP) ragProf rszProf ht9 (c := 8) rfl
        simp (config := { maxSteps := 1000000, implicitDefEqProofs := false }) (disch := omega) only [allW, wfn_ret, wfn_normal, cond_true, cond_false, oneOf, evalAll, partsA, optA, List.drop_zero, List.drop_succ_cons, List.cons_append, List.nil_append, Nat.reduceLT, Nat.reduceLeDiff, Nat.reduceEqDiff, Nat.reduceAdd, List.getD_cons_zero, List.getD_cons_succ, List.set_cons_zero, List.set_cons_succ, ↓reduceIte, if_true, if_false, beq_self_eq_true, ne_eq, eq_self, not_true_eq_false, not_false_eq_true, hn, h2, l9, resultsA_cell, Try.results11]
        have hr : readP l = (4, []) := by exact readP_none c1' (by rw [← hmany]; exact tagsTo_bad hT hno many hlt)
        refine ⟨zeroP, by rw [hr], ⟨fun _ => rfl, fun h => by rw [hr] at h; exact absurd h (by decide)⟩, hstr.trans ⟨by omega, fun j hj => hot9 j (by omega)⟩⟩
      · rw [decide_eq_false d3] at he
        simp (config := { maxSteps := 1000000, implicitDefEqProofs := false }) (disch := omega) only [allW, cond_true, cond_false, oneOf, evalAll, partsA, optA, List.drop_zero, List.drop_succ_cons, List.cons_append, List.nil_append, Nat.reduceLT, Nat.reduceLeDiff, Nat.reduceEqDiff, Nat.reduceAdd, List.getD_cons_zero, List.getD_cons_succ, List.set_cons_zero, List.set_cons_succ, ↓reduceIte, if_true, if_false, beq_self_eq_true, ne_eq, eq_self, not_true_eq_false, not_false_eq_true, hn, h0, h2, h4, h5, h7, h8, h9, h11, h12, eq_true d2, rpf1, l6, hy9.self, hidx, valEq_elemPtr, valEq_plus, rtfld hy9.sees hql, rtf0, hlf, lt0, valEq_string, he, wrapI]
        refine wround_next (T.length - (q + 1)) (by omega) ⟨q + 1, rfl, by omega, by rw [htk]; intro t h; rcases List.mem_append.mp h with h | h; exact hnq t h; rw [List.mem_singleton.mp h]; exact d3, rfl, by simp only [get_put, n_put, ↓reduceIte, Nat.reduceEqDiff, hn], by simp only [get_put, n_put, ↓reduceIte, Nat.reduceEqDiff, h0], by simp only [get_put, n_put, ↓reduceIte, Nat.reduceEqDiff, h2], by simp only [get_put, n_put, ↓reduceIte, Nat.reduceEqDiff, h4], by simp only [get_put, n_put, ↓reduceIte, Nat.reduceEqDiff, h5], by simp only [get_put, n_put, ↓reduceIte, Nat.reduceEqDiff, h7], by simp only [get_put, n_put, ↓reduceIte, Nat.reduceEqDiff, h8], by simp only [get_put, n_put, ↓reduceIte, Nat.reduceEqDiff, h9], by simp only [get_put, n_put, ↓reduceIte, Nat.reduceEqDiff, h11], by simp only [get_put, n_put, ↓reduceIte, Nat.reduceEqDiff]; rfl⟩
    · obtain rfl : q = T.length := by omega
      have d2 : ¬ ((T.length : Nat) : Int) < (i : Int) := by omega
      rw [List.take_of_length_le (Nat.le_refl _)] at hnq
      have hok : okTag l many T (tagAt l i) := by
        rw [htA]
        exact ⟨show 132 + 12 * (many : Int) ≤ (at' : Int) by omega, show (at' : Int) ≤ l.length by omega, show (sz' : Int) ≤ l.length - (at' : Int) by omega, any_take_false hnq⟩
      have lt9 : loadA Try.prog sx 46 (.pointer (some ⟨s6.next, 0, some 4⟩)) = some (.agg (tagC (tagAt l i)).toArray) := by
        rw [htA]; exact Thing.loadAll (cs := [.string ⟨nm.toArray⟩, .int .i64 at', .int .i64 sz']) ragTag rszTag ht9 rfl
      have ed := str_eql (P := Try.prog) (t := 9) nm DESC
      have ew := str_eql (P := Try.prog) (t := 9) nm WTPT
      have hD := has_snoc T (tagAt l i) DESC
      have hW := has_snoc T (tagAt l i) WTPT
      have hnt : (tagAt l i).1 = nm := by rw [htA]
      rw [hnt] at hD hW
      obtain ⟨r1, hr1⟩ : ∃ r, r = decide (nm = DESC) := ⟨_, rfl⟩
      obtain ⟨r2, hr2⟩ : ∃ r, r = decide (nm = WTPT) := ⟨_, rfl⟩
      rw [← hr1] at ed hD
      rw [← hr2] at ew hW
      simp only [DESC] at ed
      simp only [WTPT] at ew
      clear hr1 hr2
      cases hd : has T DESC <;> cases hw : has T WTPT <;> rw [hd] at h7 hD <;> rw [hw] at h8 hW <;> simp only [Bool.true_or, Bool.false_or] at hD hW
      · simp (config := { maxSteps := 1000000, implicitDefEqProofs := false }) (disch := omega) only [allW, cond_true, cond_false, oneOf, evalAll, partsA, optA, List.drop_zero, List.drop_succ_cons, List.cons_append, List.nil_append, Nat.reduceLT, Nat.reduceLeDiff, Nat.reduceEqDiff, Nat.reduceAdd, List.getD_cons_zero, List.getD_cons_succ, List.set_cons_zero, List.set_cons_succ, ↓reduceIte, if_true, if_false, beq_self_eq_true, ne_eq, eq_self, not_true_eq_false, not_false_eq_true, undef, hn, h0, h2, h4, h5, h7, h8, h9, h11, h12, eq_false d2, rtf0, lt0, ed, ew, rpf1, l6, hy9.self, lt9, buildAgg1 (cs := (tagC (tagAt l i)).toArray) Try.underlying38 rszTag rzTag plTag rfl rfl (by decide)]
        refine wstep_append_lit Try.underlying38 rszTag rbyTag rzTag rfl hy9 (by simp only [get_put, n_put, ↓reduceIte, Nat.reduceEqDiff]) (by decide) (by simp only [get_put, n_put, ↓reduceIte, Nat.reduceEqDiff, hn]; decide) (by simp only [get_put, n_put, ↓reduceIte, Nat.reduceEqDiff, hn]; decide) (by rfl) (by decide) rfl (by omega) (by omega) hyF (by omega) ?_
        intro bs y' s10 hy10 hF10 hst10 hut10 hor
        have hn10 := hut10.next
        simp (config := { maxSteps := 1000000, implicitDefEqProofs := false }) (disch := omega) only [allW, cond_true, cond_false, oneOf, evalAll, partsA, optA, List.drop_zero, List.drop_succ_cons, List.cons_append, List.nil_append, Nat.reduceLT, Nat.reduceLeDiff, Nat.reduceEqDiff, Nat.reduceAdd, List.getD_cons_zero, List.getD_cons_succ, List.set_cons_zero, List.set_cons_succ, ↓reduceIte, if_true, if_false, beq_self_eq_true, ne_eq, eq_self, not_true_eq_false, not_false_eq_true, hn, h0, h2, h4, h5, h7, h8, h9, h11, rpf1]
        have hs10 : Stay s5.next sx s10 := hst10
        refine wstep_store rszTagS (htp9.turns hut10 (fun e => by have := hyF _ e; omega)) rfl (by simp [headIs, headC]) hy10.sees.okCell ?_
        intro s11 ht11 hnx11 hot11
        simp (config := { maxSteps := 1000000, implicitDefEqProofs := false }) (disch := omega) only [allW, cond_true, cond_false, oneOf, evalAll, partsA, optA, List.drop_zero, List.drop_succ_cons, List.cons_append, List.nil_append, Nat.reduceLT, Nat.reduceLeDiff, Nat.reduceEqDiff, Nat.reduceAdd, List.getD_cons_zero, List.getD_cons_succ, List.set_cons_zero, List.set_cons_succ, ↓reduceIte, if_true, if_false, beq_self_eq_true, ne_eq, eq_self, not_true_eq_false, not_false_eq_true, hn, h0, h2, h4, h5, h7, h8, h9, wrapI]
        have ht11 : Thing s11 s1.next (headIs l ++ [y']) := ht11
        have hu11 : Turns (cptr s1.next) s10 s11 := ⟨by omega, fun j hj hne => hot11 j (fun e => hne (by rw [e]; rfl))⟩
        have hy11 : Own s11 3 y' (T.length + 1) (tagsC T ++ tagC (tagAt l i)) := hy10.turns hu11 (fun j hj => by have := hF10 j hj; exact cptr_ne (by omega))
        have e1 : tagsC T ++ (tagC (tagAt l i)) = tagsC (T ++ [tagAt l i]) := by simp [tagsC]
        have e2 : T.length + 1 = (T ++ [tagAt l i]).length := by simp
        rw [e1, e2] at hy11
        refine wround_next (many - (i + 1)) (by omega) ⟨i + 1, T ++ [tagAt l i], y', rfl, by omega, tagsTo_next hT hok, hy11, hF10, ht11, (htr9.turns hut10 (fun e => by have := hyF _ e; omega)).ofPut hnx11 hot11 (by omega), hstr9.trans ⟨by omega, fun j hj => (hot11 j (by omega)).trans (hut10.get j (by omega) (fun e => by have := hyF _ e; omega))⟩, by omega, by simp only [get_put, n_put, ↓reduceIte, Nat.reduceEqDiff, hn], by simp only [get_put, n_put, ↓reduceIte, Nat.reduceEqDiff, h0], by simp only [get_put, n_put, ↓reduceIte, Nat.reduceEqDiff, h2], by simp only [get_put, n_put, ↓reduceIte, Nat.reduceEqDiff, h4], by simp only [get_put, n_put, ↓reduceIte, Nat.reduceEqDiff, h5], by simp only [get_put, n_put, ↓reduceIte, Nat.reduceEqDiff, h7]; rw [hD], by simp only [get_put, n_put, ↓reduceIte, Nat.reduceEqDiff, h8]; rw [hW], by simp only [get_put, n_put, ↓reduceIte, Nat.reduceEqDiff]; rfl⟩
      · simp (config := { maxSteps := 1000000, implicitDefEqProofs := false }) (disch := omega) only [allW, cond_true, cond_false, oneOf, evalAll, partsA, optA, List.drop_zero, List.drop_succ_cons, List.cons_append, List.nil_append, Nat.reduceLT, Nat.reduceLeDiff, Nat.reduceEqDiff, Nat.reduceAdd, List.getD_cons_zero, List.getD_cons_succ, List.set_cons_zero, List.set_cons_succ, ↓reduceIte, if_true, if_false, beq_self_eq_true, ne_eq, eq_self, not_true_eq_false, not_false_eq_true, undef, hn, h0, h2, h4, h5, h7, h8, h9, h11, h12, eq_false d2, rtf0, lt0, ed, rpf1, l6, hy9.self, lt9, buildAgg1 (cs := (tagC (tagAt l i)).toArray) Try.underlying38 rszTag rzTag plTag rfl rfl (by decide)]
        refine wstep_append_lit Try.underlying38 rszTag rbyTag rzTag rfl hy9 (by simp only [get_put, n_put, ↓reduceIte, Nat.reduceEqDiff]) (by decide) (by simp only [get_put, n_put, ↓reduceIte, Nat.reduceEqDiff, hn]; decide) (by simp only [get_put, n_put, ↓reduceIte, Nat.reduceEqDiff, hn]; decide) (by rfl) (by decide) rfl (by omega) (by omega) hyF (by omega) ?_
        intro bs y' s10 hy10 hF10 hst10 hut10 hor
        have hn10 := hut10.next
        simp (config := { maxSteps := 1000000, implicitDefEqProofs := false }) (disch := omega) only [allW, cond_true, cond_false, oneOf, evalAll, partsA, optA, List.drop_zero, List.drop_succ_cons, List.cons_append, List.nil_append, Nat.reduceLT, Nat.reduceLeDiff, Nat.reduceEqDiff, Nat.reduceAdd, List.getD_cons_zero, List.getD_cons_succ, List.set_cons_zero, List.set_cons_succ, ↓reduceIte, if_true, if_false, beq_self_eq_true, ne_eq, eq_self, not_true_eq_false, not_false_eq_true, hn, h0, h2, h4, h5, h7, h8, h9, h11, rpf1]
        have hs10 : Stay s5.next sx s10 := hst10
        refine wstep_store rszTagS (htp9.turns hut10 (fun e => by have := hyF _ e; omega)) rfl (by simp [headIs, headC]) hy10.sees.okCell ?_
        intro s11 ht11 hnx11 hot11
        simp (config := { maxSteps := 1000000, implicitDefEqProofs := false }) (disch := omega) only [allW, cond_true, cond_false, oneOf, evalAll, partsA, optA, List.drop_zero, List.drop_succ_cons, List.cons_append, List.nil_append, Nat.reduceLT, Nat.reduceLeDiff, Nat.reduceEqDiff, Nat.reduceAdd, List.getD_cons_zero, List.getD_cons_succ, List.set_cons_zero, List.set_cons_succ, ↓reduceIte, if_true, if_false, beq_self_eq_true, ne_eq, eq_self, not_true_eq_false, not_false_eq_true, hn, h0, h2, h4, h5, h7, h8, h9, wrapI]
        have ht11 : Thing s11 s1.next (headIs l ++ [y']) := ht11
        have hu11 : Turns (cptr s1.next) s10 s11 := ⟨by omega, fun j hj hne => hot11 j (fun e => hne (by rw [e]; rfl))⟩
        have hy11 : Own s11 3 y' (T.length + 1) (tagsC T ++ tagC (tagAt l i)) := hy10.turns hu11 (fun j hj => by have := hF10 j hj; exact cptr_ne (by omega))
        have e1 : tagsC T ++ (tagC (tagAt l i)) = tagsC (T ++ [tagAt l i]) := by simp [tagsC]
        have e2 : T.length + 1 = (T ++ [tagAt l i]).length := by simp
        rw [e1, e2] at hy11
        refine wround_next (many - (i + 1)) (by omega) ⟨i + 1, T ++ [tagAt l i], y', rfl, by omega, tagsTo_next hT hok, hy11, hF10, ht11, (htr9.turns hut10 (fun e => by have := hyF _ e; omega)).ofPut hnx11 hot11 (by omega), hstr9.trans ⟨by omega, fun j hj => (hot11 j (by omega)).trans (hut10.get j (by omega) (fun e => by have := hyF _ e; omega))⟩, by omega, by simp only [get_put, n_put, ↓reduceIte, Nat.reduceEqDiff, hn], by simp only [get_put, n_put, ↓reduceIte, Nat.reduceEqDiff, h0], by simp only [get_put, n_put, ↓reduceIte, Nat.reduceEqDiff, h2], by simp only [get_put, n_put, ↓reduceIte, Nat.reduceEqDiff, h4], by simp only [get_put, n_put, ↓reduceIte, Nat.reduceEqDiff, h5], by simp only [get_put, n_put, ↓reduceIte, Nat.reduceEqDiff, h7]; rw [hD], by simp only [get_put, n_put, ↓reduceIte, Nat.reduceEqDiff, h8]; rw [hW], by simp only [get_put, n_put, ↓reduceIte, Nat.reduceEqDiff]; rfl⟩
      · simp (config := { maxSteps := 1000000, implicitDefEqProofs := false }) (disch := omega) only [allW, cond_true, cond_false, oneOf, evalAll, partsA, optA, List.drop_zero, List.drop_succ_cons, List.cons_append, List.nil_append, Nat.reduceLT, Nat.reduceLeDiff, Nat.reduceEqDiff, Nat.reduceAdd, List.getD_cons_zero, List.getD_cons_succ, List.set_cons_zero, List.set_cons_succ, ↓reduceIte, if_true, if_false, beq_self_eq_true, ne_eq, eq_self, not_true_eq_false, not_false_eq_true, undef, hn, h0, h2, h4, h5, h7, h8, h9, h11, h12, eq_false d2, rtf0, lt0, ew, rpf1, l6, hy9.self, lt9, buildAgg1 (cs := (tagC (tagAt l i)).toArray) Try.underlying38 rszTag rzTag plTag rfl rfl (by decide)]
        refine wstep_append_lit Try.underlying38 rszTag rbyTag rzTag rfl hy9 (by simp only [get_put, n_put, ↓reduceIte, Nat.reduceEqDiff]) (by decide) (by simp only [get_put, n_put, ↓reduceIte, Nat.reduceEqDiff, hn]; decide) (by simp only [get_put, n_put, ↓reduceIte, Nat.reduceEqDiff, hn]; decide) (by rfl) (by decide) rfl (by omega) (by omega) hyF (by omega) ?_
        intro bs y' s10 hy10 hF10 hst10 hut10 hor
        have hn10 := hut10.next
        simp (config := { maxSteps := 1000000, implicitDefEqProofs := false }) (disch := omega) only [allW, cond_true, cond_false, oneOf, evalAll, partsA, optA, List.drop_zero, List.drop_succ_cons, List.cons_append, List.nil_append, Nat.reduceLT, Nat.reduceLeDiff, Nat.reduceEqDiff, Nat.reduceAdd, List.getD_cons_zero, List.getD_cons_succ, List.set_cons_zero, List.set_cons_succ, ↓reduceIte, if_true, if_false, beq_self_eq_true, ne_eq, eq_self, not_true_eq_false, not_false_eq_true, hn, h0, h2, h4, h5, h7, h8, h9, h11, rpf1]
        have hs10 : Stay s5.next sx s10 := hst10
        refine wstep_store rszTagS (htp9.turns hut10 (fun e => by have := hyF _ e; omega)) rfl (by simp [headIs, headC]) hy10.sees.okCell ?_
        intro s11 ht11 hnx11 hot11
        simp (config := { maxSteps := 1000000, implicitDefEqProofs := false }) (disch := omega) only [allW, cond_true, cond_false, oneOf, evalAll, partsA, optA, List.drop_zero, List.drop_succ_cons, List.cons_append, List.nil_append, Nat.reduceLT, Nat.reduceLeDiff, Nat.reduceEqDiff, Nat.reduceAdd, List.getD_cons_zero, List.getD_cons_succ, List.set_cons_zero, List.set_cons_succ, ↓reduceIte, if_true, if_false, beq_self_eq_true, ne_eq, eq_self, not_true_eq_false, not_false_eq_true, hn, h0, h2, h4, h5, h7, h8, h9, wrapI]
        have ht11 : Thing s11 s1.next (headIs l ++ [y']) := ht11
        have hu11 : Turns (cptr s1.next) s10 s11 := ⟨by omega, fun j hj hne => hot11 j (fun e => hne (by rw [e]; rfl))⟩
        have hy11 : Own s11 3 y' (T.length + 1) (tagsC T ++ tagC (tagAt l i)) := hy10.turns hu11 (fun j hj => by have := hF10 j hj; exact cptr_ne (by omega))
        have e1 : tagsC T ++ (tagC (tagAt l i)) = tagsC (T ++ [tagAt l i]) := by simp [tagsC]
        have e2 : T.length + 1 = (T ++ [tagAt l i]).length := by simp
        rw [e1, e2] at hy11
        refine wround_next (many - (i + 1)) (by omega) ⟨i + 1, T ++ [tagAt l i], y', rfl, by omega, tagsTo_next hT hok, hy11, hF10, ht11, (htr9.turns hut10 (fun e => by have := hyF _ e; omega)).ofPut hnx11 hot11 (by omega), hstr9.trans ⟨by omega, fun j hj => (hot11 j (by omega)).trans (hut10.get j (by omega) (fun e => by have := hyF _ e; omega))⟩, by omega, by simp only [get_put, n_put, ↓reduceIte, Nat.reduceEqDiff, hn], by simp only [get_put, n_put, ↓reduceIte, Nat.reduceEqDiff, h0], by simp only [get_put, n_put, ↓reduceIte, Nat.reduceEqDiff, h2], by simp only [get_put, n_put, ↓reduceIte, Nat.reduceEqDiff, h4], by simp only [get_put, n_put, ↓reduceIte, Nat.reduceEqDiff, h5], by simp only [get_put, n_put, ↓reduceIte, Nat.reduceEqDiff, h7]; rw [hD], by simp only [get_put, n_put, ↓reduceIte, Nat.reduceEqDiff, h8]; rw [hW], by simp only [get_put, n_put, ↓reduceIte, Nat.reduceEqDiff]; rfl⟩
      · simp (config := { maxSteps := 1000000, implicitDefEqProofs := false }) (disch := omega) only [allW, cond_true, cond_false, oneOf, evalAll, partsA, optA, List.drop_zero, List.drop_succ_cons, List.cons_append, List.nil_append, Nat.reduceLT, Nat.reduceLeDiff, Nat.reduceEqDiff, Nat.reduceAdd, List.getD_cons_zero, List.getD_cons_succ, List.set_cons_zero, List.set_cons_succ, ↓reduceIte, if_true, if_false, beq_self_eq_true, ne_eq, eq_self, not_true_eq_false, not_false_eq_true, undef, hn, h0, h2, h4, h5, h7, h8, h9, h11, h12, eq_false d2, rtf0, lt0, h0, rpf1, l6, hy9.self, lt9, buildAgg1 (cs := (tagC (tagAt l i)).toArray) Try.underlying38 rszTag rzTag plTag rfl rfl (by decide)]
        refine wstep_append_lit Try.underlying38 rszTag rbyTag rzTag rfl hy9 (by simp only [get_put, n_put, ↓reduceIte, Nat.reduceEqDiff]) (by decide) (by simp only [get_put, n_put, ↓reduceIte, Nat.reduceEqDiff, hn]; decide) (by simp only [get_put, n_put, ↓reduceIte, Nat.reduceEqDiff, hn]; decide) (by rfl) (by decide) rfl (by omega) (by omega) hyF (by omega) ?_
        intro bs y' s10 hy10 hF10 hst10 hut10 hor
        have hn10 := hut10.next
        simp (config := { maxSteps := 1000000, implicitDefEqProofs := false }) (disch := omega) only [allW, cond_true, cond_false, oneOf, evalAll, partsA, optA, List.drop_zero, List.drop_succ_cons, List.cons_append, List.nil_append, Nat.reduceLT, Nat.reduceLeDiff, Nat.reduceEqDiff, Nat.reduceAdd, List.getD_cons_zero, List.getD_cons_succ, List.set_cons_zero, List.set_cons_succ, ↓reduceIte, if_true, if_false, beq_self_eq_true, ne_eq, eq_self, not_true_eq_false, not_false_eq_true, hn, h0, h2, h4, h5, h7, h8, h9, h11, rpf1]
        have hs10 : Stay s5.next sx s10 := hst10
        refine wstep_store rszTagS (htp9.turns hut10 (fun e => by have := hyF _ e; omega)) rfl (by simp [headIs, headC]) hy10.sees.okCell ?_
        intro s11 ht11 hnx11 hot11
        simp (config := { maxSteps := 1000000, implicitDefEqProofs := false }) (disch := omega) only [allW, cond_true, cond_false, oneOf, evalAll, partsA, optA, List.drop_zero, List.drop_succ_cons, List.cons_append, List.nil_append, Nat.reduceLT, Nat.reduceLeDiff, Nat.reduceEqDiff, Nat.reduceAdd, List.getD_cons_zero, List.getD_cons_succ, List.set_cons_zero, List.set_cons_succ, ↓reduceIte, if_true, if_false, beq_self_eq_true, ne_eq, eq_self, not_true_eq_false, not_false_eq_true, hn, h0, h2, h4, h5, h7, h8, h9, wrapI]
        have ht11 : Thing s11 s1.next (headIs l ++ [y']) := ht11
        have hu11 : Turns (cptr s1.next) s10 s11 := ⟨by omega, fun j hj hne => hot11 j (fun e => hne (by rw [e]; rfl))⟩
        have hy11 : Own s11 3 y' (T.length + 1) (tagsC T ++ tagC (tagAt l i)) := hy10.turns hu11 (fun j hj => by have := hF10 j hj; exact cptr_ne (by omega))
        have e1 : tagsC T ++ (tagC (tagAt l i)) = tagsC (T ++ [tagAt l i]) := by simp [tagsC]
        have e2 : T.length + 1 = (T ++ [tagAt l i]).length := by simp
        rw [e1, e2] at hy11
        refine wround_next (many - (i + 1)) (by omega) ⟨i + 1, T ++ [tagAt l i], y', rfl, by omega, tagsTo_next hT hok, hy11, hF10, ht11, (htr9.turns hut10 (fun e => by have := hyF _ e; omega)).ofPut hnx11 hot11 (by omega), hstr9.trans ⟨by omega, fun j hj => (hot11 j (by omega)).trans (hut10.get j (by omega) (fun e => by have := hyF _ e; omega))⟩, by omega, by simp only [get_put, n_put, ↓reduceIte, Nat.reduceEqDiff, hn], by simp only [get_put, n_put, ↓reduceIte, Nat.reduceEqDiff, h0], by simp only [get_put, n_put, ↓reduceIte, Nat.reduceEqDiff, h2], by simp only [get_put, n_put, ↓reduceIte, Nat.reduceEqDiff, h4], by simp only [get_put, n_put, ↓reduceIte, Nat.reduceEqDiff, h5], by simp only [get_put, n_put, ↓reduceIte, Nat.reduceEqDiff, h7]; rw [hD], by simp only [get_put, n_put, ↓reduceIte, Nat.reduceEqDiff, h8]; rw [hW], by simp only [get_put, n_put, ↓reduceIte, Nat.reduceEqDiff]; rfl⟩
  · obtain rfl : i = many := by omega
    have d1 : ¬ (i : Int) < (i : Int) := by omega
    have hyl : loadA Try.prog s6 40 (.pointer (some ⟨s1.next, 0, some 8⟩)) = some (.agg (headIs l ++ [y]).toArray) := Thing.loadAll (cs := headIs l ++ [y]) ragProf rszProf htp (c := 8) rfl
    cases hd : has T DESC with
    | false =>
      rw [hd] at h7
      simp (config := { maxSteps := 1000000, implicitDefEqProofs := false }) (disch := omega) only [allW, allL, allB, Nat.sub_self, Nat.add_one_sub_one, Nat.reduceSub, cond_true, cond_false, oneOf, evalAll, partsA, optA, List.drop_zero, List.drop_succ_cons, List.cons_append, List.nil_append, Nat.reduceLT, Nat.reduceLeDiff, Nat.reduceEqDiff, Nat.reduceAdd, List.getD_cons_zero, List.getD_cons_succ, List.set_cons_zero, List.set_cons_succ, ↓reduceIte, if_true, if_false, beq_self_eq_true, ne_eq, eq_self, not_true_eq_false, not_false_eq_true, hn, h2, undef, h0, h4, h5, h7, h8, h9, eq_false d1, Bool.not_false, Bool.not_true, rbProf0]
      refine wstep_storeAll rszProf (by decide) htr rfl rfl rfl rfl ?_
      intro s9 ht9 hnx9 hot9
      have l9 := Thing.loadAll (P := Try.prog) (cs := zeroP) ragProf rszProf ht9 (c := 8) rfl
      simp (config := { maxSteps := 1000000, implicitDefEqProofs := false }) (disch := omega) only [allW, wfn_ret, wfn_normal, cond_true, cond_false, oneOf, evalAll, partsA, optA, List.drop_zero, List.drop_succ_cons, List.cons_append, List.nil_append, Nat.reduceLT, Nat.reduceLeDiff, Nat.reduceEqDiff, Nat.reduceAdd, List.getD_cons_zero, List.getD_cons_succ, List.set_cons_zero, List.set_cons_succ, ↓reduceIte, if_true, if_false, beq_self_eq_true, ne_eq, eq_self, not_true_eq_false, not_false_eq_true, hn, h2, l9, resultsA_cell, Try.results11]
      have hr : readP l = (8, []) := by rw [readP_some c1' c2 (by rw [← hmany]; exact hT), hd]; rfl
      refine ⟨zeroP, by rw [hr], ⟨fun _ => rfl, fun h => by rw [hr] at h; exact absurd h (by decide)⟩, hstr.trans ⟨by omega, fun j hj => hot9 j (by omega)⟩⟩
    | true =>
      rw [hd] at h7
      cases hw : has T WTPT with
      | false =>
        rw [hw] at h8
        simp (config := { maxSteps := 1000000, implicitDefEqProofs := false }) (disch := omega) only [allW, allL, allB, Nat.sub_self, Nat.add_one_sub_one, Nat.reduceSub, cond_true, cond_false, oneOf, evalAll, partsA, optA, List.drop_zero, List.drop_succ_cons, List.cons_append, List.nil_append, Nat.reduceLT, Nat.reduceLeDiff, Nat.reduceEqDiff, Nat.reduceAdd, List.getD_cons_zero, List.getD_cons_succ, List.set_cons_zero, List.set_cons_succ, ↓reduceIte, if_true, if_false, beq_self_eq_true, ne_eq, eq_self, not_true_eq_false, not_false_eq_true, hn, h2, undef, h0, h4, h5, h7, h8, h9, eq_false d1, Bool.not_false, Bool.not_true, rbProf0]
        refine wstep_storeAll rszProf (by decide) htr rfl rfl rfl rfl ?_
        intro s9 ht9 hnx9 hot9
        have l9 := Thing.loadAll (P := Try.prog) (cs := zeroP) ragProf rszProf ht9 (c := 8) rfl
        simp (config := { maxSteps := 1000000, implicitDefEqProofs := false }) (disch := omega) only [allW, wfn_ret, wfn_normal, cond_true, cond_false, oneOf, evalAll, partsA, optA, List.drop_zero, List.drop_succ_cons, List.cons_append, List.nil_append, Nat.reduceLT, Nat.reduceLeDiff, Nat.reduceEqDiff, Nat.reduceAdd, List.getD_cons_zero, List.getD_cons_succ, List.set_cons_zero, List.set_cons_succ, ↓reduceIte, if_true, if_false, beq_self_eq_true, ne_eq, eq_self, not_true_eq_false, not_false_eq_true, hn, h2, l9, resultsA_cell, Try.results11]
        have hr : readP l = (8, []) := by rw [readP_some c1' c2 (by rw [← hmany]; exact hT), hd, hw]; rfl
        refine ⟨zeroP, by rw [hr], ⟨fun _ => rfl, fun h => by rw [hr] at h; exact absurd h (by decide)⟩, hstr.trans ⟨by omega, fun j hj => hot9 j (by omega)⟩⟩
      | true =>
        rw [hw] at h8
        have hr : readP l = (0, T) := by rw [readP_some c1' c2 (by rw [← hmany]; exact hT), hd, hw]; rfl
        have hok : ((headIs l ++ [y]).toArray.toList.all okCell) = true := by
          show ((headIs l ++ [y]).all okCell) = true
          rw [List.all_append, List.all_cons, hy.sees.okCell]; rfl
        simp (config := { maxSteps := 1000000, implicitDefEqProofs := false }) (disch := omega) only [allW, allL, allB, Nat.sub_self, Nat.add_one_sub_one, Nat.reduceSub, cond_true, cond_false, oneOf, evalAll, partsA, optA, List.drop_zero, List.drop_succ_cons, List.cons_append, List.nil_append, Nat.reduceLT, Nat.reduceLeDiff, Nat.reduceEqDiff, Nat.reduceAdd, List.getD_cons_zero, List.getD_cons_succ, List.set_cons_zero, List.set_cons_succ, ↓reduceIte, if_true, if_false, beq_self_eq_true, ne_eq, eq_self, not_true_eq_false, not_false_eq_true, undef, hn, h0, h2, h4, h5, h7, h8, h9, eq_false d1, Bool.not_false, Bool.not_true, hyl]
        refine wstep_storeAll rszProf (by decide) htr rfl rfl rfl hok ?_
        intro s11 ht11 hnx11 hot11
        have l11 := Thing.loadAll (P := Try.prog) (cs := headIs l ++ [y]) ragProf rszProf ht11 (c := 8) rfl
        simp (config := { maxSteps := 1000000, implicitDefEqProofs := false }) (disch := omega) only [allW, wfn_ret, wfn_normal, cond_true, cond_false, oneOf, evalAll, partsA, optA, List.drop_zero, List.drop_succ_cons, List.cons_append, List.nil_append, Nat.reduceLT, Nat.reduceLeDiff, Nat.reduceEqDiff, Nat.reduceAdd, List.getD_cons_zero, List.getD_cons_succ, List.set_cons_zero, List.set_cons_succ, ↓reduceIte, if_true, if_false, beq_self_eq_true, ne_eq, eq_self, not_true_eq_false, not_false_eq_true, hn, h2, l11, resultsA_cell, Try.results11]
        have hu11 : Turns (cptr s.next) s6 s11 := ⟨by omega, fun j hj hne => hot11 j (fun e => hne (by rw [e]; rfl))⟩
        have hy11 : Own s11 3 y T.length (tagsC T) := hy.turns hu11 (fun j hj => by have := hyF j hj; exact cptr_ne (by omega))
        exact ⟨_, by rw [hr], ⟨fun h => absurd (by rw [hr]) h, fun _ => ⟨y, rfl, by rw [hr]; exact hy11.sees⟩⟩, hstr.trans ⟨by omega, fun j hj => hot11 j (by omega)⟩⟩
end Go.Proofs.Ytbakljlaladpoaa
