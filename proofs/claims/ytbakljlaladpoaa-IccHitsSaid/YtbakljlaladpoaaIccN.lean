/-
  Profiles: the program's number in four bytes, parts put together, the law's tags.
-/
import Derived.Test.YtbakljlaladpoaaIccM
import Derived.Test.YtbakljlaladpoaaJoin
import Derived.Test.YtbakljlaladpoaaRBig
set_option linter.unusedSimpArgs false
set_option linter.unusedVariables false
namespace Go.Proofs.Ytbakljlaladpoaa
open Go.Cl Go.Cl.Icc
theorem of_any {lib : Prims} (hl : lib.at 25 = none) (hlj : lib.at 38 = none) (hz : lib.at 45 = some pNoZero) (s : ASt) (x : Value) (vs : List Value) (L : List (List UInt8)) (hx : Sees s 1 x L.length vs) (hp : Pieces s vs L) (hnl : L.length ≤ 4294967296) (hlen : L.flatten.length ≤ 4294967296) :
    Runs Try.prog lib 25 [x] s (Joined s L.flatten) := by
  refine Runs.enter 5 Try.func25 rfl hl rfl rfl ?_
  intro f hn hf
  have h0 : f.get 0 = x := hf 0
  clear hf
  simp (config := { maxSteps := 1000000, implicitDefEqProofs := false }) (disch := omega) only [allW, cond_true, cond_false, oneOf, evalAll, partsA, optA, List.drop_zero, List.drop_succ_cons, List.cons_append, List.nil_append, Nat.reduceLT, Nat.reduceLeDiff, Nat.reduceEqDiff, Nat.reduceAdd, List.getD_cons_zero, List.getD_cons_succ, List.set_cons_zero, List.set_cons_succ, ↓reduceIte, if_true, if_false, beq_self_eq_true, ne_eq, eq_self, not_true_eq_false, not_false_eq_true, hn, h0]
  refine (join_any hlj hz s x vs L hx hp hnl hlen).mono ?_
  intro v s1 hj
  simp (config := { maxSteps := 1000000, implicitDefEqProofs := false }) (disch := omega) only [allW, wfn_ret, wfn_normal, cond_true, cond_false, oneOf, evalAll, partsA, optA, List.drop_zero, List.drop_succ_cons, List.cons_append, List.nil_append, Nat.reduceLT, Nat.reduceLeDiff, Nat.reduceEqDiff, Nat.reduceAdd, List.getD_cons_zero, List.getD_cons_succ, List.set_cons_zero, List.set_cons_succ, ↓reduceIte, if_true, if_false, beq_self_eq_true, ne_eq, eq_self, not_true_eq_false, not_false_eq_true, hn, Try.results25]
  exact hj
theorem big_any {lib : Prims} (hl : lib.at 26 = none) (s : ASt) (n : Nat) (hn : n < 9223372036854775808) :
    Runs Try.prog lib 26 [.int .i64 (n : Nat)] s fun v s' => NewBytes s v s' (be 4 n) := by
  refine Runs.enter 15 Try.func26 rfl hl rfl rfl ?_
  intro f hnf hf
  have h0 : f.get 0 = .int .i64 (n : Nat) := hf 0
  clear hf
  have g3 := shrBytes Try.prog 3 .u64 n 3 (x := 24) rfl (by decide)
  have g2 := shrBytes Try.prog 3 .u64 n 2 (x := 16) rfl (by decide)
  have g1 := shrBytes Try.prog 3 .u64 n 1 (x := 8) rfl (by decide)
  simp (config := { maxSteps := 1000000, implicitDefEqProofs := false }) (disch := omega) only [allW, cond_true, cond_false, oneOf, evalAll, partsA, optA, List.drop_zero, List.drop_succ_cons, List.cons_append, List.nil_append, Nat.reduceLT, Nat.reduceLeDiff, Nat.reduceEqDiff, Nat.reduceAdd, List.getD_cons_zero, List.getD_cons_succ, List.set_cons_zero, List.set_cons_succ, ↓reduceIte, if_true, if_false, beq_self_eq_true, ne_eq, eq_self, not_true_eq_false, not_false_eq_true, hnf, h0, g3, g2, g1, conv_int Try.underlying3 Try.underlying5, u8_of, build4 Try.underlying31 szU8 zU8]
  refine wstep_newSlice (by rfl) ?_
  intro v s1 hv hF hst
  simp (config := { maxSteps := 1000000, implicitDefEqProofs := false }) (disch := omega) only [allW, wfn_ret, wfn_normal, cond_true, cond_false, oneOf, evalAll, partsA, optA, List.drop_zero, List.drop_succ_cons, List.cons_append, List.nil_append, Nat.reduceLT, Nat.reduceLeDiff, Nat.reduceEqDiff, Nat.reduceAdd, List.getD_cons_zero, List.getD_cons_succ, List.set_cons_zero, List.set_cons_succ, ↓reduceIte, if_true, if_false, beq_self_eq_true, ne_eq, eq_self, not_true_eq_false, not_false_eq_true, hnf, Try.results26]
  have e : be 4 n = [UInt8.ofNat (n / 256 ^ 3), UInt8.ofNat (n / 256 ^ 2), UInt8.ofNat (n / 256 ^ 1), UInt8.ofNat n] := by rw [be_four]
  exact ⟨by rw [e]; exact hv, hF, hst⟩
theorem szTagR : sizeB Try.prog 46 = some 3 := rszTag
theorem rfldE {s : ASt} {v : Value} {n : Nat} {l : List Value} (h : Sees s 3 v n l) {k : Nat} (hk : k < n) : fieldAddrA Try.prog 46 (elemPtr 3 v k) 0 = some (plusPtr (elemPtr 3 v k) 0) ∧ fieldAddrA Try.prog 46 (elemPtr 3 v k) 1 = some (plusPtr (elemPtr 3 v k) 1) ∧ fieldAddrA Try.prog 46 (elemPtr 3 v k) 2 = some (plusPtr (elemPtr 3 v k) 2) := by
  obtain ⟨i, off, c, e, _⟩ := h.cells hk
  rw [e]
  refine ⟨?_, ?_, ?_⟩ <;> · unfold fieldAddrA; rw [Try.underlying46]; simp [szInt, qszStr, plusPtr]
/-- What an element's fields are. -/
theorem tagLoads {P : Program} {eS eI : TypeId} (hS : isAggB P eS = some false) (hI : isAggB P eI = some false) {s : ASt} {v : Value} {T : List (List UInt8 × Int × Int)} (h : Sees s 3 v T.length (tagsC T)) {i : Nat} (hi : i < T.length) :
    loadA P s eS (plusPtr (elemPtr 3 v i) 0) = some (.string ⟨(T[i].1).toArray⟩) ∧ loadA P s eI (plusPtr (elemPtr 3 v i) 1) = some (.int .i64 T[i].2.1) ∧ loadA P s eI (plusPtr (elemPtr 3 v i) 2) = some (.int .i64 T[i].2.2) := by
  have hl0 := h.loadField (P := P) hS hi (j := 0) (by omega)
  have hl1 := h.loadField (P := P) hI hi (j := 1) (by omega)
  have hl2 := h.loadField (P := P) hI hi (j := 2) (by omega)
  rw [tagsC_getJ T i hi _ (by omega)] at hl0 hl1 hl2
  exact ⟨hl0, hl1, hl2⟩
set_option maxHeartbeats 4000000 in
theorem tagsL_any (s : ASt) (v : Value) (T : List (List UInt8 × Int × Int)) (hv : Sees s 3 v T.length (tagsC T)) (hT : T.length ≤ 1000) :
    Runs Try.prog libN 15 [v] s fun y s' => Own s' 3 y T.length (tagsC T) ∧ Fresh s.next y ∧ Stay s.next s s' := by
  refine Runs.enter 31 Try.func15 rfl rfl rfl rfl ?_
  intro f hn hf
  have h0 : f.get 0 = v := hf 0
  clear hf
  simp (config := { maxSteps := 1000000, implicitDefEqProofs := false }) (disch := omega) only [allW, cond_true, cond_false, oneOf, evalAll, partsA, optA, List.drop_zero, List.drop_succ_cons, List.cons_append, List.nil_append, Nat.reduceLT, Nat.reduceLeDiff, Nat.reduceEqDiff, Nat.reduceAdd, List.getD_cons_zero, List.getD_cons_succ, List.set_cons_zero, List.set_cons_succ, ↓reduceIte, if_true, if_false, beq_self_eq_true, ne_eq, eq_self, not_true_eq_false, not_false_eq_true, hn, h0]
  refine Comes.loopAt (fun z f s6 => ∃ (i : Nat) (y : Value), z = T.length - i ∧ i ≤ T.length ∧ Own s6 3 y i (tagsC (T.take i)) ∧ Fresh s.next y ∧ Stay s.next s s6 ∧ f.n = 31 ∧ f.get 0 = v ∧ f.get 3 = y ∧ f.get 4 = .int .i64 (i : Nat))
    ⟨0, .slice none 0 0, rfl, by omega, by rw [List.take_zero]; exact .nil, Fresh.nil _, Stay.refl _ _, by simp only [get_put, n_put, ↓reduceIte, Nat.reduceEqDiff, hn], by simp only [get_put, n_put, ↓reduceIte, Nat.reduceEqDiff, h0], by simp only [get_put, n_put, ↓reduceIte, Nat.reduceEqDiff], by simp only [get_put, n_put, ↓reduceIte, Nat.reduceEqDiff]; rfl⟩ ?_
  clear hn h0 f
  rintro z f s6 ⟨i, y, rfl, hi, hy, hyF, hst6, hn, h0, h3, h4⟩
  have hv6 := hv.keeps hst6
  have hn6 := hst6.next
  by_cases hlt : i < T.length
  · have d1 : (i : Int) < (T.length : Int) := by omega
    simp (config := { maxSteps := 1000000, implicitDefEqProofs := false }) (disch := omega) only [allW, allL, allB, Nat.sub_self, Nat.add_one_sub_one, Nat.reduceSub, cond_true, cond_false, oneOf, evalAll, partsA, optA, List.drop_zero, List.drop_succ_cons, List.cons_append, List.nil_append, Nat.reduceLT, Nat.reduceLeDiff, Nat.reduceEqDiff, Nat.reduceAdd, List.getD_cons_zero, List.getD_cons_succ, List.set_cons_zero, List.set_cons_succ, ↓reduceIte, if_true, if_false, beq_self_eq_true, ne_eq, eq_self, not_true_eq_false, not_false_eq_true, hn, h0, h3, h4, hv6.lenA Try.underlying38, eq_true d1]
    obtain ⟨A, hA⟩ : ∃ A : Nat → Bool, A = fun j => decide (j < s6.next) := ⟨_, rfl⟩
    have hAl : ∀ j, A j = true → j < s6.next := by
      intro j h
      rw [hA] at h
      exact of_decide_eq_true h
    have hAo : ∀ j, j < s6.next → A j = true := fun j h => by rw [hA]; exact decide_eq_true h
    refine LB.Drawn.looseK A hAl 0 1 (by kernel_rfl) (by kernel_rfl) ?_
    have hsp := Stay.spare s6 1
    have hnT : (spare s6 1).next = s6.next + 1 := spare_next _ _
    have hv7 := hv6.keeps hsp
    have hidx := hv7.indexAddr (P := Try.prog) (k := .i64) (x := (i : Int)) Try.underlying38 szTagR (by omega) (by omega)
    rw [Int.toNat_natCast] at hidx
    obtain ⟨q0, q1, q2⟩ := rfldE hv7 hlt
    obtain ⟨hl0, hl1, hl2⟩ := tagLoads (P := Try.prog) qagStr agInt hv7 hlt
    have hvT : ∀ t, valEq (.agg (tagC t).toArray) (.agg (tagC t).toArray) = true := fun t => by simp [valEq, valEqL, valEq1, tagC]
    have bt : buildA Try.prog 35 [(0, .string ⟨(T[i].1).toArray⟩), (1, .int .i64 T[i].2.1), (2, .int .i64 T[i].2.2)] = some (.agg (tagC T[i]).toArray) := bTag _ _ _
    simp (config := { maxSteps := 1000000, implicitDefEqProofs := false }) (disch := omega) only [allW, allL, allB, Nat.sub_self, Nat.add_one_sub_one, Nat.reduceSub, cond_true, cond_false, oneOf, evalAll, partsA, optA, List.drop_zero, List.drop_succ_cons, List.cons_append, List.nil_append, Nat.reduceLT, Nat.reduceLeDiff, Nat.reduceEqDiff, Nat.reduceAdd, List.getD_cons_zero, List.getD_cons_succ, List.set_cons_zero, List.set_cons_succ, ↓reduceIte, if_true, if_false, beq_self_eq_true, ne_eq, eq_self, not_true_eq_false, not_false_eq_true, hn, h0, h3, h4, hv.self, hy.self, valEq_int, valEq_string, valEq_elemPtr, valEq_plus, hidx, q0, q1, q2, LA.lowV_plus hv6 hAo hlt, hl0, hl1, hl2, bt, hvT, buildAgg1 (cs := (tagC T[i]).toArray) Try.underlying25 szTag zTag plTag rfl rfl (by decide)]
    refine LB.smake_newSlice (base := s6.next) (by rfl) (by omega) (Nat.le_refl _) ?_
    intro bs s7 hbs hid hst7 hnx7 hot7
    have hst67 : Stay s6.next s6 s7 := hsp.trans ⟨hst7.next, fun j hj => hst7.get j (by omega)⟩
    have hn7' := hst67.next
    simp (config := { maxSteps := 1000000, implicitDefEqProofs := false }) (disch := omega) only [allW, allL, allB, Nat.sub_self, Nat.add_one_sub_one, Nat.reduceSub, cond_true, cond_false, oneOf, evalAll, partsA, optA, List.drop_zero, List.drop_succ_cons, List.cons_append, List.nil_append, Nat.reduceLT, Nat.reduceLeDiff, Nat.reduceEqDiff, Nat.reduceAdd, List.getD_cons_zero, List.getD_cons_succ, List.set_cons_zero, List.set_cons_succ, ↓reduceIte, if_true, if_false, beq_self_eq_true, ne_eq, eq_self, not_true_eq_false, not_false_eq_true, hn, h0, h3, h4, hy.self]
    refine LB.sstep_append Try.underlying25 Try.underlying25 (.inl ⟨_, rfl⟩) szTag byTag zTag rfl (hy.keeps hst67) hbs.sees.src rfl (by decide) rfl (by omega) (by omega) (base := s.next) hyF (by omega) (fun h => absurd rfl h) (fun j hj => by have := hAl j hj; omega) ?_
    intro y' s8 hy8 hF8 hut8 hor
    simp (config := { maxSteps := 1000000, implicitDefEqProofs := false }) (disch := omega) only [allW, allL, allB, Nat.sub_self, Nat.add_one_sub_one, Nat.reduceSub, cond_true, cond_false, oneOf, evalAll, partsA, optA, List.drop_zero, List.drop_succ_cons, List.cons_append, List.nil_append, Nat.reduceLT, Nat.reduceLeDiff, Nat.reduceEqDiff, Nat.reduceAdd, List.getD_cons_zero, List.getD_cons_succ, List.set_cons_zero, List.set_cons_succ, ↓reduceIte, if_true, if_false, beq_self_eq_true, ne_eq, eq_self, not_true_eq_false, not_false_eq_true, hn, h0, h3, h4, hy8.self, wrapI]
    refine wround_next (T.length - (i + 1)) (by omega) ⟨i + 1, y', rfl, by omega, by rw [tagsC_take T i hlt]; exact hy8, hF8, (hst6.trans (hst67.weaken hn6)).trans (hut8.keeps hyF (by omega)), by simp only [get_put, n_put, ↓reduceIte, Nat.reduceEqDiff, hn], by simp only [get_put, n_put, ↓reduceIte, Nat.reduceEqDiff, h0], by simp only [get_put, n_put, ↓reduceIte, Nat.reduceEqDiff], by simp only [get_put, n_put, ↓reduceIte, Nat.reduceEqDiff]; rfl⟩
  · obtain rfl : i = T.length := by omega
    rw [List.take_length] at hy
    have d1 : ¬ ((T.length : Nat) : Int) < ((T.length : Nat) : Int) := by omega
    simp (config := { maxSteps := 1000000, implicitDefEqProofs := false }) (disch := omega) only [allW, wfn_ret, wfn_normal, cond_true, cond_false, oneOf, evalAll, partsA, optA, List.drop_zero, List.drop_succ_cons, List.cons_append, List.nil_append, Nat.reduceLT, Nat.reduceLeDiff, Nat.reduceEqDiff, Nat.reduceAdd, List.getD_cons_zero, List.getD_cons_succ, List.set_cons_zero, List.set_cons_succ, ↓reduceIte, if_true, if_false, beq_self_eq_true, ne_eq, eq_self, not_true_eq_false, not_false_eq_true, hn, h0, h3, h4, hv6.lenA Try.underlying38, eq_false d1, Try.results15]
    exact ⟨hy, hyF, hst6⟩
end Go.Proofs.Ytbakljlaladpoaa
