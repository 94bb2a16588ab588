/-
  Profiles: the program's Make.
-/
import Derived.Test.YtbakljlaladpoaaIccN
import Derived.Test.YtbakljlaladpoaaIccPl
import Derived.Test.YtbakljlaladpoaaLooseP
set_option linter.unusedSimpArgs false
set_option linter.unusedVariables false
namespace Go.Cl.Icc
theorem parts_len {sp : List UInt8} (h : parts sp ≠ 0) : sp.length = 4 := by
  unfold parts at h
  split at h
  · rename_i e; rw [e]; rfl
  · split at h
    · rename_i e; rcases e with e | e <;> rw [e] <;> rfl
    · split at h
      · rename_i e; rw [e]; rfl
      · exact absurd rfl h
def okAll (sp : List UInt8) (T : List (List UInt8 × Int × Int)) : Prop := parts sp ≠ 0 ∧ T.length ≤ 100 ∧ ∀ j, j < T.length → okMk T j
end Go.Cl.Icc
namespace Go.Cl.Icc
theorem over_ofBytes (l : List UInt8) (off : Nat) (b : List UInt8) : over (ofBytes l) off (ofBytes b) = ofBytes (overB l off b) := by
  unfold over overB
  rw [ofBytes_append, ofBytes_append, ofBytes_take, ofBytes_drop, ofBytes_length]
theorem set_ofBytes (l : List UInt8) (i : Nat) (b : UInt8) : (ofBytes l).set i (.int .u8 (b.toNat : Int)) = ofBytes (l.set i b) := by simp [ofBytes, List.map_set]
end Go.Cl.Icc
namespace Go.Proofs.Ytbakljlaladpoaa
open Go.Cl Go.Cl.Icc
theorem tagsC_takeC (T : List (List UInt8 × Int × Int)) : ∀ i, (tagsC T).take (i * 3) = tagsC (T.take i) := by
  induction T with
  | nil => intro i; simp [tagsC]
  | cons t r ih =>
    intro i
    cases i with
    | zero => simp [tagsC]
    | succ i =>
      have := ih i
      simp only [tagsC, List.flatMap_cons, List.take_succ_cons] at this ⊢
      rw [← this]
      have e : (i + 1) * 3 = (tagC t).length + i * 3 := by simp [tagC]; omega
      rw [e, List.take_length_add_append]
theorem tagsC_at2 (T : List (List UInt8 × Int × Int)) {i : Nat} (h : i < T.length) : T.getD i nought = T[i] := by simp [List.getD, List.getElem?_eq_getElem h]
theorem tcStr : textConv Try.prog 9 31 = true := by kernel_rfl
theorem make128 (s : ASt) : makeSliceA Try.prog s 31 (.int .i64 128) (.int .i64 128) = newSlice s (List.replicate 128 (.int .u8 0)) 128 1 := makeInts Try.underlying31 szU8 zU8 byU8 (n := 128) (by decide) (by decide)
theorem valT (t : List UInt8 × Int × Int) : valEq (.agg (tagC t).toArray) (.agg (tagC t).toArray) = true := by simp [valEq, valEqL, valEq1, tagC]
def Made (s : ASt) (sp : List UInt8) (T : List (List UInt8 × Int × Int)) (v : Value) (s' : ASt) : Prop := (okAll sp T → ∃ b, v = .tuple #[b, .int .i64 0] ∧ NewBytes s b s' (bytesM sp T)) ∧ (¬ okAll sp T → v = .tuple #[.slice none 0 0, .int .i64 1] ∧ Stay s.next s s')
set_option maxHeartbeats 8000000 in
theorem make_any (s : ASt) (sp : List UInt8) (v : Value) (T : List (List UInt8 × Int × Int)) (hv : Sees s 3 v T.length (tagsC T)) (hT : T.length ≤ 1000) :
    Runs Try.prog libN 9 [.string ⟨sp.toArray⟩, v] s (Made s sp T) := by
  refine Runs.enter 102 Try.func9 rfl rfl rfl rfl ?_
  intro f hn hf
  have h0 : f.get 0 = .string ⟨sp.toArray⟩ := hf 0
  have h1 : f.get 1 = v := hf 1
  clear hf
  have hst : Stay s.next s s := Stay.refl _ _
  simp (config := { maxSteps := 1000000, implicitDefEqProofs := false }) (disch := omega) only [allW, cond_true, cond_false, oneOf, evalAll, partsA, optA, List.drop_zero, List.drop_succ_cons, List.cons_append, List.nil_append, Nat.reduceLT, Nat.reduceLeDiff, Nat.reduceEqDiff, Nat.reduceAdd, List.getD_cons_zero, List.getD_cons_succ, List.set_cons_zero, List.set_cons_succ, ↓reduceIte, if_true, if_false, beq_self_eq_true, ne_eq, eq_self, not_true_eq_false, not_false_eq_true, hn, h0, h1]
  refine (parts_any rfl s sp).mono ?_
  rintro _ s1 ⟨rfl, hs1⟩
  rw [hs1]; clear hs1 s1
  by_cases c1 : ((parts sp : Nat) : Int) = 0
  · simp (config := { maxSteps := 1000000, implicitDefEqProofs := false }) (disch := omega) only [allW, wfn_ret, wfn_normal, cond_true, cond_false, oneOf, evalAll, partsA, optA, List.drop_zero, List.drop_succ_cons, List.cons_append, List.nil_append, Nat.reduceLT, Nat.reduceLeDiff, Nat.reduceEqDiff, Nat.reduceAdd, List.getD_cons_zero, List.getD_cons_succ, List.set_cons_zero, List.set_cons_succ, ↓reduceIte, if_true, if_false, beq_self_eq_true, ne_eq, eq_self, not_true_eq_false, not_false_eq_true, undef, hn, h0, h1, eq_true c1, Try.results9]
    exact ⟨fun h => absurd h (fun h => h.1 (by omega)), fun _ => ⟨rfl, hst⟩⟩
  by_cases c2 : (100 : Int) < (T.length : Int)
  · simp (config := { maxSteps := 1000000, implicitDefEqProofs := false }) (disch := omega) only [allW, wfn_ret, wfn_normal, cond_true, cond_false, oneOf, evalAll, partsA, optA, List.drop_zero, List.drop_succ_cons, List.cons_append, List.nil_append, Nat.reduceLT, Nat.reduceLeDiff, Nat.reduceEqDiff, Nat.reduceAdd, List.getD_cons_zero, List.getD_cons_succ, List.set_cons_zero, List.set_cons_succ, ↓reduceIte, if_true, if_false, beq_self_eq_true, ne_eq, eq_self, not_true_eq_false, not_false_eq_true, undef, hn, h0, h1, eq_false c1, eq_true c2, hv.lenA Try.underlying25, Try.results9]
    exact ⟨fun h => absurd h (fun h => by have := h.2.1; omega), fun _ => ⟨rfl, hst⟩⟩
  simp (config := { maxSteps := 1000000, implicitDefEqProofs := false }) (disch := omega) only [allW, cond_true, cond_false, oneOf, evalAll, partsA, optA, List.drop_zero, List.drop_succ_cons, List.cons_append, List.nil_append, Nat.reduceLT, Nat.reduceLeDiff, Nat.reduceEqDiff, Nat.reduceAdd, List.getD_cons_zero, List.getD_cons_succ, List.set_cons_zero, List.set_cons_succ, ↓reduceIte, if_true, if_false, beq_self_eq_true, ne_eq, eq_self, not_true_eq_false, not_false_eq_true, undef, hn, h0, h1, eq_false c1, eq_false c2, hv.lenA Try.underlying25, hv.self]
  refine Comes.loopOut (fun z f s2 => ∃ (i : Nat) (r bd : Value), z = T.length - i ∧ i ≤ T.length ∧ (∀ j, j < i → okMk T j) ∧ Sees s2 1 r (rowsTo T i).length (ofBytes (rowsTo T i)) ∧ Own s2 1 bd (bodyTo T i) (List.replicate (bodyTo T i) (.int .u8 0)) ∧ Fresh s.next bd ∧ Stay s.next s s2 ∧ f.n = 102 ∧ f.get 0 = .string ⟨sp.toArray⟩ ∧ f.get 1 = v ∧ f.get 6 = r ∧ f.get 7 = bd ∧ f.get 19 = v ∧ f.get 20 = .int .i64 (T.length : Nat) ∧ f.get 21 = .int .i64 (i : Nat))
    (fun z f s2 => (z = .ret ∧ ¬ okAll sp T ∧ Stay s.next s s2 ∧ f.n = 102 ∧ f.get 4 = .slice none 0 0 ∧ f.get 5 = .int .i64 1) ∨ (z = .exit 0 ∧ okAll sp T ∧ ∃ (r bd : Value), Sees s2 1 r (rowsTo T T.length).length (ofBytes (rowsTo T T.length)) ∧ Own s2 1 bd (bodyTo T T.length) (List.replicate (bodyTo T T.length) (.int .u8 0)) ∧ Stay s.next s s2 ∧ f.n = 102 ∧ f.get 0 = .string ⟨sp.toArray⟩ ∧ f.get 1 = v ∧ f.get 6 = r ∧ f.get 7 = bd))
    ⟨0, .slice none 0 0, .slice none 0 0, rfl, by omega, fun j hj => by omega, .nil, .nil, Fresh.nil _, Stay.refl _ _, by simp only [get_put, n_put, ↓reduceIte, Nat.reduceEqDiff, hn], by simp only [get_put, n_put, ↓reduceIte, Nat.reduceEqDiff, h0], by simp only [get_put, n_put, ↓reduceIte, Nat.reduceEqDiff, h1], by simp only [get_put, n_put, ↓reduceIte, Nat.reduceEqDiff], by simp only [get_put, n_put, ↓reduceIte, Nat.reduceEqDiff], by simp only [get_put, n_put, ↓reduceIte, Nat.reduceEqDiff], by simp only [get_put, n_put, ↓reduceIte, Nat.reduceEqDiff], by simp only [get_put, n_put, ↓reduceIte, Nat.reduceEqDiff]; rfl⟩ ?_ ?_
  · clear hn h0 h1 f hst
    rintro Q hQ z f s2 ⟨i, r, bd, rfl, hi, hok, hr, hbd, hbF, hst, hn, h0, h1, h6, h7, h19, h20, h21⟩
    have hv2 := hv.keeps hst
    have hn2 := hst.next
    by_cases hlt : i < T.length
    · have d1 : (i : Int) < (T.length : Int) := by omega
      have hidx := hv2.indexAddr (P := Try.prog) (k := .i64) (x := (i : Int)) Try.underlying25 szTag (by omega) (by omega)
      rw [Int.toNat_natCast] at hidx
      have hld := hv2.loadAgg (P := Try.prog) agTag szTag hlt
      rw [tagsC_agg T i hlt] at hld
      have hd4 : (tagC ([], 0, 0)).length + 1 = 4 := rfl
      simp (config := { maxSteps := 1000000, implicitDefEqProofs := false }) (disch := omega) only [allW, allL, allB, Nat.sub_self, Nat.add_one_sub_one, Nat.reduceSub, cond_true, cond_false, oneOf, evalAll, partsA, optA, List.drop_zero, List.drop_succ_cons, List.cons_append, List.nil_append, Nat.reduceLT, Nat.reduceLeDiff, Nat.reduceEqDiff, Nat.reduceAdd, List.getD_cons_zero, List.getD_cons_succ, List.set_cons_zero, List.set_cons_succ, ↓reduceIte, if_true, if_false, beq_self_eq_true, ne_eq, eq_self, not_true_eq_false, not_false_eq_true, hn, h0, h1, h6, h7, h19, h20, h21, eq_true d1, hidx, hld, zTag, plTag]
      refine wstep_newPtr ?_
      intro s3 ht3 hst3 hnx3
      simp (config := { maxSteps := 1000000, implicitDefEqProofs := false }) (disch := omega) only [allW, allL, allB, Nat.sub_self, Nat.add_one_sub_one, Nat.reduceSub, cond_true, cond_false, oneOf, evalAll, partsA, optA, List.drop_zero, List.drop_succ_cons, List.cons_append, List.nil_append, Nat.reduceLT, Nat.reduceLeDiff, Nat.reduceEqDiff, Nat.reduceAdd, List.getD_cons_zero, List.getD_cons_succ, List.set_cons_zero, List.set_cons_succ, ↓reduceIte, if_true, if_false, beq_self_eq_true, ne_eq, eq_self, not_true_eq_false, not_false_eq_true, hn, h0, h1, h6, h7, h19, h20, h21, hd4]
      refine wstep_storeAll szTag (by decide) ht3 rfl rfl rfl rfl ?_
      intro s4 ht4 hnx4 hot4
      have ht4 : Thing s4 s2.next (tagC T[i]) := ht4
      have hst24 : Stay s2.next s2 s4 := hst3.trans ⟨by omega, fun j hj => hot4 j (by omega)⟩
      have hst4 := hst.trans (hst24.weaken hn2)
      obtain ⟨nm, at', sz, htt⟩ : ∃ a b c, T[i] = (a, b, c) := ⟨_, _, _, rfl⟩
      have hgd := tagsC_at2 T hlt
      rw [htt] at ht4 hgd
      have lt0 := ht4.load (P := Try.prog) qagStr (off := 0) (c := 4) rfl (by simp [tagC])
      have lt2 := ht4.load (P := Try.prog) agInt (off := 2) (c := 4) rfl (by simp [tagC])
      simp only [tagC, get_put, n_put, ↓reduceIte, Nat.reduceEqDiff, List.getD_cons_zero, List.getD_cons_succ] at lt0 lt2
      obtain ⟨A, hA⟩ : ∃ A : Nat → Bool, A = fun j => decide (j < s4.next) := ⟨_, rfl⟩
      have hAl : ∀ j, A j = true → j < s4.next := by
        intro j h
        rw [hA] at h
        exact of_decide_eq_true h
      have hAo : ∀ j, j < s4.next → A j = true := fun j h => by rw [hA]; exact decide_eq_true h
      have hlow : ∀ k, LA.lowV A (some (.pointer (some ⟨s2.next, k, some 4⟩))) = true := fun k => LA.lowV_ptr (A := A) (i := s2.next) (hAo _ ht4.lt)
      have hv4 := hv.keeps hst4
      have hn4 := hst4.next
      obtain ⟨w, hw⟩ : ∃ w, w = !(decide (okMk T i)) := ⟨_, rfl⟩
      simp only [allW, allL, allB, Nat.sub_self, Nat.add_one_sub_one, Nat.reduceSub, cond_true, cond_false, oneOf, evalAll, partsA, optA, List.drop_zero, List.drop_succ_cons, List.cons_append, List.nil_append, Nat.reduceLT, Nat.reduceLeDiff, Nat.reduceEqDiff, Nat.reduceAdd, List.getD_cons_zero, List.getD_cons_succ, List.set_cons_zero, List.set_cons_succ, ↓reduceIte, if_true, if_false, beq_self_eq_true, ne_eq, eq_self, not_true_eq_false, not_false_eq_true]
      refine wdraw_cut (fun f' s' => Stay s4.next s4 s' ∧ f'.n = 102 ∧ f'.get 0 = .string ⟨sp.toArray⟩ ∧ f'.get 1 = v ∧ f'.get 6 = r ∧ f'.get 7 = bd ∧ f'.get 9 = .pointer (some ⟨s2.next, 0, some 4⟩) ∧ f'.get 19 = v ∧ f'.get 20 = .int .i64 (T.length : Nat) ∧ f'.get 21 = .int .i64 (i : Nat) ∧ f'.get 47 = .bool w) ?_ ?_
      · refine LB.Drawn.looseK A hAl 1 0 (by kernel_rfl) (by kernel_rfl) ?_
        rw [show spare s4 0 = s4 from rfl]
        by_cases e1 : (nm.length : Int) = 4
        rotate_left
        · obtain rfl : w = true := by rw [hw, decide_eq_false (fun h => e1 (by have := h.1; rw [hgd] at this; exact congrArg Int.ofNat this))]; rfl
          simp (config := { maxSteps := 1000000, implicitDefEqProofs := false }) (disch := omega) only [allW, allL, allB, Nat.sub_self, Nat.add_one_sub_one, Nat.reduceSub, cond_true, cond_false, oneOf, evalAll, partsA, optA, List.drop_zero, List.drop_succ_cons, List.cons_append, List.nil_append, Nat.reduceLT, Nat.reduceLeDiff, Nat.reduceEqDiff, Nat.reduceAdd, List.getD_cons_zero, List.getD_cons_succ, List.set_cons_zero, List.set_cons_succ, ↓reduceIte, if_true, if_false, beq_self_eq_true, ne_eq, eq_self, not_true_eq_false, not_false_eq_true, undef, hn, h0, h1, h6, h7, h19, h20, h21, hlow, tfld0, tfld2, lt0, lt2, str_len Try.underlying9, bin_neq, eq_false e1]
          exact Stay.refl _ _
        have hF : w = true → w = true := id
        by_cases e2 : sz < 0
        · obtain rfl : w = true := by rw [hw, decide_eq_false (fun h => by have := h.2.1; rw [hgd] at this; have : 0 ≤ sz := this; omega)]; rfl
          simp (config := { maxSteps := 1000000, implicitDefEqProofs := false }) (disch := omega) only [allW, allL, allB, Nat.sub_self, Nat.add_one_sub_one, Nat.reduceSub, cond_true, cond_false, oneOf, evalAll, partsA, optA, List.drop_zero, List.drop_succ_cons, List.cons_append, List.nil_append, Nat.reduceLT, Nat.reduceLeDiff, Nat.reduceEqDiff, Nat.reduceAdd, List.getD_cons_zero, List.getD_cons_succ, List.set_cons_zero, List.set_cons_succ, ↓reduceIte, if_true, if_false, beq_self_eq_true, ne_eq, eq_self, not_true_eq_false, not_false_eq_true, undef, hn, h0, h1, h6, h7, h19, h20, h21, hlow, tfld0, tfld2, lt0, lt2, str_len Try.underlying9, bin_neq, eq_true e1, eq_true e2]
          exact Stay.refl _ _
        by_cases e3 : (65535 : Int) < sz
        · obtain rfl : w = true := by rw [hw, decide_eq_false (fun h => by have := h.2.2.1; rw [hgd] at this; have : sz ≤ 65535 := this; omega)]; rfl
          simp (config := { maxSteps := 1000000, implicitDefEqProofs := false }) (disch := omega) only [allW, allL, allB, Nat.sub_self, Nat.add_one_sub_one, Nat.reduceSub, cond_true, cond_false, oneOf, evalAll, partsA, optA, List.drop_zero, List.drop_succ_cons, List.cons_append, List.nil_append, Nat.reduceLT, Nat.reduceLeDiff, Nat.reduceEqDiff, Nat.reduceAdd, List.getD_cons_zero, List.getD_cons_succ, List.set_cons_zero, List.set_cons_succ, ↓reduceIte, if_true, if_false, beq_self_eq_true, ne_eq, eq_self, not_true_eq_false, not_false_eq_true, undef, hn, h0, h1, h6, h7, h19, h20, h21, hlow, tfld0, tfld2, lt0, lt2, str_len Try.underlying9, bin_neq, eq_true e1, eq_false e2, eq_true e3]
          exact Stay.refl _ _
        have hcut := hv4.cut (lo := 0) (hi := i) (by omega) hi
        rw [Nat.zero_mul, List.drop_zero, Nat.sub_zero, tagsC_takeC] at hcut
        have htl : (T.take i).length = i := by rw [List.length_take]; omega
        simp (config := { maxSteps := 1000000, implicitDefEqProofs := false }) (disch := omega) only [allW, allL, allB, Nat.sub_self, Nat.add_one_sub_one, Nat.reduceSub, cond_true, cond_false, oneOf, evalAll, partsA, optA, List.drop_zero, List.drop_succ_cons, List.cons_append, List.nil_append, Nat.reduceLT, Nat.reduceLeDiff, Nat.reduceEqDiff, Nat.reduceAdd, List.getD_cons_zero, List.getD_cons_succ, List.set_cons_zero, List.set_cons_succ, ↓reduceIte, if_true, if_false, beq_self_eq_true, ne_eq, eq_self, not_true_eq_false, not_false_eq_true, undef, hn, h0, h1, h6, h7, h19, h20, h21, hlow, tfld0, tfld2, lt0, lt2, str_len Try.underlying9, bin_neq, eq_true e1, eq_false e2, eq_false e3, hv4.self, LA.lowV_old hv4 hAo, hv4.sliceHigh Try.underlying25 szTag, Int.toNat_natCast]
        refine (named_any (lib := libN) rfl rfl rfl rfl s4 _ nm (T.take i) (by rw [htl]; exact hcut) (by omega)).mono ?_
        rintro _ s5 ⟨rfl, hst5⟩
        refine ⟨fun _ => LA.Stay.toA hAl hst5, ?_⟩
        have hb : w = ((T.take i).any fun t => decide (t.1 = nm)) := by
          rw [hw]
          cases hh : ((T.take i).any fun t => decide (t.1 = nm)) with
          | true => rw [decide_eq_false (fun h => by have := h.2.2.2; rw [hgd] at this; rw [hh] at this; cases this)]; rfl
          | false => rw [decide_eq_true (show okMk T i from ⟨by rw [hgd]; show nm.length = 4; omega, by rw [hgd]; show 0 ≤ sz; omega, by rw [hgd]; show sz ≤ 65535; omega, by rw [hgd]; exact hh⟩)]; rfl
        rw [← hb]
        simp (config := { maxSteps := 1000000, implicitDefEqProofs := false }) (disch := omega) only [allW, allL, allB, Nat.sub_self, Nat.add_one_sub_one, Nat.reduceSub, cond_true, cond_false, oneOf, evalAll, partsA, optA, List.drop_zero, List.drop_succ_cons, List.cons_append, List.nil_append, Nat.reduceLT, Nat.reduceLeDiff, Nat.reduceEqDiff, Nat.reduceAdd, List.getD_cons_zero, List.getD_cons_succ, List.set_cons_zero, List.set_cons_succ, ↓reduceIte, if_true, if_false, beq_self_eq_true, ne_eq, eq_self, not_true_eq_false, not_false_eq_true, undef, hn, h0, h1, h6, h7, h19, h20, h21]
        exact hst5
      clear hn h0 h1 h6 h7 h19 h20 h21 f
      rintro f s5 ⟨hst5, hn, h0, h1, h6, h7, h9, h19, h20, h21, h47⟩
      have hst25 := hst24.trans (hst5.weaken hst24.next)
      have hst5' := hst4.trans (hst5.weaken hn4)
      have hn5 := hst5.next
      by_cases hki : okMk T i
      rotate_left
      · obtain rfl : w = true := by rw [hw, decide_eq_false hki]; rfl
        simp (config := { maxSteps := 1000000, implicitDefEqProofs := false }) (disch := omega) only [allW, allL, allB, Nat.sub_self, Nat.add_one_sub_one, Nat.reduceSub, cond_true, cond_false, oneOf, evalAll, partsA, optA, List.drop_zero, List.drop_succ_cons, List.cons_append, List.nil_append, Nat.reduceLT, Nat.reduceLeDiff, Nat.reduceEqDiff, Nat.reduceAdd, List.getD_cons_zero, List.getD_cons_succ, List.set_cons_zero, List.set_cons_succ, ↓reduceIte, if_true, if_false, beq_self_eq_true, ne_eq, eq_self, not_true_eq_false, not_false_eq_true, hn, h47]
        refine hQ _ _ _ (.inl ⟨rfl, fun h => hki (h.2.2 i hlt), hst5', by simp only [get_put, n_put, ↓reduceIte, Nat.reduceEqDiff, hn], by simp only [get_put, n_put, ↓reduceIte, Nat.reduceEqDiff], by simp only [get_put, n_put, ↓reduceIte, Nat.reduceEqDiff]⟩)
      obtain rfl : w = false := by rw [hw, decide_eq_true hki]; rfl
      have hr5 := hr.keeps hst25
      have hbd5 := hbd.keeps hst25
      have ht5 := ht4.keeps hst5
      have hv5 := hv.keeps hst5'
      have hok' : ∀ j, j < i + 1 → okMk T j := fun j hj => by
        rcases Nat.lt_succ_iff_lt_or_eq.mp hj with h | h
        · exact hok j h
        · rw [h]; exact hki
      have hkn : nm.length = 4 := by have := hki.1; rw [hgd] at this; exact this
      have hk0 : 0 ≤ sz := by have := hki.2.1; rw [hgd] at this; exact this
      have hk1 : sz ≤ 65535 := by have := hki.2.2.1; rw [hgd] at this; exact this
      have hbl := bodyTo_le hok
      have hrl := rowsTo_length hok
      have lt0 : loadA Try.prog s5 9 (.pointer (some ⟨s2.next, 0, some 4⟩)) = some (.string ⟨nm.toArray⟩) := ht5.load qagStr (off := 0) (c := 4) rfl (by simp [tagC])
      have lt2 : ∀ t, Stay s5.next s5 t → loadA Try.prog t 3 (.pointer (some ⟨s2.next, 2, some 4⟩)) = some (.int .i64 sz) := fun t h => (ht5.keeps h).load agInt (off := 2) (c := 4) rfl (by simp [tagC])
      clear hA hAl hAo hlow
      simp (config := { maxSteps := 1000000, implicitDefEqProofs := false }) (disch := omega) only [allW, allL, allB, Nat.sub_self, Nat.add_one_sub_one, Nat.reduceSub, cond_true, cond_false, oneOf, evalAll, partsA, optA, List.drop_zero, List.drop_succ_cons, List.cons_append, List.nil_append, Nat.reduceLT, Nat.reduceLeDiff, Nat.reduceEqDiff, Nat.reduceAdd, List.getD_cons_zero, List.getD_cons_succ, List.set_cons_zero, List.set_cons_succ, ↓reduceIte, if_true, if_false, beq_self_eq_true, ne_eq, eq_self, not_true_eq_false, not_false_eq_true, hn, h47]
      obtain ⟨A, hA⟩ : ∃ A : Nat → Bool, A = fun j => decide (j < s5.next) := ⟨_, rfl⟩
      have hAl : ∀ j, A j = true → j < s5.next := by
        intro j h
        rw [hA] at h
        exact of_decide_eq_true h
      have hAo : ∀ j, j < s5.next → A j = true := fun j h => by rw [hA]; exact decide_eq_true h
      have hlow : ∀ k, LA.lowV A (some (.pointer (some ⟨s2.next, k, some 4⟩))) = true := fun k => LA.lowV_ptr (A := A) (i := s2.next) (hAo _ ht5.lt)
      refine LP.Drawn.looseK A hAl 3 2 [[], [], [3, 15]] (by kernel_rfl) (by kernel_rfl) ?_
      have hsp := Stay.spare s5 2
      have hnT : (spare s5 2).next = s5.next + 2 := spare_next _ _
      have lt0' : loadA Try.prog (spare s5 2) 9 (.pointer (some ⟨s2.next, 0, some 4⟩)) = some (.string ⟨nm.toArray⟩) := (ht5.keeps hsp).load qagStr (off := 0) (c := 4) rfl (by simp [tagC])
      have k58 : 132 + 12 * (T.length : Int) + (bodyTo T i : Int) = ((132 + 12 * T.length + bodyTo T i : Nat) : Int) := by omega
      have ksz : sz = ((sz.toNat : Nat) : Int) := by omega
      simp (config := { maxSteps := 1000000, implicitDefEqProofs := false }) (disch := omega) only [allW, allL, allP, cond_true, cond_false, oneOf, evalAll, partsA, optA, List.drop_zero, List.drop_succ_cons, List.cons_append, List.nil_append, Nat.reduceLT, Nat.reduceLeDiff, Nat.reduceEqDiff, Nat.reduceAdd, List.getD_cons_zero, List.getD_cons_succ, List.set_cons_zero, List.set_cons_succ, ↓reduceIte, if_true, if_false, beq_self_eq_true, ne_eq, eq_self, not_true_eq_false, not_false_eq_true, List.tail_cons, List.headD_cons, Bool.true_or, Bool.false_or, Nat.reduceBEq, Nat.reduceSub, Nat.sub_self, Nat.add_one_sub_one, hn, h0, h1, h6, h7, h9, hlow, tfld0, tfld2, lt0', k58, hr5.self, hbd5.self, hv5.self, LA.lowL_sees hv5, LA.lowL_sees hbd5.sees, Try.underlying31, tcStr, str_bytes Try.underlying9 Try.underlying31 Try.underlying5, hv5.lenA Try.underlying25, hbd5.sees.lenA Try.underlying31, wrapI]
      refine (big_any rfl _ _ (by omega)).mono ?_
      rintro B1 t1 ⟨hB1, hF1, htt1⟩
      refine ⟨fun _ => LA.Stay.toA hAl (htt1.weaken (by omega)), ?_⟩
      have ht1 := hsp.trans (htt1.weaken (by omega))
      simp (config := { maxSteps := 1000000, implicitDefEqProofs := false }) (disch := omega) only [allW, allL, allP, cond_true, cond_false, oneOf, evalAll, partsA, optA, List.drop_zero, List.drop_succ_cons, List.cons_append, List.nil_append, Nat.reduceLT, Nat.reduceLeDiff, Nat.reduceEqDiff, Nat.reduceAdd, List.getD_cons_zero, List.getD_cons_succ, List.set_cons_zero, List.set_cons_succ, ↓reduceIte, if_true, if_false, beq_self_eq_true, ne_eq, eq_self, not_true_eq_false, not_false_eq_true, List.tail_cons, List.headD_cons, Bool.true_or, Bool.false_or, Nat.reduceBEq, Nat.reduceSub, Nat.sub_self, Nat.add_one_sub_one, hn, hlow, tfld2, lt2 t1 ht1]
      rw [ksz]
      refine (big_any rfl t1 sz.toNat (by omega)).mono ?_
      rintro B2 t2 ⟨hB2, hF2, htt2⟩
      refine ⟨fun _ => LA.Stay.toA hAl (htt2.weaken ht1.next), ?_⟩
      have ht2 := ht1.trans (htt2.weaken ht1.next)
      rw [← ksz]
      simp (config := { maxSteps := 1000000, implicitDefEqProofs := false }) (disch := omega) only [allW, allL, allP, cond_true, cond_false, oneOf, evalAll, partsA, optA, List.drop_zero, List.drop_succ_cons, List.cons_append, List.nil_append, Nat.reduceLT, Nat.reduceLeDiff, Nat.reduceEqDiff, Nat.reduceAdd, List.getD_cons_zero, List.getD_cons_succ, List.set_cons_zero, List.set_cons_succ, ↓reduceIte, if_true, if_false, beq_self_eq_true, ne_eq, eq_self, not_true_eq_false, not_false_eq_true, List.tail_cons, List.headD_cons, Bool.true_or, Bool.false_or, Nat.reduceBEq, Nat.reduceSub, Nat.sub_self, Nat.add_one_sub_one, hn, buildV4 Try.underlying80 szSl zSl rfl ⟨_, rfl⟩ hr5.cell1 (show (LP.newV s5.next nm.length (ofBytes nm)).cells.toList = [LP.newV s5.next nm.length (ofBytes nm)] from rfl) hB1.sees.cell1 hB2.sees.cell1]
      obtain ⟨V1, hV1⟩ : ∃ V, V = t2.put s5.next (.blk ⟨ofBytes nm, 1, true, 1⟩) := ⟨_, rfl⟩
      obtain ⟨N1, hN1⟩ : ∃ N, N = LP.newV s5.next nm.length (ofBytes nm) := ⟨_, rfl⟩
      obtain ⟨V2, hV2⟩ : ∃ V, V = V1.put (s5.next + 1) (.blk ⟨[r, N1, B1, B2], 1, true, 1⟩) := ⟨_, rfl⟩
      obtain ⟨N2, hN2⟩ : ∃ N, N = LP.newV (s5.next + 1) 4 [r, N1, B1, B2] := ⟨_, rfl⟩
      rw [← hV1, ← hN1, ← hV2, ← hN2]
      have hn1 := htt1.next
      have hn2' := htt2.next
      have hV1n : V1.next = t2.next := by rw [hV1]; rfl
      have hsV1 : Stay s5.next t2 V1 := by rw [hV1]; exact LP.stay_put (Nat.le_refl _)
      have hsV2 : Stay s5.next V1 V2 := by rw [hV2]; exact LP.stay_put (by omega)
      have hsV := (ht2.trans hsV1).trans hsV2
      have hb1 : Sees V2 1 B1 (be 4 (132 + 12 * T.length + bodyTo T i)).length (ofBytes (be 4 (132 + 12 * T.length + bodyTo T i))) := by
        rw [hV2, hV1]
        exact LP.sees_put (LP.sees_put (hB1.keeps htt2).sees (fun e => by have := hF1 _ e; omega)) (fun e => by have := hF1 _ e; omega)
      have hb2 : Sees V2 1 B2 (be 4 sz.toNat).length (ofBytes (be 4 sz.toNat)) := by
        rw [hV2, hV1]
        exact LP.sees_put (LP.sees_put hB2.sees (fun e => by have := hF2 _ e; omega)) (fun e => by have := hF2 _ e; omega)
      have hb0 : Sees V2 1 N1 nm.length (ofBytes nm) := by
        rw [hV2]
        refine LP.sees_put ?_ (fun e => by rw [hN1] at e; have e : some s5.next = some (s5.next + 1) := e; injection e with e; omega)
        rw [hV1, hN1]
        exact (LP.own_put (by omega) (by rw [ofBytes_length]; omega)).sees
      have hbl4 : Sees V2 1 N2 4 [r, N1, B1, B2] := by
        rw [hV2, hN2]
        exact (LP.own_put (by omega) rfl).sees
      have hpc : Pieces V2 [r, N1, B1, B2] [rowsTo T i, nm, be 4 (132 + 12 * T.length + bodyTo T i), be 4 sz.toNat] :=
        .cons (hr5.keeps hsV) (.cons hb0 (.cons hb1 (.cons hb2 (.nil _))))
      have hfl : [rowsTo T i, nm, be 4 (132 + 12 * T.length + bodyTo T i), be 4 sz.toNat].flatten = rowsTo T (i + 1) := by
        show rowsTo T i ++ (nm ++ (be 4 (132 + 12 * T.length + bodyTo T i) ++ (be 4 sz.toNat ++ []))) = rowsTo T i ++ Icc.rowAt T i
        unfold Icc.rowAt
        rw [hgd, List.append_nil]
      have hrl' := rowsTo_length hok'
      refine (of_any rfl rfl rfl V2 N2 _ [rowsTo T i, nm, be 4 (132 + 12 * T.length + bodyTo T i), be 4 sz.toNat] hbl4 hpc (Nat.le_of_ble_eq_true rfl) (by rw [hfl, hrl']; omega)).mono ?_
      rw [hfl]
      rintro r' t3 ⟨hr', _, hrF, hst3'⟩
      have hV2n : V2.next = t2.next := by rw [hV2]; exact hV1n
      refine ⟨fun _ => LA.Stay.toA hAl (hst3'.weaken (by omega)), ?_⟩
      have hs53 : Stay s5.next s5 t3 := hsV.trans (hst3'.weaken (by omega))
      have lt2' := lt2 t3 hs53
      have kq : (sz + 3).tdiv 4 * 4 = ((pad sz : Nat) : Int) := by
        rw [Int.tdiv_eq_ediv_of_nonneg (by omega)]; unfold pad; omega
      have kq2 : -9223372036854775808 ≤ (sz + 3).tdiv 4 ∧ (sz + 3).tdiv 4 ≤ 9223372036854775807 := by
        rw [Int.tdiv_eq_ediv_of_nonneg (by omega)]; omega
      have hpl := pad_le hk1
      simp (config := { maxSteps := 1000000, implicitDefEqProofs := false }) (disch := omega) only [allW, allL, allP, cond_true, cond_false, oneOf, evalAll, partsA, optA, List.drop_zero, List.drop_succ_cons, List.cons_append, List.nil_append, Nat.reduceLT, Nat.reduceLeDiff, Nat.reduceEqDiff, Nat.reduceAdd, List.getD_cons_zero, List.getD_cons_succ, List.set_cons_zero, List.set_cons_succ, ↓reduceIte, if_true, if_false, beq_self_eq_true, ne_eq, eq_self, not_true_eq_false, not_false_eq_true, List.tail_cons, List.headD_cons, Bool.true_or, Bool.false_or, Nat.reduceBEq, Nat.reduceSub, Nat.sub_self, Nat.add_one_sub_one, hn, h0, h1, h7, h9, hr'.self, tfld2, lt2', bin_quo, wrapI, kq2, kq]
      have hbd3 := hbd5.keeps hs53
      have hst3'' : Stay s.next s t3 := hst5'.trans (hs53.weaken (by omega))
      refine wstep_appendZ Try.underlying31 Try.underlying3 szU8 byU8 zU8 rfl rfl rfl hbd3 (by omega) (by omega) hbF hst3''.next ?_
      intro bd' t4 hbd' hbF' hst4' htu4 _
      have e1 : List.replicate (bodyTo T i) (Value.int .u8 0) ++ List.replicate (pad sz) (.int .u8 0) = List.replicate (bodyTo T (i + 1)) (.int .u8 0) := by
        rw [List.replicate_append_replicate]; simp only [bodyTo, hgd]
      have e2 : bodyTo T i + pad sz = bodyTo T (i + 1) := by simp only [bodyTo, hgd]
      rw [e1, e2] at hbd'
      have hr4 : Sees t4 1 r' (rowsTo T (i + 1)).length (ofBytes (rowsTo T (i + 1))) := hr'.turns htu4 (fun j _ hj e => by have := hrF j hj; have := hbd5.idlt _ e; omega)
      simp (config := { maxSteps := 1000000, implicitDefEqProofs := false }) (disch := omega) only [allW, allL, allP, cond_true, cond_false, oneOf, evalAll, partsA, optA, List.drop_zero, List.drop_succ_cons, List.cons_append, List.nil_append, Nat.reduceLT, Nat.reduceLeDiff, Nat.reduceEqDiff, Nat.reduceAdd, List.getD_cons_zero, List.getD_cons_succ, List.set_cons_zero, List.set_cons_succ, ↓reduceIte, if_true, if_false, beq_self_eq_true, ne_eq, eq_self, not_true_eq_false, not_false_eq_true, List.tail_cons, List.headD_cons, Bool.true_or, Bool.false_or, Nat.reduceBEq, Nat.reduceSub, Nat.sub_self, Nat.add_one_sub_one, hn, h0, h1, h19, h20, h21, wrapI]
      refine wround_next (T.length - (i + 1)) (by omega) ⟨i + 1, r', bd', rfl, by omega, hok', hr4, hbd', hbF', hst3''.trans hst4', by simp only [get_put, n_put, ↓reduceIte, Nat.reduceEqDiff, hn], by simp only [get_put, n_put, ↓reduceIte, Nat.reduceEqDiff, h0], by simp only [get_put, n_put, ↓reduceIte, Nat.reduceEqDiff, h1], by simp only [get_put, n_put, ↓reduceIte, Nat.reduceEqDiff], by simp only [get_put, n_put, ↓reduceIte, Nat.reduceEqDiff], by simp only [get_put, n_put, ↓reduceIte, Nat.reduceEqDiff, h19], by simp only [get_put, n_put, ↓reduceIte, Nat.reduceEqDiff, h20], by simp only [get_put, n_put, ↓reduceIte, Nat.reduceEqDiff]; rfl⟩
    · obtain rfl : i = T.length := by omega
      have d1 : ¬ ((T.length : Nat) : Int) < ((T.length : Nat) : Int) := by omega
      simp (config := { maxSteps := 1000000, implicitDefEqProofs := false }) (disch := omega) only [allW, cond_true, cond_false, oneOf, evalAll, partsA, optA, List.drop_zero, List.drop_succ_cons, List.cons_append, List.nil_append, Nat.reduceLT, Nat.reduceLeDiff, Nat.reduceEqDiff, Nat.reduceAdd, List.getD_cons_zero, List.getD_cons_succ, List.set_cons_zero, List.set_cons_succ, ↓reduceIte, if_true, if_false, beq_self_eq_true, ne_eq, eq_self, not_true_eq_false, not_false_eq_true, hn, h0, h1, h6, h7, h19, h20, h21, eq_false d1]
      refine hQ _ _ _ (.inr ⟨rfl, ⟨fun h => c1 (by omega), by omega, hok⟩, r, bd, hr, hbd, hst, by simp only [get_put, n_put, ↓reduceIte, Nat.reduceEqDiff, hn], by simp only [get_put, n_put, ↓reduceIte, Nat.reduceEqDiff, h0], by simp only [get_put, n_put, ↓reduceIte, Nat.reduceEqDiff, h1], by simp only [get_put, n_put, ↓reduceIte, Nat.reduceEqDiff, h6], by simp only [get_put, n_put, ↓reduceIte, Nat.reduceEqDiff, h7]⟩)
  · clear hn h0 h1 f hst
    rintro z f s2 (⟨rfl, hno, hst, hn, h4, h5⟩ | ⟨rfl, hall, r, bd, hr, hbd, hst, hn, h0, h1, h6, h7⟩)
    · simp (config := { maxSteps := 1000000, implicitDefEqProofs := false }) (disch := omega) only [allW, wfn_ret, wfn_normal, cond_true, cond_false, oneOf, evalAll, partsA, optA, List.drop_zero, List.drop_succ_cons, List.cons_append, List.nil_append, Nat.reduceLT, Nat.reduceLeDiff, Nat.reduceEqDiff, Nat.reduceAdd, List.getD_cons_zero, List.getD_cons_succ, List.set_cons_zero, List.set_cons_succ, ↓reduceIte, if_true, if_false, beq_self_eq_true, ne_eq, eq_self, not_true_eq_false, not_false_eq_true, hn, h4, h5, Try.results9]
      exact ⟨fun h => absurd h hno, fun _ => ⟨rfl, hst⟩⟩
    have hv2 := hv.keeps hst
    have hn2 := hst.next
    have hsp4 := parts_len hall.1
    have hbl := bodyTo_le hall.2.2
    have hrl := rowsTo_length hall.2.2
    have hle := hall.2.1
    simp (config := { maxSteps := 1000000, implicitDefEqProofs := false }) (disch := omega) only [allW, cond_true, cond_false, oneOf, evalAll, partsA, optA, List.drop_zero, List.drop_succ_cons, List.cons_append, List.nil_append, Nat.reduceLT, Nat.reduceLeDiff, Nat.reduceEqDiff, Nat.reduceAdd, List.getD_cons_zero, List.getD_cons_succ, List.set_cons_zero, List.set_cons_succ, ↓reduceIte, if_true, if_false, beq_self_eq_true, ne_eq, eq_self, not_true_eq_false, not_false_eq_true, hn, h0, h1, h6, h7, make128]
    refine wstep_newSlice (by simp) ?_
    intro h s3 hh hhF hst3
    have hr3 := hr.keeps hst3
    have hbd3 := hbd.keeps hst3
    have k80 : 132 + ((rowsTo T T.length).length : Int) + (bodyTo T T.length : Int) = ((132 + (rowsTo T T.length).length + bodyTo T T.length : Nat) : Int) := by omega
    simp (config := { maxSteps := 1000000, implicitDefEqProofs := false }) (disch := omega) only [allW, cond_true, cond_false, oneOf, evalAll, partsA, optA, List.drop_zero, List.drop_succ_cons, List.cons_append, List.nil_append, Nat.reduceLT, Nat.reduceLeDiff, Nat.reduceEqDiff, Nat.reduceAdd, List.getD_cons_zero, List.getD_cons_succ, List.set_cons_zero, List.set_cons_succ, ↓reduceIte, if_true, if_false, beq_self_eq_true, ne_eq, eq_self, not_true_eq_false, not_false_eq_true, hn, h0, h1, h6, h7, hr3.lenA Try.underlying31, hbd3.sees.lenA Try.underlying31, wrapI, k80]
    obtain ⟨tot, htot⟩ : ∃ n, n = 132 + (rowsTo T T.length).length + bodyTo T T.length := ⟨_, rfl⟩
    rw [← htot]
    refine (big_any rfl s3 tot (by omega)).mono ?_
    rintro B1 s4 ⟨hB1, hF1, hst4⟩
    have hh4 := hh.keeps hst4
    simp (config := { maxSteps := 1000000, implicitDefEqProofs := false }) (disch := omega) only [allW, cond_true, cond_false, oneOf, evalAll, partsA, optA, List.drop_zero, List.drop_succ_cons, List.cons_append, List.nil_append, Nat.reduceLT, Nat.reduceLeDiff, Nat.reduceEqDiff, Nat.reduceAdd, List.getD_cons_zero, List.getD_cons_succ, List.set_cons_zero, List.set_cons_succ, ↓reduceIte, if_true, if_false, beq_self_eq_true, ne_eq, eq_self, not_true_eq_false, not_false_eq_true, hn, h0, h1, h6, h7]
    refine wstep_copyAll Try.underlying31 szU8 hh4.room hB1.sees (ofBytes_ok _) ?_
    intro s5 hh5 ht5 hnx5
    rw [be_length, show min 4 128 = 4 from rfl, List.take_of_length_le (by rw [ofBytes_length, be_length]; omega)] at hh5
    rw [show List.replicate 128 (Value.int .u8 0) = ofBytes (List.replicate 128 0) from by simp [ofBytes], over_ofBytes] at hh5
    have hh5 := hh5.own (by decide)
    have hhid : ∀ j, idOf h = some j → s2.next ≤ j := hhF
    have ix8 := hh5.sees.indexAddr (P := Try.prog) (k := .i64) (x := (8 : Int)) Try.underlying31 szU8 (by decide) (by decide)
    rw [show (8 : Int).toNat = 8 from rfl] at ix8
    simp (config := { maxSteps := 1000000, implicitDefEqProofs := false }) (disch := omega) only [allW, cond_true, cond_false, oneOf, evalAll, partsA, optA, List.drop_zero, List.drop_succ_cons, List.cons_append, List.nil_append, Nat.reduceLT, Nat.reduceLeDiff, Nat.reduceEqDiff, Nat.reduceAdd, List.getD_cons_zero, List.getD_cons_succ, List.set_cons_zero, List.set_cons_succ, ↓reduceIte, if_true, if_false, beq_self_eq_true, ne_eq, eq_self, not_true_eq_false, not_false_eq_true, hn, h0, h1, h6, h7, ix8]
    refine wstep_storeElem szU8 hh5 (k := 8) (by decide) (by decide) ?_
    intro s6 hh6 ht6
    rw [show Value.int .u8 2 = .int .u8 ((2 : UInt8).toNat : Int) from rfl, set_ofBytes] at hh6
    have sa1 : binA Try.prog .add 9 (.string ⟨#[109, 110, 116, 114]⟩) (.string ⟨sp.toArray⟩) = some (.string ⟨(109 :: 110 :: 116 :: 114 :: sp).toArray⟩) := str_add (a := [109, 110, 116, 114]) (by simp; omega)
    have sa2 : binA Try.prog .add 9 (.string ⟨(109 :: 110 :: 116 :: 114 :: sp).toArray⟩) (.string ⟨#[88, 89, 90, 32]⟩) = some (.string ⟨((109 :: 110 :: 116 :: 114 :: sp) ++ [88, 89, 90, 32]).toArray⟩) := str_add (b := [88, 89, 90, 32]) (by simp; omega)
    have sl12 := hh6.room.slice (P := Try.prog) (k := .i64) (x := (12 : Int)) Try.underlying31 szU8 (by decide) (by decide)
    rw [show (12 : Int).toNat = 12 from rfl] at sl12
    have hl12 : ((109 :: 110 :: 116 :: 114 :: sp) ++ [88, 89, 90, 32]).length = 12 := by simp; omega
    obtain ⟨a12, ha12⟩ : ∃ a, a = (109 :: 110 :: 116 :: 114 :: sp) ++ [88, 89, 90, 32] := ⟨_, rfl⟩
    rw [← ha12] at sa2 hl12
    simp (config := { maxSteps := 1000000, implicitDefEqProofs := false }) (disch := omega) only [allW, cond_true, cond_false, oneOf, evalAll, partsA, optA, List.drop_zero, List.drop_succ_cons, List.cons_append, List.nil_append, Nat.reduceLT, Nat.reduceLeDiff, Nat.reduceEqDiff, Nat.reduceAdd, List.getD_cons_zero, List.getD_cons_succ, List.set_cons_zero, List.set_cons_succ, ↓reduceIte, if_true, if_false, beq_self_eq_true, ne_eq, eq_self, not_true_eq_false, not_false_eq_true, hn, h0, h1, h6, h7, sl12, sa1, sa2]
    refine wstep_copyT Try.underlying31 szU8 hh6.room (lo := 12) (by decide) a12 ?_
    intro s7 hh7 ht7 hnx7
    rw [hl12, show min 12 (128 - 12) = 12 from rfl, List.take_of_length_le (by rw [ofBytes_length]; omega), over_ofBytes] at hh7
    have sl36 := hh7.slice (P := Try.prog) (k := .i64) (x := (36 : Int)) Try.underlying31 szU8 (by decide) (by decide)
    rw [show (36 : Int).toNat = 36 from rfl] at sl36
    simp (config := { maxSteps := 1000000, implicitDefEqProofs := false }) (disch := omega) only [allW, cond_true, cond_false, oneOf, evalAll, partsA, optA, List.drop_zero, List.drop_succ_cons, List.cons_append, List.nil_append, Nat.reduceLT, Nat.reduceLeDiff, Nat.reduceEqDiff, Nat.reduceAdd, List.getD_cons_zero, List.getD_cons_succ, List.set_cons_zero, List.set_cons_succ, ↓reduceIte, if_true, if_false, beq_self_eq_true, ne_eq, eq_self, not_true_eq_false, not_false_eq_true, hn, h0, h1, h6, h7, sl36]
    refine wstep_copyT Try.underlying31 szU8 hh7 (lo := 36) (by decide) [97, 99, 115, 112] ?_
    intro s8 hh8 ht8 hnx8
    rw [show (List.take (min ([97, 99, 115, 112] : List UInt8).length (128 - 36)) (ofBytes [97, 99, 115, 112])) = ofBytes [97, 99, 115, 112] from rfl, over_ofBytes, ha12, headM_over hsp4] at hh8
    have hstt : Turns h s4 s8 := ((ht5.trans ht6).trans ht7).trans ht8
    have hs28 : Stay s2.next s2 s8 := (hst3.trans (hst4.weaken hst3.next)).trans (hstt.keeps hhF (by have := hst3.next; have := hst4.next; omega))
    have hr8 := hr.keeps hs28
    have hbd8 := hbd.keeps hs28
    have hst8 := hst.trans (hs28.weaken hn2)
    have hv8 := hv.keeps hst8
    simp (config := { maxSteps := 1000000, implicitDefEqProofs := false }) (disch := omega) only [allW, cond_true, cond_false, oneOf, evalAll, partsA, optA, List.drop_zero, List.drop_succ_cons, List.cons_append, List.nil_append, Nat.reduceLT, Nat.reduceLeDiff, Nat.reduceEqDiff, Nat.reduceAdd, List.getD_cons_zero, List.getD_cons_succ, List.set_cons_zero, List.set_cons_succ, ↓reduceIte, if_true, if_false, beq_self_eq_true, ne_eq, eq_self, not_true_eq_false, not_false_eq_true, hn, h0, h1, h6, h7, hv8.lenA Try.underlying25]
    refine (big_any rfl s8 T.length (by omega)).mono ?_
    rintro B2 s9 ⟨hB2, hF2, hst9⟩
    simp (config := { maxSteps := 1000000, implicitDefEqProofs := false }) (disch := omega) only [allW, cond_true, cond_false, oneOf, evalAll, partsA, optA, List.drop_zero, List.drop_succ_cons, List.cons_append, List.nil_append, Nat.reduceLT, Nat.reduceLeDiff, Nat.reduceEqDiff, Nat.reduceAdd, List.getD_cons_zero, List.getD_cons_succ, List.set_cons_zero, List.set_cons_succ, ↓reduceIte, if_true, if_false, beq_self_eq_true, ne_eq, eq_self, not_true_eq_false, not_false_eq_true, hn, h0, h1, h6, h7, buildV4 Try.underlying80 szSl zSl rfl ⟨_, rfl⟩ hh8.sees.cell1 hB2.sees.cell1 hr8.cell1 hbd8.sees.cell1]
    refine wstep_newSlice (by rfl) ?_
    intro L s10 hL hLF hst10
    have hs810 : Stay s8.next s8 s10 := hst9.trans (hst10.weaken hst9.next)
    have hbz : List.replicate (bodyTo T T.length) (Value.int .u8 0) = ofBytes (List.replicate (bodyTo T T.length) 0) := by simp [ofBytes]
    have hbd10 : Sees s10 1 bd (List.replicate (bodyTo T T.length) (0 : UInt8)).length (ofBytes (List.replicate (bodyTo T T.length) 0)) := by
      rw [← hbz, List.length_replicate]; exact (hbd8.keeps hs810).sees
    have hh10 : Sees s10 1 h (headM tot sp).length (ofBytes (headM tot sp)) := by
      rw [headM_length hsp4]; exact hh8.sees.keeps hs810
    have hpc : Pieces s10 [h, B2, r, bd] [headM tot sp, be 4 T.length, rowsTo T T.length, List.replicate (bodyTo T T.length) 0] :=
      .cons hh10 (.cons (hB2.keeps hst10).sees (.cons (hr8.keeps hs810) (.cons hbd10 (.nil _))))
    have hfl : [headM tot sp, be 4 T.length, rowsTo T T.length, List.replicate (bodyTo T T.length) 0].flatten = bytesM sp T := by
      show headM tot sp ++ (be 4 T.length ++ (rowsTo T T.length ++ (List.replicate (bodyTo T T.length) 0 ++ []))) = bytesM sp T
      unfold bytesM
      rw [List.append_nil, htot]
    have hbl : (bytesM sp T).length = 132 + 12 * T.length + bodyTo T T.length := by
      unfold bytesM
      rw [List.length_append, List.length_append, List.length_append, headM_length hsp4, be_length, hrl, List.length_replicate]; omega
    simp (config := { maxSteps := 1000000, implicitDefEqProofs := false }) (disch := omega) only [allW, cond_true, cond_false, oneOf, evalAll, partsA, optA, List.drop_zero, List.drop_succ_cons, List.cons_append, List.nil_append, Nat.reduceLT, Nat.reduceLeDiff, Nat.reduceEqDiff, Nat.reduceAdd, List.getD_cons_zero, List.getD_cons_succ, List.set_cons_zero, List.set_cons_succ, ↓reduceIte, if_true, if_false, beq_self_eq_true, ne_eq, eq_self, not_true_eq_false, not_false_eq_true, hn, h0, h1, h6, h7]
    refine (of_any rfl rfl rfl s10 L _ [headM tot sp, be 4 T.length, rowsTo T T.length, List.replicate (bodyTo T T.length) 0] hL.sees hpc (Nat.le_of_ble_eq_true rfl) (by rw [hfl, hbl]; omega)).mono ?_
    rw [hfl]
    rintro b s11 ⟨_, hb, hbF, hst11⟩
    simp (config := { maxSteps := 1000000, implicitDefEqProofs := false }) (disch := omega) only [allW, wfn_ret, wfn_normal, cond_true, cond_false, oneOf, evalAll, partsA, optA, List.drop_zero, List.drop_succ_cons, List.cons_append, List.nil_append, Nat.reduceLT, Nat.reduceLeDiff, Nat.reduceEqDiff, Nat.reduceAdd, List.getD_cons_zero, List.getD_cons_succ, List.set_cons_zero, List.set_cons_succ, ↓reduceIte, if_true, if_false, beq_self_eq_true, ne_eq, eq_self, not_true_eq_false, not_false_eq_true, hn, Try.results9]
    have hs8 : Stay s8.next s8 s11 := hs810.trans (hst11.weaken hs810.next)
    exact ⟨fun _ => ⟨b, rfl, hb (by omega), fun j hj => by have := hbF j hj; have := hs810.next; have := hst8.next; omega, hst8.trans (hs8.weaken hst8.next)⟩, fun h => absurd hall h⟩
end Go.Proofs.Ytbakljlaladpoaa
