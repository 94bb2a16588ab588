/-
  Profiles: the reference's MakeProfile.
-/
import Derived.Test.YtbakljlaladpoaaIccO
set_option linter.unusedSimpArgs false
set_option linter.unusedVariables false
namespace Go.Proofs.Ytbakljlaladpoaa
open Go.Cl Go.Cl.Icc
theorem srcText (s : ASt) (a : List UInt8) : srcCells s 1 (.string ⟨a.toArray⟩) = some (a.length, ofBytes a) := rfl
theorem apart {s s' : ASt} {z : Nat} {x x' y : Value} {n : Nat} {l : List Value} (hy : Own s z y n l) (h : ∀ j, idOf x = some j → idOf y ≠ some j) (hor : idOf x' = idOf x ∨ ∃ i, idOf x' = some i ∧ s.next ≤ i) : ∀ j, idOf x' = some j → idOf y ≠ some j := by
  intro j hj e
  rcases hor with h1 | ⟨i, h1, h2⟩
  · exact h j (by rw [← h1]; exact hj) e
  · rw [h1] at hj; injection hj with hj
    have := hy.idlt _ e; omega
theorem ragTag' : isAggB Try.prog 46 = some true := ragTag
theorem rtfq0 (i o c : Nat) : fieldAddrA Try.prog 46 (.pointer (some ⟨i, o, some c⟩)) 0 = some (.pointer (some ⟨i, o + 0, some c⟩)) := by
  unfold fieldAddrA; rw [Try.underlying46]; simp [szInt, qszStr]
theorem rtfq2 (i o c : Nat) : fieldAddrA Try.prog 46 (.pointer (some ⟨i, o, some c⟩)) 2 = some (.pointer (some ⟨i, o + 2, some c⟩)) := by
  unfold fieldAddrA; rw [Try.underlying46]; simp [szInt, qszStr]
set_option maxHeartbeats 8000000 in
theorem rmake_any (s : ASt) (sp : List UInt8) (v : Value) (T : List (List UInt8 × Int × Int)) (hv : Sees s 3 v T.length (tagsC T)) (hT : T.length ≤ 1000) :
    Runs Try.prog libN 16 [.string ⟨sp.toArray⟩, v] s (Made s sp T) := by
  refine Runs.enter 118 Try.func16 rfl rfl rfl rfl ?_
  intro f hn hf
  have h0 : f.get 0 = .string ⟨sp.toArray⟩ := hf 0
  have h1 : f.get 1 = v := hf 1
  clear hf
  have hst : Stay s.next s s := Stay.refl _ _
  simp (config := { maxSteps := 1000000, implicitDefEqProofs := false }) (disch := omega) only [allW, cond_true, cond_false, oneOf, evalAll, partsA, optA, List.drop_zero, List.drop_succ_cons, List.cons_append, List.nil_append, Nat.reduceLT, Nat.reduceLeDiff, Nat.reduceEqDiff, Nat.reduceAdd, List.getD_cons_zero, List.getD_cons_succ, List.set_cons_zero, List.set_cons_succ, ↓reduceIte, if_true, if_false, beq_self_eq_true, ne_eq, eq_self, not_true_eq_false, not_false_eq_true, hn, h0, h1]
  refine (rparts_any rfl s sp).mono ?_
  rintro _ s1 ⟨rfl, hs1⟩
  rw [hs1]; clear hs1 s1
  by_cases c1 : ((parts sp : Nat) : Int) = 0
  · simp (config := { maxSteps := 1000000, implicitDefEqProofs := false }) (disch := omega) only [allW, wfn_ret, wfn_normal, cond_true, cond_false, oneOf, evalAll, partsA, optA, List.drop_zero, List.drop_succ_cons, List.cons_append, List.nil_append, Nat.reduceLT, Nat.reduceLeDiff, Nat.reduceEqDiff, Nat.reduceAdd, List.getD_cons_zero, List.getD_cons_succ, List.set_cons_zero, List.set_cons_succ, ↓reduceIte, if_true, if_false, beq_self_eq_true, ne_eq, eq_self, not_true_eq_false, not_false_eq_true, undef, hn, h0, h1, eq_true c1, Try.results16]
    exact ⟨fun h => absurd h (fun h => h.1 (by omega)), fun _ => ⟨rfl, hst⟩⟩
  by_cases c2 : (100 : Int) < (T.length : Int)
  · simp (config := { maxSteps := 1000000, implicitDefEqProofs := false }) (disch := omega) only [allW, wfn_ret, wfn_normal, cond_true, cond_false, oneOf, evalAll, partsA, optA, List.drop_zero, List.drop_succ_cons, List.cons_append, List.nil_append, Nat.reduceLT, Nat.reduceLeDiff, Nat.reduceEqDiff, Nat.reduceAdd, List.getD_cons_zero, List.getD_cons_succ, List.set_cons_zero, List.set_cons_succ, ↓reduceIte, if_true, if_false, beq_self_eq_true, ne_eq, eq_self, not_true_eq_false, not_false_eq_true, undef, hn, h0, h1, eq_false c1, eq_true c2, hv.lenA Try.underlying38, Try.results16]
    exact ⟨fun h => absurd h (fun h => by have := h.2.1; omega), fun _ => ⟨rfl, hst⟩⟩
  simp (config := { maxSteps := 1000000, implicitDefEqProofs := false }) (disch := omega) only [allW, cond_true, cond_false, oneOf, evalAll, partsA, optA, List.drop_zero, List.drop_succ_cons, List.cons_append, List.nil_append, Nat.reduceLT, Nat.reduceLeDiff, Nat.reduceEqDiff, Nat.reduceAdd, List.getD_cons_zero, List.getD_cons_succ, List.set_cons_zero, List.set_cons_succ, ↓reduceIte, if_true, if_false, beq_self_eq_true, ne_eq, eq_self, not_true_eq_false, not_false_eq_true, undef, hn, h0, h1, eq_false c1, eq_false c2, hv.lenA Try.underlying38, hv.self]
  refine Comes.loopOut (fun z f s2 => ∃ (i : Nat) (r bd : Value), z = T.length - i ∧ i ≤ T.length ∧ (∀ j, j < i → okMk T j) ∧ Own s2 1 r (rowsTo T i).length (ofBytes (rowsTo T i)) ∧ Own s2 1 bd (bodyTo T i) (List.replicate (bodyTo T i) (.int .u8 0)) ∧ Fresh s.next r ∧ Fresh s.next bd ∧ (∀ j, idOf r = some j → idOf bd ≠ some j) ∧ Stay s.next s s2 ∧ f.n = 118 ∧ f.get 0 = .string ⟨sp.toArray⟩ ∧ f.get 1 = v ∧ f.get 6 = r ∧ f.get 7 = bd ∧ f.get 8 = .int .i64 (i : Nat))
    (fun z f s2 => (z = .ret ∧ ¬ okAll sp T ∧ Stay s.next s s2 ∧ f.n = 118 ∧ f.get 4 = .slice none 0 0 ∧ f.get 5 = .int .i64 1) ∨ (z = .exit 0 ∧ okAll sp T ∧ ∃ (r bd : Value), Own s2 1 r (rowsTo T T.length).length (ofBytes (rowsTo T T.length)) ∧ Own s2 1 bd (bodyTo T T.length) (List.replicate (bodyTo T T.length) (.int .u8 0)) ∧ Stay s.next s s2 ∧ f.n = 118 ∧ f.get 0 = .string ⟨sp.toArray⟩ ∧ f.get 1 = v ∧ f.get 6 = r ∧ f.get 7 = bd))
    ⟨0, .slice none 0 0, .slice none 0 0, rfl, by omega, fun j hj => by omega, .nil, .nil, Fresh.nil _, Fresh.nil _, (fun j h => by cases h), Stay.refl _ _, by simp only [get_put, n_put, ↓reduceIte, Nat.reduceEqDiff, hn], by simp only [get_put, n_put, ↓reduceIte, Nat.reduceEqDiff, h0], by simp only [get_put, n_put, ↓reduceIte, Nat.reduceEqDiff, h1], by simp only [get_put, n_put, ↓reduceIte, Nat.reduceEqDiff], by simp only [get_put, n_put, ↓reduceIte, Nat.reduceEqDiff], by simp only [get_put, n_put, ↓reduceIte, Nat.reduceEqDiff]; rfl⟩ ?_ ?_
  · clear hn h0 h1 f hst
    rintro Q hQ z f s2 ⟨i, r, bd, rfl, hi, hok, hr, hbd, hrF, hbF, hdis, hst, hn, h0, h1, h6, h7, h8⟩
    have hv2 := hv.keeps hst
    have hn2 := hst.next
    by_cases hlt : i < T.length
    rotate_left
    · obtain rfl : i = T.length := by omega
      have d1 : ¬ ((T.length : Nat) : Int) < ((T.length : Nat) : Int) := by omega
      simp (config := { maxSteps := 1000000, implicitDefEqProofs := false }) (disch := omega) only [allW, cond_true, cond_false, oneOf, evalAll, partsA, optA, List.drop_zero, List.drop_succ_cons, List.cons_append, List.nil_append, Nat.reduceLT, Nat.reduceLeDiff, Nat.reduceEqDiff, Nat.reduceAdd, List.getD_cons_zero, List.getD_cons_succ, List.set_cons_zero, List.set_cons_succ, ↓reduceIte, if_true, if_false, beq_self_eq_true, ne_eq, eq_self, not_true_eq_false, not_false_eq_true, hn, h0, h1, h6, h7, h8, hv2.lenA Try.underlying38, eq_false d1]
      refine hQ _ _ _ (.inr ⟨rfl, ⟨fun h => c1 (by omega), by omega, hok⟩, r, bd, hr, hbd, hst, by simp only [get_put, n_put, ↓reduceIte, Nat.reduceEqDiff, hn], by simp only [get_put, n_put, ↓reduceIte, Nat.reduceEqDiff, h0], by simp only [get_put, n_put, ↓reduceIte, Nat.reduceEqDiff, h1], by simp only [get_put, n_put, ↓reduceIte, Nat.reduceEqDiff, h6], by simp only [get_put, n_put, ↓reduceIte, Nat.reduceEqDiff, h7]⟩)
    have d1 : (i : Int) < (T.length : Int) := by omega
    have hidx := hv2.indexAddr (P := Try.prog) (k := .i64) (x := (i : Int)) Try.underlying38 rszTag (by omega) (by omega)
    rw [Int.toNat_natCast] at hidx
    have hld := hv2.loadAgg (P := Try.prog) ragTag rszTag hlt
    rw [tagsC_agg T i hlt] at hld
    have hd4 : (tagC ([], 0, 0)).length + 1 = 4 := rfl
    simp (config := { maxSteps := 1000000, implicitDefEqProofs := false }) (disch := omega) only [allW, cond_true, cond_false, oneOf, evalAll, partsA, optA, List.drop_zero, List.drop_succ_cons, List.cons_append, List.nil_append, Nat.reduceLT, Nat.reduceLeDiff, Nat.reduceEqDiff, Nat.reduceAdd, List.getD_cons_zero, List.getD_cons_succ, List.set_cons_zero, List.set_cons_succ, ↓reduceIte, if_true, if_false, beq_self_eq_true, ne_eq, eq_self, not_true_eq_false, not_false_eq_true, hn, h0, h1, h6, h7, h8, hv2.lenA Try.underlying38, eq_true d1, hidx, hld, rzTag, plTag]
    refine wstep_newPtr ?_
    intro s3 ht3 hst3 hnx3
    simp (config := { maxSteps := 1000000, implicitDefEqProofs := false }) (disch := omega) only [allW, cond_true, cond_false, oneOf, evalAll, partsA, optA, List.drop_zero, List.drop_succ_cons, List.cons_append, List.nil_append, Nat.reduceLT, Nat.reduceLeDiff, Nat.reduceEqDiff, Nat.reduceAdd, List.getD_cons_zero, List.getD_cons_succ, List.set_cons_zero, List.set_cons_succ, ↓reduceIte, if_true, if_false, beq_self_eq_true, ne_eq, eq_self, not_true_eq_false, not_false_eq_true, hn, h0, h1, h6, h7, h8, hd4]
    refine wstep_storeAll rszTag (by decide) ht3 rfl rfl rfl rfl ?_
    intro s4 ht4 hnx4 hot4
    have ht4 : Thing s4 s2.next (tagC T[i]) := ht4
    have hst24 : Stay s2.next s2 s4 := hst3.trans ⟨by omega, fun j hj => hot4 j (by omega)⟩
    have hst4 := hst.trans (hst24.weaken hn2)
    obtain ⟨nm, at', sz, htt⟩ : ∃ a b c, T[i] = (a, b, c) := ⟨_, _, _, rfl⟩
    have hgd := tagsC_at2 T hlt
    rw [htt] at ht4 hgd
    have lt0 : loadA Try.prog s4 9 (.pointer (some ⟨s2.next, 0, some 4⟩)) = some (.string ⟨nm.toArray⟩) := ht4.load qagStr (off := 0) (c := 4) rfl (by simp [tagC])
    have lt2 : loadA Try.prog s4 3 (.pointer (some ⟨s2.next, 2, some 4⟩)) = some (.int .i64 sz) := ht4.load agInt (off := 2) (c := 4) rfl (by simp [tagC])
    have hv4 := hv.keeps hst4
    have hn4 := hst4.next
    have hnot : ¬ okMk T i → ¬ okAll sp T := fun h k => h (k.2.2 i hlt)
    by_cases e1 : (nm.length : Int) = 4
    rotate_left
    · simp (config := { maxSteps := 1000000, implicitDefEqProofs := false }) (disch := omega) only [allW, cond_true, cond_false, oneOf, evalAll, partsA, optA, List.drop_zero, List.drop_succ_cons, List.cons_append, List.nil_append, Nat.reduceLT, Nat.reduceLeDiff, Nat.reduceEqDiff, Nat.reduceAdd, List.getD_cons_zero, List.getD_cons_succ, List.set_cons_zero, List.set_cons_succ, ↓reduceIte, if_true, if_false, beq_self_eq_true, ne_eq, eq_self, not_true_eq_false, not_false_eq_true, undef, hn, h0, h1, h6, h7, h8, rtfq0, rtfq2, lt0, lt2, str_len Try.underlying9, bin_neq, eq_false e1]
      refine hQ _ _ _ (.inl ⟨rfl, hnot (fun h => e1 (by have := h.1; rw [hgd] at this; exact congrArg Int.ofNat this)), hst4, by simp only [get_put, n_put, ↓reduceIte, Nat.reduceEqDiff, hn], by simp only [get_put, n_put, ↓reduceIte, Nat.reduceEqDiff], by simp only [get_put, n_put, ↓reduceIte, Nat.reduceEqDiff]⟩)
    by_cases e2 : sz < 0
    · simp (config := { maxSteps := 1000000, implicitDefEqProofs := false }) (disch := omega) only [allW, cond_true, cond_false, oneOf, evalAll, partsA, optA, List.drop_zero, List.drop_succ_cons, List.cons_append, List.nil_append, Nat.reduceLT, Nat.reduceLeDiff, Nat.reduceEqDiff, Nat.reduceAdd, List.getD_cons_zero, List.getD_cons_succ, List.set_cons_zero, List.set_cons_succ, ↓reduceIte, if_true, if_false, beq_self_eq_true, ne_eq, eq_self, not_true_eq_false, not_false_eq_true, undef, hn, h0, h1, h6, h7, h8, rtfq0, rtfq2, lt0, lt2, str_len Try.underlying9, bin_neq, eq_true e1, eq_true e2]
      refine hQ _ _ _ (.inl ⟨rfl, hnot (fun h => by have := h.2.1; rw [hgd] at this; have : 0 ≤ sz := this; omega), hst4, by simp only [get_put, n_put, ↓reduceIte, Nat.reduceEqDiff, hn], by simp only [get_put, n_put, ↓reduceIte, Nat.reduceEqDiff], by simp only [get_put, n_put, ↓reduceIte, Nat.reduceEqDiff]⟩)
    by_cases e3 : (65535 : Int) < sz
    · simp (config := { maxSteps := 1000000, implicitDefEqProofs := false }) (disch := omega) only [allW, cond_true, cond_false, oneOf, evalAll, partsA, optA, List.drop_zero, List.drop_succ_cons, List.cons_append, List.nil_append, Nat.reduceLT, Nat.reduceLeDiff, Nat.reduceEqDiff, Nat.reduceAdd, List.getD_cons_zero, List.getD_cons_succ, List.set_cons_zero, List.set_cons_succ, ↓reduceIte, if_true, if_false, beq_self_eq_true, ne_eq, eq_self, not_true_eq_false, not_false_eq_true, undef, hn, h0, h1, h6, h7, h8, rtfq0, rtfq2, lt0, lt2, str_len Try.underlying9, bin_neq, eq_true e1, eq_false e2, eq_true e3]
      refine hQ _ _ _ (.inl ⟨rfl, hnot (fun h => by have := h.2.2.1; rw [hgd] at this; have : sz ≤ 65535 := this; omega), hst4, by simp only [get_put, n_put, ↓reduceIte, Nat.reduceEqDiff, hn], by simp only [get_put, n_put, ↓reduceIte, Nat.reduceEqDiff], by simp only [get_put, n_put, ↓reduceIte, Nat.reduceEqDiff]⟩)
    simp (config := { maxSteps := 1000000, implicitDefEqProofs := false }) (disch := omega) only [allW, cond_true, cond_false, oneOf, evalAll, partsA, optA, List.drop_zero, List.drop_succ_cons, List.cons_append, List.nil_append, Nat.reduceLT, Nat.reduceLeDiff, Nat.reduceEqDiff, Nat.reduceAdd, List.getD_cons_zero, List.getD_cons_succ, List.set_cons_zero, List.set_cons_succ, ↓reduceIte, if_true, if_false, beq_self_eq_true, ne_eq, eq_self, not_true_eq_false, not_false_eq_true, undef, hn, h0, h1, h6, h7, h8, rtfq0, rtfq2, lt0, lt2, str_len Try.underlying9, bin_neq, eq_true e1, eq_false e2, eq_false e3]
    refine Comes.loopOut (fun z f s5 => ∃ (k : Nat), z = i - k ∧ k ≤ i ∧ (∀ t ∈ T.take k, t.1 ≠ nm) ∧ s5 = s4 ∧ f.n = 118 ∧ f.get 0 = .string ⟨sp.toArray⟩ ∧ f.get 1 = v ∧ f.get 6 = r ∧ f.get 7 = bd ∧ f.get 8 = .int .i64 (i : Nat) ∧ f.get 9 = .pointer (some ⟨s2.next, 0, some 4⟩) ∧ f.get 10 = .int .i64 (k : Nat))
      (fun z f s5 => (z = .ret ∧ ¬ okMk T i ∧ s5 = s4 ∧ f.n = 118 ∧ f.get 4 = .slice none 0 0 ∧ f.get 5 = .int .i64 1) ∨ (z = .exit 2 ∧ okMk T i ∧ s5 = s4 ∧ f.n = 118 ∧ f.get 0 = .string ⟨sp.toArray⟩ ∧ f.get 1 = v ∧ f.get 6 = r ∧ f.get 7 = bd ∧ f.get 8 = .int .i64 (i : Nat) ∧ f.get 9 = .pointer (some ⟨s2.next, 0, some 4⟩)))
      ⟨0, rfl, by omega, by simp, rfl, by simp only [get_put, n_put, ↓reduceIte, Nat.reduceEqDiff, hn], by simp only [get_put, n_put, ↓reduceIte, Nat.reduceEqDiff, h0], by simp only [get_put, n_put, ↓reduceIte, Nat.reduceEqDiff, h1], by simp only [get_put, n_put, ↓reduceIte, Nat.reduceEqDiff, h6], by simp only [get_put, n_put, ↓reduceIte, Nat.reduceEqDiff, h7], by simp only [get_put, n_put, ↓reduceIte, Nat.reduceEqDiff, h8], by simp only [get_put, n_put, ↓reduceIte, Nat.reduceEqDiff], by simp only [get_put, n_put, ↓reduceIte, Nat.reduceEqDiff]; rfl⟩ ?_ ?_
    · clear hn h0 h1 h6 h7 h8 f
      rintro Q hQ z f s5 ⟨k, rfl, hk, hne, hs5, hn, h0, h1, h6, h7, h8, h9, h10⟩
      rw [hs5]; clear hs5 s5
      by_cases hki : k < i
      · have d2 : (k : Int) < (i : Int) := by omega
        have hkT : k < T.length := by omega
        have hix := hv4.indexAddr (P := Try.prog) (k := .i64) (x := (k : Int)) Try.underlying38 rszTag (by omega) (by omega)
        rw [Int.toNat_natCast] at hix
        obtain ⟨q0, _, _⟩ := rfldE hv4 hkT
        obtain ⟨hl0, _, _⟩ := tagLoads (P := Try.prog) qagStr agInt hv4 hkT
        have es := str_eql (P := Try.prog) (t := 9) T[k].1 nm
        by_cases ek : T[k].1 = nm
        · rw [decide_eq_true ek] at es
          simp (config := { maxSteps := 1000000, implicitDefEqProofs := false }) (disch := omega) only [allW, cond_true, cond_false, oneOf, evalAll, partsA, optA, List.drop_zero, List.drop_succ_cons, List.cons_append, List.nil_append, Nat.reduceLT, Nat.reduceLeDiff, Nat.reduceEqDiff, Nat.reduceAdd, List.getD_cons_zero, List.getD_cons_succ, List.set_cons_zero, List.set_cons_succ, ↓reduceIte, if_true, if_false, beq_self_eq_true, ne_eq, eq_self, not_true_eq_false, not_false_eq_true, hn, h0, h1, h6, h7, h8, h9, h10, eq_true d2, hv4.self, hix, q0, hl0, rtfq0, lt0, es, valEq_plus]
          refine hQ _ _ _ (.inl ⟨rfl, fun h => ?_, rfl, by simp only [get_put, n_put, ↓reduceIte, Nat.reduceEqDiff, hn], by simp only [get_put, n_put, ↓reduceIte, Nat.reduceEqDiff], by simp only [get_put, n_put, ↓reduceIte, Nat.reduceEqDiff]⟩)
          have h4 := h.2.2.2
          rw [hgd, List.any_eq_false] at h4
          exact h4 T[k] (by rw [List.mem_take_iff_getElem]; exact ⟨k, by omega, rfl⟩) (by simpa using ek)
        · rw [decide_eq_false ek] at es
          simp (config := { maxSteps := 1000000, implicitDefEqProofs := false }) (disch := omega) only [allW, cond_true, cond_false, oneOf, evalAll, partsA, optA, List.drop_zero, List.drop_succ_cons, List.cons_append, List.nil_append, Nat.reduceLT, Nat.reduceLeDiff, Nat.reduceEqDiff, Nat.reduceAdd, List.getD_cons_zero, List.getD_cons_succ, List.set_cons_zero, List.set_cons_succ, ↓reduceIte, if_true, if_false, beq_self_eq_true, ne_eq, eq_self, not_true_eq_false, not_false_eq_true, hn, h0, h1, h6, h7, h8, h9, h10, eq_true d2, hv4.self, hix, q0, hl0, rtfq0, lt0, es, valEq_plus, wrapI]
          refine wround_next (i - (k + 1)) (by omega) ⟨k + 1, rfl, by omega, ?_, rfl, by simp only [get_put, n_put, ↓reduceIte, Nat.reduceEqDiff, hn], by simp only [get_put, n_put, ↓reduceIte, Nat.reduceEqDiff, h0], by simp only [get_put, n_put, ↓reduceIte, Nat.reduceEqDiff, h1], by simp only [get_put, n_put, ↓reduceIte, Nat.reduceEqDiff, h6], by simp only [get_put, n_put, ↓reduceIte, Nat.reduceEqDiff, h7], by simp only [get_put, n_put, ↓reduceIte, Nat.reduceEqDiff, h8], by simp only [get_put, n_put, ↓reduceIte, Nat.reduceEqDiff, h9], by simp only [get_put, n_put, ↓reduceIte, Nat.reduceEqDiff]; rfl⟩
          intro t ht
          rw [List.take_add_one, List.getElem?_eq_getElem hkT] at ht
          rcases List.mem_append.mp ht with ht | ht
          · exact hne t ht
          · simp at ht; rw [ht]; exact ek
      · obtain rfl : k = i := by omega
        have d2 : ¬ ((k : Nat) : Int) < ((k : Nat) : Int) := by omega
        simp (config := { maxSteps := 1000000, implicitDefEqProofs := false }) (disch := omega) only [allW, cond_true, cond_false, oneOf, evalAll, partsA, optA, List.drop_zero, List.drop_succ_cons, List.cons_append, List.nil_append, Nat.reduceLT, Nat.reduceLeDiff, Nat.reduceEqDiff, Nat.reduceAdd, List.getD_cons_zero, List.getD_cons_succ, List.set_cons_zero, List.set_cons_succ, ↓reduceIte, if_true, if_false, beq_self_eq_true, ne_eq, eq_self, not_true_eq_false, not_false_eq_true, hn, h0, h1, h6, h7, h8, h9, h10, eq_false d2]
        refine hQ _ _ _ (.inr ⟨rfl, ⟨by rw [hgd]; show nm.length = 4; omega, by rw [hgd]; show 0 ≤ sz; omega, by rw [hgd]; show sz ≤ 65535; omega, by rw [hgd, List.any_eq_false]; intro t ht he; exact hne t ht (by simpa using he)⟩, rfl, by simp only [get_put, n_put, ↓reduceIte, Nat.reduceEqDiff, hn], by simp only [get_put, n_put, ↓reduceIte, Nat.reduceEqDiff, h0], by simp only [get_put, n_put, ↓reduceIte, Nat.reduceEqDiff, h1], by simp only [get_put, n_put, ↓reduceIte, Nat.reduceEqDiff, h6], by simp only [get_put, n_put, ↓reduceIte, Nat.reduceEqDiff, h7], by simp only [get_put, n_put, ↓reduceIte, Nat.reduceEqDiff, h8], by simp only [get_put, n_put, ↓reduceIte, Nat.reduceEqDiff, h9]⟩)
    clear hn h0 h1 h6 h7 h8 f
    rintro z f s5 (⟨rfl, hki, hs5, hn, h4, h5⟩ | ⟨rfl, hki, hs5, hn, h0, h1, h6, h7, h8, h9⟩)
    · rw [hs5]
      simp (config := { maxSteps := 1000000, implicitDefEqProofs := false }) (disch := omega) only [allW, cond_true, cond_false, oneOf, evalAll, partsA, optA, List.drop_zero, List.drop_succ_cons, List.cons_append, List.nil_append, Nat.reduceLT, Nat.reduceLeDiff, Nat.reduceEqDiff, Nat.reduceAdd, List.getD_cons_zero, List.getD_cons_succ, List.set_cons_zero, List.set_cons_succ, ↓reduceIte, if_true, if_false, beq_self_eq_true, ne_eq, eq_self, not_true_eq_false, not_false_eq_true]
      refine hQ _ _ _ (.inl ⟨rfl, hnot hki, hst4, hn, h4, h5⟩)
    rw [hs5]; clear hs5 s5
    have hr4 := hr.keeps hst24
    have hbd4 := hbd.keeps hst24
    have hok' : ∀ j, j < i + 1 → okMk T j := fun j hj => by
      rcases Nat.lt_succ_iff_lt_or_eq.mp hj with h | h
      · exact hok j h
      · rw [h]; exact hki
    have hbl := bodyTo_le hok
    have hrl := rowsTo_length hok
    simp (config := { maxSteps := 1000000, implicitDefEqProofs := false }) (disch := omega) only [allW, cond_true, cond_false, oneOf, evalAll, partsA, optA, List.drop_zero, List.drop_succ_cons, List.cons_append, List.nil_append, Nat.reduceLT, Nat.reduceLeDiff, Nat.reduceEqDiff, Nat.reduceAdd, List.getD_cons_zero, List.getD_cons_succ, List.set_cons_zero, List.set_cons_succ, ↓reduceIte, if_true, if_false, beq_self_eq_true, ne_eq, eq_self, not_true_eq_false, not_false_eq_true, hn, h0, h1, h6, h7, h8, h9, rtfq0, lt0]
    have hq1 : idOf r ≠ some s2.next := fun e => by have := hr.idlt _ e; omega
    refine wstep_append Try.underlying31 Try.underlying9 (.inr rfl) szU8 byU8 zU8 rfl hr4 (srcText _ _) (by rw [ofBytes_length]; omega) (by decide) (ofBytes_ok _) (by omega) (by omega) hrF hst4.next ?_
    intro r1 s5 hr5 hrF5 hst5 htu5 hor5
    have hbd5 := hbd4.turns htu5 (fun j hj e => hdis j e hj)
    have hdis5 := apart (s' := s5) hbd4 hdis hor5
    have ht5 := ht4.turns htu5 hq1
    have hq5 : idOf r1 ≠ some s2.next := fun e => by
      rcases hor5 with h | ⟨j, h, h'⟩
      · exact hq1 (by rw [← h]; exact e)
      · have := ht4.lt; rw [h] at e; injection e with e; omega
    have hn5 := htu5.next
    have hv5 := hv.keeps (hst4.trans hst5)
    rw [← ofBytes_append] at hr5
    have k58 : 132 + 12 * (T.length : Int) + (bodyTo T i : Int) = ((132 + 12 * T.length + bodyTo T i : Nat) : Int) := by omega
    simp (config := { maxSteps := 1000000, implicitDefEqProofs := false }) (disch := omega) only [allW, cond_true, cond_false, oneOf, evalAll, partsA, optA, List.drop_zero, List.drop_succ_cons, List.cons_append, List.nil_append, Nat.reduceLT, Nat.reduceLeDiff, Nat.reduceEqDiff, Nat.reduceAdd, List.getD_cons_zero, List.getD_cons_succ, List.set_cons_zero, List.set_cons_succ, ↓reduceIte, if_true, if_false, beq_self_eq_true, ne_eq, eq_self, not_true_eq_false, not_false_eq_true, hn, h0, h1, h6, h7, h8, h9, hv5.lenA Try.underlying38, hbd5.sees.lenA Try.underlying31, wrapI, k58]
    refine (rbig_any (w := 4) rfl s5 _ (by decide) (by omega)).mono ?_
    rintro B1 s6 ⟨hB1, hF1, hst6⟩
    have hr6 := hr5.keeps hst6
    simp (config := { maxSteps := 1000000, implicitDefEqProofs := false }) (disch := omega) only [allW, cond_true, cond_false, oneOf, evalAll, partsA, optA, List.drop_zero, List.drop_succ_cons, List.cons_append, List.nil_append, Nat.reduceLT, Nat.reduceLeDiff, Nat.reduceEqDiff, Nat.reduceAdd, List.getD_cons_zero, List.getD_cons_succ, List.set_cons_zero, List.set_cons_succ, ↓reduceIte, if_true, if_false, beq_self_eq_true, ne_eq, eq_self, not_true_eq_false, not_false_eq_true, hn, h0, h1, h6, h7, h8, h9]
    refine wstep_append Try.underlying31 Try.underlying31 (.inl ⟨_, rfl⟩) szU8 byU8 zU8 rfl hr6 hB1.sees.src (by rw [ofBytes_length]; omega) (by decide) (ofBytes_ok _) (by rw [be_length]; omega) (by rw [be_length]; omega) hrF5 ((hst4.trans hst5).trans (hst6.weaken (by omega))).next ?_
    intro r2 s7 hr7 hrF7 hst7 htu7 hor7
    have hbd6 := hbd5.keeps hst6
    have hbd7 := hbd6.turns htu7 (fun j hj e => hdis5 j e hj)
    have hdis7 := apart (s' := s7) hbd6 hdis5 hor7
    have ht7 := (ht5.keeps hst6).turns htu7 hq5
    have hq7 : idOf r2 ≠ some s2.next := fun e => by
      rcases hor7 with h | ⟨j, h, h'⟩
      · exact hq5 (by rw [← h]; exact e)
      · have := (ht5.keeps hst6).lt; rw [h] at e; injection e with e; omega
    have hn6 := hst6.next
    have hn7 := htu7.next
    rw [← ofBytes_append] at hr7
    have lt7 : loadA Try.prog s7 3 (.pointer (some ⟨s2.next, 2, some 4⟩)) = some (.int .i64 sz) := ht7.load agInt (off := 2) (c := 4) rfl (by simp [tagC])
    have ksz : sz = ((sz.toNat : Nat) : Int) := by omega
    simp (config := { maxSteps := 1000000, implicitDefEqProofs := false }) (disch := omega) only [allW, cond_true, cond_false, oneOf, evalAll, partsA, optA, List.drop_zero, List.drop_succ_cons, List.cons_append, List.nil_append, Nat.reduceLT, Nat.reduceLeDiff, Nat.reduceEqDiff, Nat.reduceAdd, List.getD_cons_zero, List.getD_cons_succ, List.set_cons_zero, List.set_cons_succ, ↓reduceIte, if_true, if_false, beq_self_eq_true, ne_eq, eq_self, not_true_eq_false, not_false_eq_true, hn, h0, h1, h6, h7, h8, h9, rtfq2, lt7]
    rw [ksz]
    refine (rbig_any (w := 4) rfl s7 sz.toNat (by decide) (by omega)).mono ?_
    rintro B2 s8 ⟨hB2, hF2, hst8⟩
    rw [← ksz]
    have hr8 := hr7.keeps hst8
    have hst0 : Stay s.next s s8 := (((hst4.trans hst5).trans (hst6.weaken (by omega))).trans hst7).trans (hst8.weaken (by omega))
    simp (config := { maxSteps := 1000000, implicitDefEqProofs := false }) (disch := omega) only [allW, cond_true, cond_false, oneOf, evalAll, partsA, optA, List.drop_zero, List.drop_succ_cons, List.cons_append, List.nil_append, Nat.reduceLT, Nat.reduceLeDiff, Nat.reduceEqDiff, Nat.reduceAdd, List.getD_cons_zero, List.getD_cons_succ, List.set_cons_zero, List.set_cons_succ, ↓reduceIte, if_true, if_false, beq_self_eq_true, ne_eq, eq_self, not_true_eq_false, not_false_eq_true, hn, h0, h1, h6, h7, h8, h9]
    refine wstep_append Try.underlying31 Try.underlying31 (.inl ⟨_, rfl⟩) szU8 byU8 zU8 rfl hr8 hB2.sees.src (by rw [ofBytes_length]; omega) (by decide) (ofBytes_ok _) (by rw [be_length, be_length]; omega) (by rw [be_length, be_length]; omega) hrF7 hst0.next ?_
    intro r3 s9 hr9 hrF9 hst9 htu9 hor9
    have hbd8 := hbd7.keeps hst8
    have hbd9 := hbd8.turns htu9 (fun j hj e => hdis7 j e hj)
    have hdis9 := apart (s' := s9) hbd8 hdis7 hor9
    have ht9 := (ht7.keeps hst8).turns htu9 hq7
    have hn8 := hst8.next
    have hn9 := htu9.next
    rw [← ofBytes_append] at hr9
    have lt9 : loadA Try.prog s9 3 (.pointer (some ⟨s2.next, 2, some 4⟩)) = some (.int .i64 sz) := ht9.load agInt (off := 2) (c := 4) rfl (by simp [tagC])
    have kq : (sz + 3).tdiv 4 * 4 = ((pad sz : Nat) : Int) := by
      rw [Int.tdiv_eq_ediv_of_nonneg (by omega)]; unfold pad; omega
    have kq2 : -9223372036854775808 ≤ (sz + 3).tdiv 4 ∧ (sz + 3).tdiv 4 ≤ 9223372036854775807 := by
      rw [Int.tdiv_eq_ediv_of_nonneg (by omega)]; omega
    have hpl := pad_le (n := sz) (by omega)
    simp (config := { maxSteps := 1000000, implicitDefEqProofs := false }) (disch := omega) only [allW, cond_true, cond_false, oneOf, evalAll, partsA, optA, List.drop_zero, List.drop_succ_cons, List.cons_append, List.nil_append, Nat.reduceLT, Nat.reduceLeDiff, Nat.reduceEqDiff, Nat.reduceAdd, List.getD_cons_zero, List.getD_cons_succ, List.set_cons_zero, List.set_cons_succ, ↓reduceIte, if_true, if_false, beq_self_eq_true, ne_eq, eq_self, not_true_eq_false, not_false_eq_true, hn, h0, h1, h6, h7, h8, h9, rtfq2, lt9, bin_quo, wrapI, kq2, kq]
    refine wstep_appendZ Try.underlying31 Try.underlying3 szU8 byU8 zU8 rfl rfl rfl hbd9 (by omega) (by omega) hbF (hst0.trans hst9).next ?_
    intro bd' sa hbda hbFa hsta htua hora
    have hra := hr9.turns htua (fun j hj e => hdis9 j hj e)
    have hdisa : ∀ j, idOf r3 = some j → idOf bd' ≠ some j := fun j hj e => apart (s' := sa) hr9 (fun j hj e => hdis9 j e hj) hora j e hj
    have e1 : List.replicate (bodyTo T i) (Value.int .u8 0) ++ List.replicate (pad sz) (.int .u8 0) = List.replicate (bodyTo T (i + 1)) (.int .u8 0) := by
      rw [List.replicate_append_replicate]; simp only [bodyTo, hgd]
    have e2 : bodyTo T i + pad sz = bodyTo T (i + 1) := by simp only [bodyTo, hgd]
    rw [e1, e2] at hbda
    have e3 : rowsTo T i ++ nm ++ be 4 (132 + 12 * T.length + bodyTo T i) ++ be 4 sz.toNat = rowsTo T (i + 1) := by
      show _ = rowsTo T i ++ Icc.rowAt T i
      unfold Icc.rowAt
      rw [hgd, List.append_assoc, List.append_assoc]
    have e4 : (rowsTo T i).length + nm.length + (be 4 (132 + 12 * T.length + bodyTo T i)).length + (be 4 sz.toNat).length = (rowsTo T (i + 1)).length := by
      rw [← e3]; simp only [List.length_append]
    rw [e3, e4] at hra
    simp (config := { maxSteps := 1000000, implicitDefEqProofs := false }) (disch := omega) only [allW, cond_true, cond_false, oneOf, evalAll, partsA, optA, List.drop_zero, List.drop_succ_cons, List.cons_append, List.nil_append, Nat.reduceLT, Nat.reduceLeDiff, Nat.reduceEqDiff, Nat.reduceAdd, List.getD_cons_zero, List.getD_cons_succ, List.set_cons_zero, List.set_cons_succ, ↓reduceIte, if_true, if_false, beq_self_eq_true, ne_eq, eq_self, not_true_eq_false, not_false_eq_true, hn, h0, h1, h6, h7, h8, h9, wrapI]
    refine wround_next (T.length - (i + 1)) (by omega) ⟨i + 1, r3, bd', rfl, by omega, hok', hra, hbda, hrF9, hbFa, hdisa, (hst0.trans hst9).trans hsta, by simp only [get_put, n_put, ↓reduceIte, Nat.reduceEqDiff, hn], by simp only [get_put, n_put, ↓reduceIte, Nat.reduceEqDiff, h0], by simp only [get_put, n_put, ↓reduceIte, Nat.reduceEqDiff, h1], by simp only [get_put, n_put, ↓reduceIte, Nat.reduceEqDiff], by simp only [get_put, n_put, ↓reduceIte, Nat.reduceEqDiff], by simp only [get_put, n_put, ↓reduceIte, Nat.reduceEqDiff]; rfl⟩
  · clear hn h0 h1 f hst
    rintro z f s2 (⟨rfl, hno, hst, hn, h4, h5⟩ | ⟨rfl, hall, r, bd, hr, hbd, hst, hn, h0, h1, h6, h7⟩)
    · simp (config := { maxSteps := 1000000, implicitDefEqProofs := false }) (disch := omega) only [allW, wfn_ret, wfn_normal, cond_true, cond_false, oneOf, evalAll, partsA, optA, List.drop_zero, List.drop_succ_cons, List.cons_append, List.nil_append, Nat.reduceLT, Nat.reduceLeDiff, Nat.reduceEqDiff, Nat.reduceAdd, List.getD_cons_zero, List.getD_cons_succ, List.set_cons_zero, List.set_cons_succ, ↓reduceIte, if_true, if_false, beq_self_eq_true, ne_eq, eq_self, not_true_eq_false, not_false_eq_true, hn, h4, h5, Try.results16]
      exact ⟨fun h => absurd h hno, fun _ => ⟨rfl, hst⟩⟩
    have hv2 := hv.keeps hst
    have hn2 := hst.next
    have hsp4 := parts_len hall.1
    have hbl := bodyTo_le hall.2.2
    have hrl := rowsTo_length hall.2.2
    have hle := hall.2.1
    simp (config := { maxSteps := 1000000, implicitDefEqProofs := false }) (disch := omega) only [allW, cond_true, cond_false, oneOf, evalAll, partsA, optA, List.drop_zero, List.drop_succ_cons, List.cons_append, List.nil_append, Nat.reduceLT, Nat.reduceLeDiff, Nat.reduceEqDiff, Nat.reduceAdd, List.getD_cons_zero, List.getD_cons_succ, List.set_cons_zero, List.set_cons_succ, ↓reduceIte, if_true, if_false, beq_self_eq_true, ne_eq, eq_self, not_true_eq_false, not_false_eq_true, hn, h0, h1, h6, h7, make128]
    refine wstep_newSlice (by simp) ?_
    intro h s3 hh hhF hst3
    have hr3 := hr.keeps hst3
    have hbd3 := hbd.keeps hst3
    have k80 : 132 + ((rowsTo T T.length).length : Int) + (bodyTo T T.length : Int) = ((132 + (rowsTo T T.length).length + bodyTo T T.length : Nat) : Int) := by omega
    simp (config := { maxSteps := 1000000, implicitDefEqProofs := false }) (disch := omega) only [allW, cond_true, cond_false, oneOf, evalAll, partsA, optA, List.drop_zero, List.drop_succ_cons, List.cons_append, List.nil_append, Nat.reduceLT, Nat.reduceLeDiff, Nat.reduceEqDiff, Nat.reduceAdd, List.getD_cons_zero, List.getD_cons_succ, List.set_cons_zero, List.set_cons_succ, ↓reduceIte, if_true, if_false, beq_self_eq_true, ne_eq, eq_self, not_true_eq_false, not_false_eq_true, hn, h0, h1, h6, h7, hr3.sees.lenA Try.underlying31, hbd3.sees.lenA Try.underlying31, wrapI, k80]
    obtain ⟨tot, htot⟩ : ∃ n, n = 132 + (rowsTo T T.length).length + bodyTo T T.length := ⟨_, rfl⟩
    rw [← htot]
    refine (rbig_any (w := 4) rfl s3 tot (by decide) (by omega)).mono ?_
    rintro B1 s4 ⟨hB1, hF1, hst4⟩
    have hh4 := hh.keeps hst4
    simp (config := { maxSteps := 1000000, implicitDefEqProofs := false }) (disch := omega) only [allW, cond_true, cond_false, oneOf, evalAll, partsA, optA, List.drop_zero, List.drop_succ_cons, List.cons_append, List.nil_append, Nat.reduceLT, Nat.reduceLeDiff, Nat.reduceEqDiff, Nat.reduceAdd, List.getD_cons_zero, List.getD_cons_succ, List.set_cons_zero, List.set_cons_succ, ↓reduceIte, if_true, if_false, beq_self_eq_true, ne_eq, eq_self, not_true_eq_false, not_false_eq_true, hn, h0, h1, h6, h7]
    refine wstep_copyAll Try.underlying31 szU8 hh4.room hB1.sees (ofBytes_ok _) ?_
    intro s5 hh5 ht5 hnx5
    rw [be_length, show min 4 128 = 4 from rfl, List.take_of_length_le (by rw [ofBytes_length, be_length]; omega)] at hh5
    rw [show List.replicate 128 (Value.int .u8 0) = ofBytes (List.replicate 128 0) from by simp [ofBytes], over_ofBytes] at hh5
    have hh5 := hh5.own (by decide)
    have ix8 := hh5.sees.indexAddr (P := Try.prog) (k := .i64) (x := (8 : Int)) Try.underlying31 szU8 (by decide) (by decide)
    rw [show (8 : Int).toNat = 8 from rfl] at ix8
    simp (config := { maxSteps := 1000000, implicitDefEqProofs := false }) (disch := omega) only [allW, cond_true, cond_false, oneOf, evalAll, partsA, optA, List.drop_zero, List.drop_succ_cons, List.cons_append, List.nil_append, Nat.reduceLT, Nat.reduceLeDiff, Nat.reduceEqDiff, Nat.reduceAdd, List.getD_cons_zero, List.getD_cons_succ, List.set_cons_zero, List.set_cons_succ, ↓reduceIte, if_true, if_false, beq_self_eq_true, ne_eq, eq_self, not_true_eq_false, not_false_eq_true, hn, h0, h1, h6, h7, ix8]
    refine wstep_storeElem szU8 hh5 (k := 8) (by decide) (by decide) ?_
    intro s6 hh6 ht6
    rw [show Value.int .u8 2 = .int .u8 ((2 : UInt8).toNat : Int) from rfl, set_ofBytes] at hh6
    have sl12 := hh6.room.slice (P := Try.prog) (k := .i64) (x := (12 : Int)) Try.underlying31 szU8 (by decide) (by decide)
    rw [show (12 : Int).toNat = 12 from rfl] at sl12
    simp (config := { maxSteps := 1000000, implicitDefEqProofs := false }) (disch := omega) only [allW, cond_true, cond_false, oneOf, evalAll, partsA, optA, List.drop_zero, List.drop_succ_cons, List.cons_append, List.nil_append, Nat.reduceLT, Nat.reduceLeDiff, Nat.reduceEqDiff, Nat.reduceAdd, List.getD_cons_zero, List.getD_cons_succ, List.set_cons_zero, List.set_cons_succ, ↓reduceIte, if_true, if_false, beq_self_eq_true, ne_eq, eq_self, not_true_eq_false, not_false_eq_true, hn, h0, h1, h6, h7, sl12]
    refine wstep_copyT Try.underlying31 szU8 hh6.room (lo := 12) (by decide) [109, 110, 116, 114] ?_
    intro s7 hh7 ht7 hnx7
    rw [show (List.take (min ([109, 110, 116, 114] : List UInt8).length (128 - 12)) (ofBytes [109, 110, 116, 114])) = ofBytes [109, 110, 116, 114] from rfl, over_ofBytes] at hh7
    have sl16 := hh7.slice (P := Try.prog) (k := .i64) (x := (16 : Int)) Try.underlying31 szU8 (by decide) (by decide)
    rw [show (16 : Int).toNat = 16 from rfl] at sl16
    simp (config := { maxSteps := 1000000, implicitDefEqProofs := false }) (disch := omega) only [allW, cond_true, cond_false, oneOf, evalAll, partsA, optA, List.drop_zero, List.drop_succ_cons, List.cons_append, List.nil_append, Nat.reduceLT, Nat.reduceLeDiff, Nat.reduceEqDiff, Nat.reduceAdd, List.getD_cons_zero, List.getD_cons_succ, List.set_cons_zero, List.set_cons_succ, ↓reduceIte, if_true, if_false, beq_self_eq_true, ne_eq, eq_self, not_true_eq_false, not_false_eq_true, hn, h0, h1, h6, h7, sl16]
    refine wstep_copyT Try.underlying31 szU8 hh7 (lo := 16) (by decide) sp ?_
    intro s8 hh8 ht8 hnx8
    rw [hsp4, show min 4 (128 - 16) = 4 from rfl, List.take_of_length_le (by rw [ofBytes_length]; omega), over_ofBytes] at hh8
    have sl20 := hh8.slice (P := Try.prog) (k := .i64) (x := (20 : Int)) Try.underlying31 szU8 (by decide) (by decide)
    rw [show (20 : Int).toNat = 20 from rfl] at sl20
    simp (config := { maxSteps := 1000000, implicitDefEqProofs := false }) (disch := omega) only [allW, cond_true, cond_false, oneOf, evalAll, partsA, optA, List.drop_zero, List.drop_succ_cons, List.cons_append, List.nil_append, Nat.reduceLT, Nat.reduceLeDiff, Nat.reduceEqDiff, Nat.reduceAdd, List.getD_cons_zero, List.getD_cons_succ, List.set_cons_zero, List.set_cons_succ, ↓reduceIte, if_true, if_false, beq_self_eq_true, ne_eq, eq_self, not_true_eq_false, not_false_eq_true, hn, h0, h1, h6, h7, sl20]
    refine wstep_copyT Try.underlying31 szU8 hh8 (lo := 20) (by decide) [88, 89, 90, 32] ?_
    intro s9 hh9 ht9 hnx9
    rw [show (List.take (min ([88, 89, 90, 32] : List UInt8).length (128 - 20)) (ofBytes [88, 89, 90, 32])) = ofBytes [88, 89, 90, 32] from rfl, over_ofBytes] at hh9
    have sl36 := hh9.slice (P := Try.prog) (k := .i64) (x := (36 : Int)) Try.underlying31 szU8 (by decide) (by decide)
    rw [show (36 : Int).toNat = 36 from rfl] at sl36
    simp (config := { maxSteps := 1000000, implicitDefEqProofs := false }) (disch := omega) only [allW, cond_true, cond_false, oneOf, evalAll, partsA, optA, List.drop_zero, List.drop_succ_cons, List.cons_append, List.nil_append, Nat.reduceLT, Nat.reduceLeDiff, Nat.reduceEqDiff, Nat.reduceAdd, List.getD_cons_zero, List.getD_cons_succ, List.set_cons_zero, List.set_cons_succ, ↓reduceIte, if_true, if_false, beq_self_eq_true, ne_eq, eq_self, not_true_eq_false, not_false_eq_true, hn, h0, h1, h6, h7, sl36]
    refine wstep_copyT Try.underlying31 szU8 hh9 (lo := 36) (by decide) [97, 99, 115, 112] ?_
    intro sa hha hta hnxa
    rw [show (List.take (min ([97, 99, 115, 112] : List UInt8).length (128 - 36)) (ofBytes [97, 99, 115, 112])) = ofBytes [97, 99, 115, 112] from rfl, over_ofBytes, headM_over2 hsp4] at hha
    have hha := hha.own (by decide)
    have hstt : Turns h s4 sa := (((((ht5.trans ht6).trans ht7).trans ht8).trans ht9).trans hta)
    have hs2a : Stay s2.next s2 sa := (hst3.trans (hst4.weaken hst3.next)).trans (hstt.keeps hhF (by have := hst3.next; have := hst4.next; omega))
    have hra := hr.keeps hs2a
    have hbda := hbd.keeps hs2a
    have hsta := hst.trans (hs2a.weaken hn2)
    have hva := hv.keeps hsta
    have hha : Own sa 1 h (headM tot sp).length (ofBytes (headM tot sp)) := by rw [headM_length hsp4]; exact hha
    simp (config := { maxSteps := 1000000, implicitDefEqProofs := false }) (disch := omega) only [allW, cond_true, cond_false, oneOf, evalAll, partsA, optA, List.drop_zero, List.drop_succ_cons, List.cons_append, List.nil_append, Nat.reduceLT, Nat.reduceLeDiff, Nat.reduceEqDiff, Nat.reduceAdd, List.getD_cons_zero, List.getD_cons_succ, List.set_cons_zero, List.set_cons_succ, ↓reduceIte, if_true, if_false, beq_self_eq_true, ne_eq, eq_self, not_true_eq_false, not_false_eq_true, hn, h0, h1, h6, h7, hva.lenA Try.underlying38]
    refine (rbig_any (w := 4) rfl sa T.length (by decide) (by omega)).mono ?_
    rintro B2 sb ⟨hB2, hF2, hstb⟩
    have hna := hs2a.next
    have hnb := hstb.next
    simp (config := { maxSteps := 1000000, implicitDefEqProofs := false }) (disch := omega) only [allW, cond_true, cond_false, oneOf, evalAll, partsA, optA, List.drop_zero, List.drop_succ_cons, List.cons_append, List.nil_append, Nat.reduceLT, Nat.reduceLeDiff, Nat.reduceEqDiff, Nat.reduceAdd, List.getD_cons_zero, List.getD_cons_succ, List.set_cons_zero, List.set_cons_succ, ↓reduceIte, if_true, if_false, beq_self_eq_true, ne_eq, eq_self, not_true_eq_false, not_false_eq_true, hn, h0, h1, h6, h7]
    have hl1 := headM_length (total := tot) hsp4
    refine wstep_append Try.underlying31 Try.underlying31 (.inl ⟨_, rfl⟩) szU8 byU8 zU8 rfl (hha.keeps hstb) hB2.sees.src (by rw [ofBytes_length]; omega) (by decide) (ofBytes_ok _) (by rw [be_length]; omega) (by rw [be_length]; omega) hhF (by omega) ?_
    intro x1 sc hx1 hxF1 hstc htuc horc
    have hnc := hstc.next
    have hs2c : Stay s2.next s2 sc := (hs2a.trans (hstb.weaken hna)).trans hstc
    have hrc := hr.keeps hs2c
    rw [← ofBytes_append] at hx1
    simp (config := { maxSteps := 1000000, implicitDefEqProofs := false }) (disch := omega) only [allW, cond_true, cond_false, oneOf, evalAll, partsA, optA, List.drop_zero, List.drop_succ_cons, List.cons_append, List.nil_append, Nat.reduceLT, Nat.reduceLeDiff, Nat.reduceEqDiff, Nat.reduceAdd, List.getD_cons_zero, List.getD_cons_succ, List.set_cons_zero, List.set_cons_succ, ↓reduceIte, if_true, if_false, beq_self_eq_true, ne_eq, eq_self, not_true_eq_false, not_false_eq_true, hn, h0, h1, h6, h7]
    refine wstep_append Try.underlying31 Try.underlying31 (.inl ⟨_, rfl⟩) szU8 byU8 zU8 rfl hx1 hrc.sees.src (by rw [ofBytes_length]; omega) (by decide) (ofBytes_ok _) (by rw [be_length]; omega) (by rw [be_length]; omega) hxF1 (by omega) ?_
    intro x2 sd hx2 hxF2 hstd htud hord
    have hs2d : Stay s2.next s2 sd := hs2c.trans hstd
    have hnd := hstd.next
    rw [← ofBytes_append] at hx2
    have hbz : List.replicate (bodyTo T T.length) (Value.int .u8 0) = ofBytes (List.replicate (bodyTo T T.length) 0) := by simp [ofBytes]
    have hbdd := (hbd.keeps hs2d).sees.src
    rw [hbz] at hbdd
    simp (config := { maxSteps := 1000000, implicitDefEqProofs := false }) (disch := omega) only [allW, cond_true, cond_false, oneOf, evalAll, partsA, optA, List.drop_zero, List.drop_succ_cons, List.cons_append, List.nil_append, Nat.reduceLT, Nat.reduceLeDiff, Nat.reduceEqDiff, Nat.reduceAdd, List.getD_cons_zero, List.getD_cons_succ, List.set_cons_zero, List.set_cons_succ, ↓reduceIte, if_true, if_false, beq_self_eq_true, ne_eq, eq_self, not_true_eq_false, not_false_eq_true, hn, h0, h1, h6, h7]
    refine wstep_append Try.underlying31 Try.underlying31 (.inl ⟨_, rfl⟩) szU8 byU8 zU8 rfl hx2 hbdd (by rw [ofBytes_length, List.length_replicate]; omega) (by decide) (ofBytes_ok _) (by rw [be_length]; omega) (by rw [be_length]; omega) hxF2 (by omega) ?_
    intro x3 se hx3 hxF3 hste htue hore
    rw [← ofBytes_append] at hx3
    simp (config := { maxSteps := 1000000, implicitDefEqProofs := false }) (disch := omega) only [allW, wfn_ret, wfn_normal, cond_true, cond_false, oneOf, evalAll, partsA, optA, List.drop_zero, List.drop_succ_cons, List.cons_append, List.nil_append, Nat.reduceLT, Nat.reduceLeDiff, Nat.reduceEqDiff, Nat.reduceAdd, List.getD_cons_zero, List.getD_cons_succ, List.set_cons_zero, List.set_cons_succ, ↓reduceIte, if_true, if_false, beq_self_eq_true, ne_eq, eq_self, not_true_eq_false, not_false_eq_true, hn, Try.results16]
    have e1 : headM tot sp ++ be 4 T.length ++ rowsTo T T.length ++ List.replicate (bodyTo T T.length) 0 = bytesM sp T := by
      unfold bytesM
      rw [htot, List.append_assoc, List.append_assoc]
    have e2 : (headM tot sp).length + (be 4 T.length).length + (rowsTo T T.length).length + bodyTo T T.length = (bytesM sp T).length := by
      rw [← e1]; simp only [List.length_append, List.length_replicate]
    rw [e1, e2] at hx3
    exact ⟨fun _ => ⟨x3, rfl, hx3, fun j hj => by have := hxF3 j hj; omega, hst.trans ((hs2d.trans hste).weaken hn2)⟩, fun h => absurd hall h⟩
end Go.Proofs.Ytbakljlaladpoaa
