/-
  Fonts in tables, the reference: MakeFont.
-/
import Derived.Test.YtpdkppimlcbhlaaSfT
import Derived.Test.YtpdkppimlcbhlaaRBig
set_option linter.unusedSimpArgs false
set_option linter.unusedVariables false
set_option maxRecDepth 100000
namespace Go.Cl
theorem buildTwo5 {P : Program} {s : ASt} {t e : TypeId} {zv a b c d g a' b' c' d' g' : Value} (hu : P.underlying t = some (.slice e)) (hsz : sizeB P e = some 2) (hz : zeroB P e = some zv) (hpl : plainV zv = true) (hzl : ∃ w w', zv.cells.toList = [w, w']) : buildSliceA P s t 5 [(0, .agg #[a, a']), (1, .agg #[b, b']), (2, .agg #[c, c']), (3, .agg #[d, d']), (4, .agg #[g, g'])] = newSlice s [a, a', b, b', c, c', d, d', g, g'] 5 2 := by
  obtain ⟨w, w', hw⟩ := hzl
  unfold buildSliceA; rw [hu]; simp only [hsz, hz, hpl, hw, repeatL, fillA, cells_agg, List.length_cons, List.length_nil]; rfl
theorem srcTextF (s : ASt) (a : List UInt8) : srcCells s 1 (.string ⟨a.toArray⟩) = some (a.length, ofBytes a) := rfl
end Go.Cl
namespace Go.Proofs.Ytpdkppimlcbhlaa
open Go.Cl Go.Cl.Sf
theorem rbs14 (s : ASt) : buildSliceA Try.prog s 27 14 [(0, .int .u8 0), (1, .int .u8 1), (2, .int .u8 0), (3, .int .u8 0), (4, .int .u8 0), (5, .int .u8 0), (6, .int .u8 0), (7, .int .u8 12), (8, .int .u8 0), (9, .int .u8 0), (10, .int .u8 1), (11, .int .u8 6), (12, .int .u8 0), (13, .int .u8 0)] = newSlice s (ofBytes [0, 1, 0, 0, 0, 0, 0, 12, 0, 0, 1, 6, 0, 0]) 14 1 := by
  unfold buildSliceA; rw [Try.underlying27]; simp only [szU8, zU8]; rfl
theorem rbs12 (s : ASt) : buildSliceA Try.prog s 27 12 [(0, .int .u8 0), (1, .int .u8 1), (2, .int .u8 0), (3, .int .u8 0), (4, .int .u8 0), (5, .int .u8 5), (6, .int .u8 0), (7, .int .u8 0), (8, .int .u8 0), (9, .int .u8 0), (10, .int .u8 0), (11, .int .u8 0)] = newSlice s (ofBytes [0, 1, 0, 0, 0, 5, 0, 0, 0, 0, 0, 0]) 12 1 := by
  unfold buildSliceA; rw [Try.underlying27]; simp only [szU8, zU8]; rfl
theorem bs4z (s : ASt) : buildSliceA Try.prog s 27 4 [(0, .int .u8 0), (1, .int .u8 0), (2, .int .u8 0), (3, .int .u8 0)] = newSlice s (ofBytes [0, 0, 0, 0]) 4 1 := by
  unfold buildSliceA; rw [Try.underlying27]; simp only [szU8, zU8]; rfl
theorem cmap_two : be 2 0 ++ be 2 1 ++ [0, 1, 0, 0, 0, 0, 0, 12, 0, 0, 1, 6, 0, 0] = cmap0 := by decide +kernel
theorem wide_of {W : List Int} {k : Nat} (hk : k < W.length) (h : W.getD k 0 < 0 ∨ 65535 < W.getD k 0) : wideW W = true := by
  unfold wideW
  rw [List.any_eq_true]
  exact ⟨_, getDI_mem hk, by rw [Bool.or_eq_true, decide_eq_true_eq, decide_eq_true_eq]; exact h⟩
theorem wide_no {W : List Int} (h : ∀ k, k < W.length → 0 ≤ W.getD k 0 ∧ W.getD k 0 ≤ 65535) : wideW W = false := by
  unfold wideW
  rw [List.any_eq_false]
  intro w hw
  obtain ⟨i, hi, rfl⟩ := List.mem_iff_getElem.mp hw
  have := h i hi
  simp only [List.getD, List.getElem?_eq_getElem hi, Option.getD_some] at this
  rw [Bool.or_eq_true, decide_eq_true_eq, decide_eq_true_eq]; omega
theorem none_of {n : Nat} {gl : List Int} {k : Nat} (hk : k < gl.length) (h : gl.getD k 0 < 0 ∨ (n : Int) ≤ gl.getD k 0 ∨ 255 < gl.getD k 0) : noneG n gl = true := by
  unfold noneG
  rw [List.any_eq_true]
  exact ⟨_, getDI_mem hk, by rw [Bool.or_eq_true, decide_eq_true_eq, decide_eq_true_eq]; omega⟩
theorem none_no {n : Nat} {gl : List Int} (h : ∀ k, k < gl.length → 0 ≤ gl.getD k 0 ∧ gl.getD k 0 < n ∧ gl.getD k 0 ≤ 255) : noneG n gl = false := by
  unfold noneG
  rw [List.any_eq_false]
  intro g hg
  obtain ⟨i, hi, rfl⟩ := List.mem_iff_getElem.mp hg
  have := h i hi
  simp only [List.getD, List.getElem?_eq_getElem hi, Option.getD_some] at this
  rw [Bool.or_eq_true, decide_eq_true_eq, decide_eq_true_eq]; omega
theorem at_over {s : ASt} {v b : Value} {size place n : Nat} (hv : Own s 1 v size (List.replicate size (.int .u8 0))) (hb : Sees s 1 b (be 2 n).length (ofBytes (be 2 n))) (h1 : place + 2 ≤ size) :
    ∃ s', copyA Try.prog s 27 (cutS 1 v place size) b = some (.int .i64 ((min (be 2 n).length (size - place) : Nat) : Int), s') ∧ Own s' 1 v (atB size place n).length (ofBytes (atB size place n)) ∧ Turns v s s' ∧ s'.next = s.next := by
  obtain ⟨s3, hcp, hr3, hut3, hnx3⟩ := hv.room.copyY (P := Try.prog) Try.underlying27 szU8 (lo := place) (by omega) hb (ofBytes_ok _)
  refine ⟨s3, hcp, ?_, hut3, hnx3⟩
  have ho := hr3.own (by omega)
  rw [be_length, Nat.min_eq_left (by omega), List.take_of_length_le (by rw [ofBytes_length, be_length]; omega)] at ho
  have e : over (List.replicate size (.int .u8 0)) place (ofBytes (be 2 n)) = ofBytes (atB size place n) := by
    unfold over atB
    rw [ofBytes_append, ofBytes_append, ofBytes_rep, ofBytes_rep, ofBytes_length, be_length]
    simp only [List.take_replicate, List.drop_replicate, Nat.min_eq_left (show place ≤ size by omega)]
  rw [e] at ho
  rw [atB_length h1]; exact ho
set_option maxHeartbeats 32000000 in
theorem rmakefont_any (s : ASt) (u : Int) (wv gv : Value) (W gl : List Int) (hW : Sees s 1 wv W.length (intsZ W)) (hG : Sees s 1 gv gl.length (intsZ gl)) (hWl : W.length ≤ 100000000) (hGl : gl.length ≤ 100000000) :
    Runs Try.prog libN 14 [.int .i64 u, wv, gv] s (MakeIs s u W gl) := by
  refine Runs.enter 184 Try.func14 rfl rfl rfl rfl ?_
  intro f hn hf
  have h0 : f.get 0 = .int .i64 u := hf 0
  have h1 : f.get 1 = wv := hf 1
  have h2 : f.get 2 = gv := hf 2
  clear hf
  have hbad : ∀ (f : AFr) (t : ASt), f.n = 184 → badMk u W gl → Stay s.next s t → f.get 6 = .slice none 0 0 → f.get 7 = .int .i64 1 → wfn Try.prog (Try.f14).results.toList (MakeIs s u W gl) .ret f t := by
    intro f t hn hb hst h6 h7
    simp only [allW, allR, wfn_ret, wfn_normal, oneOf, evalAll, partsA, optA, Nat.reduceLT, Nat.reduceLeDiff, Nat.reduceEqDiff, Nat.reduceAdd, ↓reduceIte, hn, h6, h7, Try.results14]
    exact ⟨.inl ⟨hb, rfl⟩, hst⟩
  by_cases k1 : u < 16
  · simp (config := { maxSteps := 1000000, implicitDefEqProofs := false }) (disch := omega) only [allW, allR, oneOf, evalAll, partsA, optA, Nat.reduceLT, Nat.reduceLeDiff, Nat.reduceEqDiff, Nat.reduceAdd, ↓reduceIte, undef, hn, h0, h1, h2, eq_true k1]
    exact hbad _ _ (by simp only [get_put, n_put, ↓reduceIte, Nat.reduceEqDiff, hn]) (.inl k1) (Stay.refl _ _) (by simp only [get_put, n_put, ↓reduceIte, Nat.reduceEqDiff]) (by simp only [get_put, n_put, ↓reduceIte, Nat.reduceEqDiff])
  by_cases k2 : 16384 < u
  · simp (config := { maxSteps := 1000000, implicitDefEqProofs := false }) (disch := omega) only [allW, allR, oneOf, evalAll, partsA, optA, Nat.reduceLT, Nat.reduceLeDiff, Nat.reduceEqDiff, Nat.reduceAdd, ↓reduceIte, undef, hn, h0, h1, h2, eq_false k1, eq_true k2]
    exact hbad _ _ (by simp only [get_put, n_put, ↓reduceIte, Nat.reduceEqDiff, hn]) (.inr (.inl k2)) (Stay.refl _ _) (by simp only [get_put, n_put, ↓reduceIte, Nat.reduceEqDiff]) (by simp only [get_put, n_put, ↓reduceIte, Nat.reduceEqDiff])
  by_cases k3 : W.length < 1
  · have e3 : (W.length : Int) < 1 := by omega
    simp (config := { maxSteps := 1000000, implicitDefEqProofs := false }) (disch := omega) only [allW, allR, oneOf, evalAll, partsA, optA, Nat.reduceLT, Nat.reduceLeDiff, Nat.reduceEqDiff, Nat.reduceAdd, ↓reduceIte, undef, hn, h0, h1, h2, eq_false k1, eq_false k2, hW.lenA Try.underlying30, eq_true e3]
    exact hbad _ _ (by simp only [get_put, n_put, ↓reduceIte, Nat.reduceEqDiff, hn]) (.inr (.inr (.inl k3))) (Stay.refl _ _) (by simp only [get_put, n_put, ↓reduceIte, Nat.reduceEqDiff]) (by simp only [get_put, n_put, ↓reduceIte, Nat.reduceEqDiff])
  have e3 : ¬ (W.length : Int) < 1 := by omega
  by_cases k4 : 1000 < W.length
  · have e4 : (1000 : Int) < (W.length : Int) := by omega
    simp (config := { maxSteps := 1000000, implicitDefEqProofs := false }) (disch := omega) only [allW, allR, oneOf, evalAll, partsA, optA, Nat.reduceLT, Nat.reduceLeDiff, Nat.reduceEqDiff, Nat.reduceAdd, ↓reduceIte, undef, hn, h0, h1, h2, eq_false k1, eq_false k2, hW.lenA Try.underlying30, eq_false e3, eq_true e4]
    exact hbad _ _ (by simp only [get_put, n_put, ↓reduceIte, Nat.reduceEqDiff, hn]) (.inr (.inr (.inr (.inl k4)))) (Stay.refl _ _) (by simp only [get_put, n_put, ↓reduceIte, Nat.reduceEqDiff]) (by simp only [get_put, n_put, ↓reduceIte, Nat.reduceEqDiff])
  have e4 : ¬ (1000 : Int) < (W.length : Int) := by omega
  by_cases k6 : 256 < gl.length
  · have e6 : (256 : Int) < (gl.length : Int) := by omega
    simp (config := { maxSteps := 1000000, implicitDefEqProofs := false }) (disch := omega) only [allW, allR, oneOf, evalAll, partsA, optA, Nat.reduceLT, Nat.reduceLeDiff, Nat.reduceEqDiff, Nat.reduceAdd, ↓reduceIte, undef, hn, h0, h1, h2, eq_false k1, eq_false k2, hW.lenA Try.underlying30, eq_false e3, eq_false e4, hG.lenA Try.underlying30, eq_true e6]
    exact hbad _ _ (by simp only [get_put, n_put, ↓reduceIte, Nat.reduceEqDiff, hn]) (.inr (.inr (.inr (.inr (.inr (.inl k6)))))) (Stay.refl _ _) (by simp only [get_put, n_put, ↓reduceIte, Nat.reduceEqDiff]) (by simp only [get_put, n_put, ↓reduceIte, Nat.reduceEqDiff])
  have e6 : ¬ (256 : Int) < (gl.length : Int) := by omega
  simp (config := { maxSteps := 1000000, implicitDefEqProofs := false }) (disch := omega) only [allW, allR, oneOf, evalAll, partsA, optA, Nat.reduceLT, Nat.reduceLeDiff, Nat.reduceEqDiff, Nat.reduceAdd, ↓reduceIte, undef, hn, h0, h1, h2, eq_false k1, eq_false k2, hW.lenA Try.underlying30, eq_false e3, eq_false e4, hG.lenA Try.underlying30, eq_false e6]
  refine Comes.loopOut (fun z f t => ∃ (k : Nat) (mv : Value), z = W.length - k ∧ k ≤ W.length ∧ (∀ j, j < k → 0 ≤ W.getD j 0 ∧ W.getD j 0 ≤ 65535) ∧ Own t 1 mv (hmtxB W k).length (ofBytes (hmtxB W k)) ∧ Fresh s.next mv ∧ Stay s.next s t ∧ f.n = 184 ∧ f.get 0 = .int .i64 u ∧ f.get 1 = wv ∧ f.get 2 = gv ∧ f.get 8 = mv ∧ f.get 9 = .int .i64 (k : Nat))
    (fun z f t => (z = .ret ∧ f.n = 184 ∧ badMk u W gl ∧ Stay s.next s t ∧ f.get 6 = .slice none 0 0 ∧ f.get 7 = .int .i64 1) ∨ (z = .exit 0 ∧ ∃ mv : Value, wideW W = false ∧ Own t 1 mv (hmtxB W W.length).length (ofBytes (hmtxB W W.length)) ∧ Fresh s.next mv ∧ Stay s.next s t ∧ f.n = 184 ∧ f.get 0 = .int .i64 u ∧ f.get 1 = wv ∧ f.get 2 = gv ∧ f.get 8 = mv))
    ⟨0, .slice none 0 0, rfl, by omega, (fun j hj => by omega), .nil, Fresh.nil _, Stay.refl _ _, by simp only [get_put, n_put, ↓reduceIte, Nat.reduceEqDiff, hn], by simp only [get_put, n_put, ↓reduceIte, Nat.reduceEqDiff, h0], by simp only [get_put, n_put, ↓reduceIte, Nat.reduceEqDiff, h1], by simp only [get_put, n_put, ↓reduceIte, Nat.reduceEqDiff, h2], by simp only [get_put, n_put, ↓reduceIte, Nat.reduceEqDiff], by simp only [get_put, n_put, ↓reduceIte, Nat.reduceEqDiff]; rfl⟩ ?_ ?_
  · clear hn h0 h1 h2 f hbad
    rintro Q hQ z f t ⟨k, mv, rfl, hk, hok, hmv, hmvF, hst, hn, h0, h1, h2, h8, h9⟩
    have hWt := hW.keeps hst
    have hnt := hst.next
    by_cases hlt : k < W.length
    rotate_left
    · obtain rfl : k = W.length := by omega
      have d : ¬ (W.length : Int) < (W.length : Int) := by omega
      simp (config := { maxSteps := 1000000, implicitDefEqProofs := false }) (disch := omega) only [allW, allR, oneOf, evalAll, partsA, optA, Nat.reduceLT, Nat.reduceLeDiff, Nat.reduceEqDiff, Nat.reduceAdd, ↓reduceIte, undef, hn, h0, h1, h2, h8, h9, hWt.lenA Try.underlying30, eq_false d]
      exact hQ _ _ _ (.inr ⟨rfl, mv, wide_no hok, hmv, hmvF, hst, by simp only [get_put, n_put, ↓reduceIte, Nat.reduceEqDiff, hn], by simp only [get_put, n_put, ↓reduceIte, Nat.reduceEqDiff, h0], by simp only [get_put, n_put, ↓reduceIte, Nat.reduceEqDiff, h1], by simp only [get_put, n_put, ↓reduceIte, Nat.reduceEqDiff, h2], by simp only [get_put, n_put, ↓reduceIte, Nat.reduceEqDiff, h8]⟩)
    have d : (k : Int) < (W.length : Int) := by omega
    have hmlen := hmtxB_length (W := W) k hk
    have hmlen' := hmtxB_length (W := W) (k + 1) hlt
    have hix := hWt.indexAddr (P := Try.prog) (k := .i64) (x := (k : Int)) Try.underlying30 szInt (by omega) (by omega)
    rw [Int.toNat_natCast] at hix
    have hld := hWt.load1 (P := Try.prog) agInt hlt
    rw [intsZ_getD hlt] at hld
    by_cases c1 : W.getD k 0 < 0
    · simp (config := { maxSteps := 1000000, implicitDefEqProofs := false }) (disch := omega) only [allW, allR, oneOf, evalAll, partsA, optA, Nat.reduceLT, Nat.reduceLeDiff, Nat.reduceEqDiff, Nat.reduceAdd, ↓reduceIte, undef, hn, h0, h1, h2, h8, h9, hWt.lenA Try.underlying30, eq_true d, hix, hld, eq_true c1]
      exact hQ _ _ _ (.inl ⟨rfl, by simp only [get_put, n_put, ↓reduceIte, Nat.reduceEqDiff, hn], .inr (.inr (.inr (.inr (.inl (wide_of hlt (.inl c1)))))), hst, by simp only [get_put, n_put, ↓reduceIte, Nat.reduceEqDiff], by simp only [get_put, n_put, ↓reduceIte, Nat.reduceEqDiff]⟩)
    by_cases c2 : 65535 < W.getD k 0
    · simp (config := { maxSteps := 1000000, implicitDefEqProofs := false }) (disch := omega) only [allW, allR, oneOf, evalAll, partsA, optA, Nat.reduceLT, Nat.reduceLeDiff, Nat.reduceEqDiff, Nat.reduceAdd, ↓reduceIte, undef, hn, h0, h1, h2, h8, h9, hWt.lenA Try.underlying30, eq_true d, hix, hld, eq_false c1, eq_true c2]
      exact hQ _ _ _ (.inl ⟨rfl, by simp only [get_put, n_put, ↓reduceIte, Nat.reduceEqDiff, hn], .inr (.inr (.inr (.inr (.inl (wide_of hlt (.inr c2)))))), hst, by simp only [get_put, n_put, ↓reduceIte, Nat.reduceEqDiff], by simp only [get_put, n_put, ↓reduceIte, Nat.reduceEqDiff]⟩)
    obtain ⟨wn, hwn⟩ : ∃ n : Nat, W.getD k 0 = n := ⟨(W.getD k 0).toNat, by omega⟩
    simp (config := { maxSteps := 1000000, implicitDefEqProofs := false }) (disch := omega) only [allW, allR, oneOf, evalAll, partsA, optA, Nat.reduceLT, Nat.reduceLeDiff, Nat.reduceEqDiff, Nat.reduceAdd, ↓reduceIte, undef, hn, h0, h1, h2, h8, h9, hWt.lenA Try.underlying30, eq_true d, hix, hld, eq_false c1, eq_false c2]
    rw [hwn]
    refine (rbig_any (lib := libN) rfl t wn 2 (by omega) (by omega)).mono ?_
    rintro b t1 ⟨hb, hbF, hst1⟩
    have hn1 := hst1.next
    simp (config := { maxSteps := 1000000, implicitDefEqProofs := false }) (disch := omega) only [allW, allR, oneOf, evalAll, partsA, optA, Nat.reduceLT, Nat.reduceLeDiff, Nat.reduceEqDiff, Nat.reduceAdd, ↓reduceIte, undef, hn, h0, h1, h2, h8, h9]
    refine wstep_append Try.underlying27 Try.underlying27 (.inl ⟨_, rfl⟩) szU8 byU8 zU8 rfl (hmv.keeps hst1) hb.sees.src (by rw [ofBytes_length]; omega) (by decide) (ofBytes_ok _) (by rw [be_length]; omega) (by rw [be_length]; omega) hmvF (by omega) ?_
    intro mv2 t2 hmv2 hF2 hst2 hut2 hor2
    have hn2 := hut2.next
    simp (config := { maxSteps := 1000000, implicitDefEqProofs := false }) (disch := omega) only [allW, allR, oneOf, evalAll, partsA, optA, Nat.reduceLT, Nat.reduceLeDiff, Nat.reduceEqDiff, Nat.reduceAdd, ↓reduceIte, undef, hn, h0, h1, h2, h8, h9, bs2]
    refine wstep_newSlice (by rfl) ?_
    intro z2 t3 hz2 hz2F hst3
    have hn3 := hst3.next
    simp (config := { maxSteps := 1000000, implicitDefEqProofs := false }) (disch := omega) only [allW, allR, oneOf, evalAll, partsA, optA, Nat.reduceLT, Nat.reduceLeDiff, Nat.reduceEqDiff, Nat.reduceAdd, ↓reduceIte, undef, hn, h0, h1, h2, h8, h9]
    refine wstep_append Try.underlying27 Try.underlying27 (.inl ⟨_, rfl⟩) szU8 byU8 zU8 rfl (hmv2.keeps hst3) hz2.sees.src (by rw [ofBytes_length]; rfl) (by decide) (ofBytes_ok _) (by rw [be_length]; omega) (by rw [be_length]; omega) hF2 (by omega) ?_
    intro mv3 t4 hmv3 hF3 hst4 hut4 hor4
    have hms : ofBytes (hmtxB W k) ++ ofBytes (be 2 wn) ++ ofBytes [0, 0] = ofBytes (hmtxB W (k + 1)) := by
      rw [hmtxB_succ hlt, hwn, Int.toNat_natCast, ofBytes_append, ofBytes_append]
    rw [hms, be_length, show (hmtxB W k).length + 2 + 2 = (hmtxB W (k + 1)).length by omega] at hmv3
    simp (config := { maxSteps := 1000000, implicitDefEqProofs := false }) (disch := omega) only [allW, allR, oneOf, evalAll, partsA, optA, Nat.reduceLT, Nat.reduceLeDiff, Nat.reduceEqDiff, Nat.reduceAdd, ↓reduceIte, undef, hn, h0, h1, h2, h8, h9, wrapI]
    refine wround_next (W.length - (k + 1)) (by omega) ⟨k + 1, mv3, rfl, by omega, (fun j hj => ?_), hmv3, hF3, (hst.trans (hst1.weaken hnt)).trans (hst2.trans ((hst3.weaken (by omega)).trans hst4)), by simp only [get_put, n_put, ↓reduceIte, Nat.reduceEqDiff, hn], by simp only [get_put, n_put, ↓reduceIte, Nat.reduceEqDiff, h0], by simp only [get_put, n_put, ↓reduceIte, Nat.reduceEqDiff, h1], by simp only [get_put, n_put, ↓reduceIte, Nat.reduceEqDiff, h2], by simp only [get_put, n_put, ↓reduceIte, Nat.reduceEqDiff], by simp only [get_put, n_put, ↓reduceIte, Nat.reduceEqDiff]; rfl⟩
    by_cases e : j = k
    · subst e; omega
    · exact hok j (by omega)
  clear hn h0 h1 h2 f
  rintro z f t (⟨rfl, hn, hb, hst, h6, h7⟩ | ⟨rfl, mv, hwide, hmv, hmvF, hst, hn, h0, h1, h2, h8⟩)
  · simp (config := { maxSteps := 1000000, implicitDefEqProofs := false }) (disch := omega) only [allW, allR, oneOf, evalAll, partsA, optA, Nat.reduceLT, Nat.reduceLeDiff, Nat.reduceEqDiff, Nat.reduceAdd, ↓reduceIte]
    exact hbad f t hn hb hst h6 h7
  have hmlen := hmtxB_length (W := W) W.length (Nat.le_refl _)
  have hWr := wideW_false hwide
  have hn0 := hst.next
  simp (config := { maxSteps := 1000000, implicitDefEqProofs := false }) (disch := omega) only [allW, allR, oneOf, evalAll, partsA, optA, Nat.reduceLT, Nat.reduceLeDiff, Nat.reduceEqDiff, Nat.reduceAdd, ↓reduceIte, hn, h0, h1, h2, h8]
  refine (rbig_any (lib := libN) rfl t 0 2 (by omega) (by omega)).mono ?_
  rintro b0 t1 ⟨hb0, hb0F, hst1⟩
  have hn1 := hst1.next
  simp (config := { maxSteps := 1000000, implicitDefEqProofs := false }) (disch := omega) only [allW, allR, oneOf, evalAll, partsA, optA, Nat.reduceLT, Nat.reduceLeDiff, Nat.reduceEqDiff, Nat.reduceAdd, ↓reduceIte, hn, h0, h1, h2, h8]
  refine (rbig_any (lib := libN) rfl t1 1 2 (by omega) (by omega)).mono ?_
  rintro b1 t2 ⟨hb1, hb1F, hst2⟩
  have hn2 := hst2.next
  simp (config := { maxSteps := 1000000, implicitDefEqProofs := false }) (disch := omega) only [allW, allR, oneOf, evalAll, partsA, optA, Nat.reduceLT, Nat.reduceLeDiff, Nat.reduceEqDiff, Nat.reduceAdd, ↓reduceIte, hn, h0, h1, h2, h8]
  refine wstep_append Try.underlying27 Try.underlying27 (.inl ⟨_, rfl⟩) szU8 byU8 zU8 rfl (hb0.keeps hst2) hb1.sees.src (by rw [ofBytes_length]; omega) (by decide) (ofBytes_ok _) (by rw [be_length]; decide) (by rw [be_length]; decide) hb0F (by omega) ?_
  intro cv t3 hcv hcvF hst3 hut3 _
  have hn3 := hut3.next
  simp (config := { maxSteps := 1000000, implicitDefEqProofs := false }) (disch := omega) only [allW, allR, oneOf, evalAll, partsA, optA, Nat.reduceLT, Nat.reduceLeDiff, Nat.reduceEqDiff, Nat.reduceAdd, ↓reduceIte, hn, h0, h1, h2, h8, rbs14]
  refine wstep_newSlice (by rfl) ?_
  intro lt t4 hlt hltF hst4
  have hn4 := hst4.next
  simp (config := { maxSteps := 1000000, implicitDefEqProofs := false }) (disch := omega) only [allW, allR, oneOf, evalAll, partsA, optA, Nat.reduceLT, Nat.reduceLeDiff, Nat.reduceEqDiff, Nat.reduceAdd, ↓reduceIte, hn, h0, h1, h2, h8]
  refine wstep_append Try.underlying27 Try.underlying27 (.inl ⟨_, rfl⟩) szU8 byU8 zU8 rfl (hcv.keeps hst4) hlt.sees.src (by rw [ofBytes_length]; rfl) (by decide) (ofBytes_ok _) (by rw [be_length]; decide) (by rw [be_length]; decide) hcvF (by omega) ?_
  intro cv2 t5 hcv2 hcv2F hst5 hut5 _
  have hn5 := hut5.next
  have h18 := cmap0_length
  rw [← ofBytes_append, ← ofBytes_append, cmap_two, be_length, be_length, show 2 + 2 + 14 = cmap0.length by rw [h18]] at hcv2
  have hstT : Stay t.next t t5 := ((hst1.trans (hst2.weaken hn1)).trans hst3).trans ((hst4.weaken (by omega)).trans hst5)
  have hmv5 := hmv.keeps hstT
  have hmvl := hmv.idlt
  have hst05 := hst.trans (hstT.weaken hn0)
  simp (config := { maxSteps := 1000000, implicitDefEqProofs := false }) (disch := omega) only [allW, allR, oneOf, evalAll, partsA, optA, Nat.reduceLT, Nat.reduceLeDiff, Nat.reduceEqDiff, Nat.reduceAdd, ↓reduceIte, hn, h0, h1, h2, h8]
  refine Comes.loopOut (fun z f t' => ∃ (k : Nat) (cv : Value), z = 256 - k ∧ k ≤ 256 ∧ (∀ j, j < k → j < gl.length → 0 ≤ gl.getD j 0 ∧ gl.getD j 0 < W.length ∧ gl.getD j 0 ≤ 255) ∧ Own t' 1 cv (cmap0 ++ mapB gl k).length (ofBytes (cmap0 ++ mapB gl k)) ∧ Fresh t.next cv ∧ Own t' 1 mv (hmtxB W W.length).length (ofBytes (hmtxB W W.length)) ∧ Stay t.next t t' ∧ f.n = 184 ∧ f.get 0 = .int .i64 u ∧ f.get 1 = wv ∧ f.get 2 = gv ∧ f.get 8 = mv ∧ f.get 10 = cv ∧ f.get 11 = .int .i64 (k : Nat))
    (fun z f t' => (z = .ret ∧ f.n = 184 ∧ badMk u W gl ∧ Stay t.next t t' ∧ f.get 6 = .slice none 0 0 ∧ f.get 7 = .int .i64 1) ∨ (z = .exit 2 ∧ noneG W.length gl = false ∧ ∃ cv : Value, Own t' 1 cv (cmapB gl).length (ofBytes (cmapB gl)) ∧ Fresh t.next cv ∧ Own t' 1 mv (hmtxB W W.length).length (ofBytes (hmtxB W W.length)) ∧ Stay t.next t t' ∧ f.n = 184 ∧ f.get 0 = .int .i64 u ∧ f.get 1 = wv ∧ f.get 8 = mv ∧ f.get 10 = cv))
    ⟨0, cv2, rfl, by omega, (fun j hj => by omega), by rw [show mapB gl 0 = [] from rfl, List.append_nil]; exact hcv2, hcv2F, hmv5, hstT, by simp only [get_put, n_put, ↓reduceIte, Nat.reduceEqDiff, hn], by simp only [get_put, n_put, ↓reduceIte, Nat.reduceEqDiff, h0], by simp only [get_put, n_put, ↓reduceIte, Nat.reduceEqDiff, h1], by simp only [get_put, n_put, ↓reduceIte, Nat.reduceEqDiff, h2], by simp only [get_put, n_put, ↓reduceIte, Nat.reduceEqDiff, h8], by simp only [get_put, n_put, ↓reduceIte, Nat.reduceEqDiff], by simp only [get_put, n_put, ↓reduceIte, Nat.reduceEqDiff]; rfl⟩ ?_ ?_
  · clear hn h0 h1 h2 h8 f
    rintro Q hQ z f t' ⟨k, cv, rfl, hk, hok, hcv, hcvF, hmv', hstt, hn, h0, h1, h2, h8, h10, h11⟩
    have hntt := hstt.next
    have hWt := hW.keeps (hst.trans (hstt.weaken hn0))
    have hGt := hG.keeps (hst.trans (hstt.weaken hn0))
    by_cases hlt : k < 256
    rotate_left
    · obtain rfl : k = 256 := by omega
      have d : ¬ ((256 : Nat) : Int) < 256 := by omega
      simp (config := { maxSteps := 1000000, implicitDefEqProofs := false }) (disch := omega) only [allW, allR, oneOf, evalAll, partsA, optA, Nat.reduceLT, Nat.reduceLeDiff, Nat.reduceEqDiff, Nat.reduceAdd, ↓reduceIte, undef, hn, h0, h1, h2, h8, h10, h11, eq_false d]
      exact hQ _ _ _ (.inr ⟨rfl, none_no (fun j hj => hok j (by omega) hj), cv, hcv, hcvF, hmv', hstt, by simp only [get_put, n_put, ↓reduceIte, Nat.reduceEqDiff, hn], by simp only [get_put, n_put, ↓reduceIte, Nat.reduceEqDiff, h0], by simp only [get_put, n_put, ↓reduceIte, Nat.reduceEqDiff, h1], by simp only [get_put, n_put, ↓reduceIte, Nat.reduceEqDiff, h8], by simp only [get_put, n_put, ↓reduceIte, Nat.reduceEqDiff, h10]⟩)
    have d : (k : Int) < 256 := by omega
    have hlen : (cmap0 ++ mapB gl k).length = 18 + k := by rw [List.length_append, h18, mapB_length]
    by_cases c : k < gl.length
    · have d2 : (k : Int) < (gl.length : Int) := by omega
      have hix := hGt.indexAddr (P := Try.prog) (k := .i64) (x := (k : Int)) Try.underlying30 szInt (by omega) (by omega)
      rw [Int.toNat_natCast] at hix
      have hld := hGt.load1 (P := Try.prog) agInt c
      rw [intsZ_getD c] at hld
      have ret : ∀ (f : AFr) , (gl.getD k 0 < 0 ∨ (W.length : Int) ≤ gl.getD k 0 ∨ 255 < gl.getD k 0) → f.n = 184 → f.get 6 = .slice none 0 0 → f.get 7 = .int .i64 1 → Q .ret f t' := fun f hb hn h6 h7 => hQ _ _ _ (.inl ⟨rfl, hn, .inr (.inr (.inr (.inr (.inr (.inr (none_of c hb)))))), hstt, h6, h7⟩)
      by_cases c1 : gl.getD k 0 < 0
      · simp (config := { maxSteps := 1000000, implicitDefEqProofs := false }) (disch := omega) only [allW, allR, oneOf, evalAll, partsA, optA, Nat.reduceLT, Nat.reduceLeDiff, Nat.reduceEqDiff, Nat.reduceAdd, ↓reduceIte, undef, hn, h0, h1, h2, h8, h10, h11, eq_true d, hGt.lenA Try.underlying30, eq_true d2, hix, hld, eq_true c1]
        exact ret _ (.inl c1) (by simp only [get_put, n_put, ↓reduceIte, Nat.reduceEqDiff, hn]) (by simp only [get_put, n_put, ↓reduceIte, Nat.reduceEqDiff]) (by simp only [get_put, n_put, ↓reduceIte, Nat.reduceEqDiff])
      by_cases c2 : (W.length : Int) ≤ gl.getD k 0
      · simp (config := { maxSteps := 1000000, implicitDefEqProofs := false }) (disch := omega) only [allW, allR, oneOf, evalAll, partsA, optA, Nat.reduceLT, Nat.reduceLeDiff, Nat.reduceEqDiff, Nat.reduceAdd, ↓reduceIte, undef, hn, h0, h1, h2, h8, h10, h11, eq_true d, hGt.lenA Try.underlying30, hWt.lenA Try.underlying30, eq_true d2, hix, hld, eq_false c1, eq_true c2]
        exact ret _ (.inr (.inl c2)) (by simp only [get_put, n_put, ↓reduceIte, Nat.reduceEqDiff, hn]) (by simp only [get_put, n_put, ↓reduceIte, Nat.reduceEqDiff]) (by simp only [get_put, n_put, ↓reduceIte, Nat.reduceEqDiff])
      by_cases c3 : 255 < gl.getD k 0
      · simp (config := { maxSteps := 1000000, implicitDefEqProofs := false }) (disch := omega) only [allW, allR, oneOf, evalAll, partsA, optA, Nat.reduceLT, Nat.reduceLeDiff, Nat.reduceEqDiff, Nat.reduceAdd, ↓reduceIte, undef, hn, h0, h1, h2, h8, h10, h11, eq_true d, hGt.lenA Try.underlying30, hWt.lenA Try.underlying30, eq_true d2, hix, hld, eq_false c1, eq_false c2, eq_true c3]
        exact ret _ (.inr (.inr c3)) (by simp only [get_put, n_put, ↓reduceIte, Nat.reduceEqDiff, hn]) (by simp only [get_put, n_put, ↓reduceIte, Nat.reduceEqDiff]) (by simp only [get_put, n_put, ↓reduceIte, Nat.reduceEqDiff])
      obtain ⟨gn, hgn⟩ : ∃ n : Nat, gl.getD k 0 = n := ⟨(gl.getD k 0).toNat, by omega⟩
      rw [hgn] at hld c1 c2 c3
      have hms : ofBytes (cmap0 ++ mapB gl k) ++ [.int .u8 ((UInt8.ofNat gn).toNat : Int)] = ofBytes (cmap0 ++ mapB gl (k + 1)) := by
        rw [mapB_succ, ← List.append_assoc, hgn, Int.toNat_natCast, ofBytes_append (cmap0 ++ mapB gl k)]; rfl
      have c2' : ¬ W.length ≤ gn := by omega
      simp (config := { maxSteps := 1000000, implicitDefEqProofs := false }) (disch := omega) only [allW, allR, oneOf, evalAll, partsA, optA, Nat.reduceLT, Nat.reduceLeDiff, Nat.reduceEqDiff, Nat.reduceAdd, ↓reduceIte, undef, hn, h0, h1, h2, h8, h10, h11, eq_true d, hGt.lenA Try.underlying30, hWt.lenA Try.underlying30, eq_true d2, hix, hld, eq_false c1, eq_false c2, eq_false c2', eq_false c3, conv_int Try.underlying3 Try.underlying5, u8_of, build1 Try.underlying27 szU8 zU8]
      refine wstep_append_lit Try.underlying27 szU8 byU8 zU8 rfl hcv (by simp only [get_put, n_put, ↓reduceIte, Nat.reduceEqDiff]) (by decide) (by simp only [get_put, n_put, ↓reduceIte, Nat.reduceEqDiff, hn]; decide) (by simp only [get_put, n_put, ↓reduceIte, Nat.reduceEqDiff, hn]; decide) (by rfl) (by decide) rfl (by omega) (by omega) hcvF hntt ?_
      intro bs cv' u2 hcvn hFn hstn hutn _
      rw [hms, hlen, show 18 + k + 1 = (cmap0 ++ mapB gl (k + 1)).length by rw [List.length_append, h18, mapB_length]; omega] at hcvn
      simp (config := { maxSteps := 1000000, implicitDefEqProofs := false }) (disch := omega) only [allW, allR, oneOf, evalAll, partsA, optA, Nat.reduceLT, Nat.reduceLeDiff, Nat.reduceEqDiff, Nat.reduceAdd, ↓reduceIte, undef, hn, h0, h1, h2, h8, h10, h11, wrapI]
      refine wround_next (256 - (k + 1)) (by omega) ⟨k + 1, cv', rfl, by omega, (fun j hj hjl => ?_), hcvn, hFn, hmv'.turns hutn (fun i hi e => by have := hmvl i hi; have := hcvF _ e; omega), hstt.trans hstn, by simp only [get_put, n_put, ↓reduceIte, Nat.reduceEqDiff, hn], by simp only [get_put, n_put, ↓reduceIte, Nat.reduceEqDiff, h0], by simp only [get_put, n_put, ↓reduceIte, Nat.reduceEqDiff, h1], by simp only [get_put, n_put, ↓reduceIte, Nat.reduceEqDiff, h2], by simp only [get_put, n_put, ↓reduceIte, Nat.reduceEqDiff, h8], by simp only [get_put, n_put, ↓reduceIte, Nat.reduceEqDiff], by simp only [get_put, n_put, ↓reduceIte, Nat.reduceEqDiff]; rfl⟩
      by_cases e : j = k
      · subst e; omega
      · exact hok j (by omega) hjl
    · have d2 : ¬ (k : Int) < (gl.length : Int) := by omega
      have hg0 : gl.getD k 0 = 0 := by simp [List.getD, List.getElem?_eq_none (Nat.le_of_not_lt c)]
      have hz0 : convA Try.prog t' 3 5 (.int .i64 0) = some (.int .u8 ((UInt8.ofNat 0).toNat : Int), t') := by
        have := conv_int (P := Try.prog) (s := t') (j := .i64) (n := ((0 : Nat) : Int)) Try.underlying3 Try.underlying5
        rw [u8_of] at this; exact this
      have hms : ofBytes (cmap0 ++ mapB gl k) ++ [.int .u8 ((UInt8.ofNat 0).toNat : Int)] = ofBytes (cmap0 ++ mapB gl (k + 1)) := by
        rw [mapB_succ, ← List.append_assoc, hg0, ofBytes_append (cmap0 ++ mapB gl k)]; rfl
      have c1 : ¬ (0 : Int) < 0 := by decide
      have c2 : ¬ (W.length : Int) ≤ 0 := by omega
      have c3 : ¬ (255 : Int) < 0 := by decide
      simp (config := { maxSteps := 1000000, implicitDefEqProofs := false }) (disch := omega) only [allW, allR, oneOf, evalAll, partsA, optA, Nat.reduceLT, Nat.reduceLeDiff, Nat.reduceEqDiff, Nat.reduceAdd, ↓reduceIte, undef, hn, h0, h1, h2, h8, h10, h11, eq_true d, hGt.lenA Try.underlying30, hWt.lenA Try.underlying30, eq_false d2, eq_false c1, eq_false c2, eq_false c3, hz0, build1 Try.underlying27 szU8 zU8]
      refine wstep_append_lit Try.underlying27 szU8 byU8 zU8 rfl hcv (by simp only [get_put, n_put, ↓reduceIte, Nat.reduceEqDiff]) (by decide) (by simp only [get_put, n_put, ↓reduceIte, Nat.reduceEqDiff, hn]; decide) (by simp only [get_put, n_put, ↓reduceIte, Nat.reduceEqDiff, hn]; decide) (by rfl) (by decide) rfl (by omega) (by omega) hcvF hntt ?_
      intro bs cv' u2 hcvn hFn hstn hutn _
      rw [hms, hlen, show 18 + k + 1 = (cmap0 ++ mapB gl (k + 1)).length by rw [List.length_append, h18, mapB_length]; omega] at hcvn
      simp (config := { maxSteps := 1000000, implicitDefEqProofs := false }) (disch := omega) only [allW, allR, oneOf, evalAll, partsA, optA, Nat.reduceLT, Nat.reduceLeDiff, Nat.reduceEqDiff, Nat.reduceAdd, ↓reduceIte, undef, hn, h0, h1, h2, h8, h10, h11, wrapI]
      refine wround_next (256 - (k + 1)) (by omega) ⟨k + 1, cv', rfl, by omega, (fun j hj hjl => ?_), hcvn, hFn, hmv'.turns hutn (fun i hi e => by have := hmvl i hi; have := hcvF _ e; omega), hstt.trans hstn, by simp only [get_put, n_put, ↓reduceIte, Nat.reduceEqDiff, hn], by simp only [get_put, n_put, ↓reduceIte, Nat.reduceEqDiff, h0], by simp only [get_put, n_put, ↓reduceIte, Nat.reduceEqDiff, h1], by simp only [get_put, n_put, ↓reduceIte, Nat.reduceEqDiff, h2], by simp only [get_put, n_put, ↓reduceIte, Nat.reduceEqDiff, h8], by simp only [get_put, n_put, ↓reduceIte, Nat.reduceEqDiff], by simp only [get_put, n_put, ↓reduceIte, Nat.reduceEqDiff]; rfl⟩
      by_cases e : j = k
      · subst e; omega
      · exact hok j (by omega) hjl
  clear hn h0 h1 h2 h8 f
  rintro z f t' (⟨rfl, hn, hb, hstt, h6, h7⟩ | ⟨rfl, hng, cv, hcv, hcvF, hmv', hstt, hn, h0, h1, h8, h10⟩)
  · simp (config := { maxSteps := 1000000, implicitDefEqProofs := false }) (disch := omega) only [allW, allR, oneOf, evalAll, partsA, optA, Nat.reduceLT, Nat.reduceLeDiff, Nat.reduceEqDiff, Nat.reduceAdd, ↓reduceIte]
    exact hbad f t' hn hb (hst.trans (hstt.weaken hn0)) h6 h7
  have hgood : ¬ badMk u W gl := by unfold badMk; rw [hwide, hng]; simp only [k1, k2, k3, k4, k6, or_self, Bool.false_eq_true, not_false_eq_true]
  clear hbad
  obtain ⟨un, rfl⟩ : ∃ n : Nat, u = n := ⟨u.toNat, by omega⟩
  have hWt := hW.keeps (hst.trans (hstt.weaken hn0))
  have hntt := hstt.next
  have m54 : ∀ s, makeSliceA Try.prog s 27 (.int .i64 54) (.int .i64 54) = newSlice s (List.replicate 54 (.int .u8 0)) 54 1 := fun s => makeBytes s 54 (by omega)
  have m36 : ∀ s, makeSliceA Try.prog s 27 (.int .i64 36) (.int .i64 36) = newSlice s (List.replicate 36 (.int .u8 0)) 36 1 := fun s => makeBytes s 36 (by omega)
  have m6 : ∀ s, makeSliceA Try.prog s 27 (.int .i64 6) (.int .i64 6) = newSlice s (List.replicate 6 (.int .u8 0)) 6 1 := fun s => makeBytes s 6 (by omega)
  simp (config := { maxSteps := 1000000, implicitDefEqProofs := false }) (disch := omega) only [allW, allR, oneOf, evalAll, partsA, optA, Nat.reduceLT, Nat.reduceLeDiff, Nat.reduceEqDiff, Nat.reduceAdd, ↓reduceIte, hn, h0, h1, h8, h10, m54]
  refine wstep_newSlice (by rfl) ?_
  intro hv ua hhv hhvF hstua
  have hnua := hstua.next
  have mkhv : Own ua 1 hv 54 (List.replicate 54 (.int .u8 0)) := hhv
  simp (config := { maxSteps := 1000000, implicitDefEqProofs := false }) (disch := omega) only [allW, allR, oneOf, evalAll, partsA, optA, Nat.reduceLT, Nat.reduceLeDiff, Nat.reduceEqDiff, Nat.reduceAdd, ↓reduceIte, hn, h0, h1, h8, h10]
  refine LB.Drawn.looseK (fun j => decide (j < (ua).next)) (fun j h => of_decide_eq_true h) 1 0 (by kernel_rfl) (by kernel_rfl) ?_
  rw [spare_zero]
  have hlvhv : LA.lowV (fun j => decide (j < (ua).next)) (some hv) = true := LA.lowV_own mkhv (fun i hi => decide_eq_true (mkhv.idlt i hi))
  have hslhv := (mkhv).room.slice (P := Try.prog) (k := .i64) (x := 18) Try.underlying27 szU8 (by omega) (by omega)
  rw [show Int.toNat 18 = 18 from rfl] at hslhv
  have hWq := (hWt.keeps (Stay.refl _ _)).keeps hstua
  have hWl := LA.lowL_sees hWq
  simp (config := { maxSteps := 1000000, implicitDefEqProofs := false }) (disch := omega) only [allW, allR, allL, allB, Nat.sub_self, Nat.add_one_sub_one, Nat.reduceSub, oneOf, evalAll, partsA, optA, Nat.reduceLT, Nat.reduceLeDiff, Nat.reduceEqDiff, Nat.reduceAdd, ↓reduceIte, hn, h0, h1, h8, h10, hlvhv, hslhv, mkhv.self, hWq.lenA Try.underlying30, hWq.self, hWl, valEq_int, valEq_cutS]
  refine (rbig_any (lib := libN) rfl ua un 2 (by omega) (by omega)).mono ?_
  rintro bbhv ub ⟨hbbhv, hbbhvF, hstub⟩
  have hnub := hstub.next
  refine ⟨fun _ => LA.Stay.toA (fun i hi => of_decide_eq_true hi) hstub, ?_⟩
  obtain ⟨uc, hcphv, hohv, huthv, hnxhv⟩ := at_over (place := 18) (mkhv.keeps hstub) hbbhv.sees (by omega)
  simp (config := { maxSteps := 1000000, implicitDefEqProofs := false }) (disch := omega) only [allW, allR, allL, allB, Nat.sub_self, Nat.add_one_sub_one, Nat.reduceSub, oneOf, evalAll, partsA, optA, Nat.reduceLT, Nat.reduceLeDiff, Nat.reduceEqDiff, Nat.reduceAdd, ↓reduceIte, hn, h0, h1, h8, h10, hcphv]
  rw [LB.sstep_val]
  refine ⟨fun h => by simp at h, ?_⟩
  have hstuc : Stay (t').next t' uc := (hstua.trans (hstub.weaken hnua)).trans (huthv.keeps hhvF (by omega))
  have hnuc := hstuc.next
  simp (config := { maxSteps := 1000000, implicitDefEqProofs := false }) (disch := omega) only [allW, allR, allL, allB, Nat.sub_self, Nat.add_one_sub_one, Nat.reduceSub, oneOf, evalAll, partsA, optA, Nat.reduceLT, Nat.reduceLeDiff, Nat.reduceEqDiff, Nat.reduceAdd, ↓reduceIte, hn, h0, h1, h8, h10, m36]
  refine wstep_newSlice (by rfl) ?_
  intro ev ud hev hevF hstud
  have hnud := hstud.next
  have mkev : Own ud 1 ev 36 (List.replicate 36 (.int .u8 0)) := hev
  simp (config := { maxSteps := 1000000, implicitDefEqProofs := false }) (disch := omega) only [allW, allR, oneOf, evalAll, partsA, optA, Nat.reduceLT, Nat.reduceLeDiff, Nat.reduceEqDiff, Nat.reduceAdd, ↓reduceIte, hn, h0, h1, h8, h10]
  refine LB.Drawn.looseK (fun j => decide (j < (ud).next)) (fun j h => of_decide_eq_true h) 1 0 (by kernel_rfl) (by kernel_rfl) ?_
  rw [spare_zero]
  have hlvev : LA.lowV (fun j => decide (j < (ud).next)) (some ev) = true := LA.lowV_own mkev (fun i hi => decide_eq_true (mkev.idlt i hi))
  have hslev := (mkev).room.slice (P := Try.prog) (k := .i64) (x := 34) Try.underlying27 szU8 (by omega) (by omega)
  rw [show Int.toNat 34 = 34 from rfl] at hslev
  have hWq := (hWt.keeps hstuc).keeps hstud
  have hWl := LA.lowL_sees hWq
  simp (config := { maxSteps := 1000000, implicitDefEqProofs := false }) (disch := omega) only [allW, allR, allL, allB, Nat.sub_self, Nat.add_one_sub_one, Nat.reduceSub, oneOf, evalAll, partsA, optA, Nat.reduceLT, Nat.reduceLeDiff, Nat.reduceEqDiff, Nat.reduceAdd, ↓reduceIte, hn, h0, h1, h8, h10, hlvev, hslev, mkev.self, hWq.lenA Try.underlying30, hWq.self, hWl, valEq_int, valEq_cutS]
  refine (rbig_any (lib := libN) rfl ud W.length 2 (by omega) (by omega)).mono ?_
  rintro bbev ue ⟨hbbev, hbbevF, hstue⟩
  have hnue := hstue.next
  refine ⟨fun _ => LA.Stay.toA (fun i hi => of_decide_eq_true hi) hstue, ?_⟩
  obtain ⟨uf, hcpev, hoev, hutev, hnxev⟩ := at_over (place := 34) (mkev.keeps hstue) hbbev.sees (by omega)
  simp (config := { maxSteps := 1000000, implicitDefEqProofs := false }) (disch := omega) only [allW, allR, allL, allB, Nat.sub_self, Nat.add_one_sub_one, Nat.reduceSub, oneOf, evalAll, partsA, optA, Nat.reduceLT, Nat.reduceLeDiff, Nat.reduceEqDiff, Nat.reduceAdd, ↓reduceIte, hn, h0, h1, h8, h10, hcpev]
  rw [LB.sstep_val]
  refine ⟨fun h => by simp at h, ?_⟩
  have hstuf : Stay (uc).next uc uf := (hstud.trans (hstue.weaken hnud)).trans (hutev.keeps hevF (by omega))
  have hnuf := hstuf.next
  simp (config := { maxSteps := 1000000, implicitDefEqProofs := false }) (disch := omega) only [allW, allR, allL, allB, Nat.sub_self, Nat.add_one_sub_one, Nat.reduceSub, oneOf, evalAll, partsA, optA, Nat.reduceLT, Nat.reduceLeDiff, Nat.reduceEqDiff, Nat.reduceAdd, ↓reduceIte, hn, h0, h1, h8, h10, m6]
  refine wstep_newSlice (by rfl) ?_
  intro xv ug hxv hxvF hstug
  have hnug := hstug.next
  have mkxv : Own ug 1 xv 6 (List.replicate 6 (.int .u8 0)) := hxv
  simp (config := { maxSteps := 1000000, implicitDefEqProofs := false }) (disch := omega) only [allW, allR, oneOf, evalAll, partsA, optA, Nat.reduceLT, Nat.reduceLeDiff, Nat.reduceEqDiff, Nat.reduceAdd, ↓reduceIte, hn, h0, h1, h8, h10]
  refine LB.Drawn.looseK (fun j => decide (j < (ug).next)) (fun j h => of_decide_eq_true h) 1 0 (by kernel_rfl) (by kernel_rfl) ?_
  rw [spare_zero]
  have hlvxv : LA.lowV (fun j => decide (j < (ug).next)) (some xv) = true := LA.lowV_own mkxv (fun i hi => decide_eq_true (mkxv.idlt i hi))
  have hslxv := (mkxv).room.slice (P := Try.prog) (k := .i64) (x := 4) Try.underlying27 szU8 (by omega) (by omega)
  rw [show Int.toNat 4 = 4 from rfl] at hslxv
  have hWq := (hWt.keeps (hstuc.trans (hstuf.weaken hnuc))).keeps hstug
  have hWl := LA.lowL_sees hWq
  simp (config := { maxSteps := 1000000, implicitDefEqProofs := false }) (disch := omega) only [allW, allR, allL, allB, Nat.sub_self, Nat.add_one_sub_one, Nat.reduceSub, oneOf, evalAll, partsA, optA, Nat.reduceLT, Nat.reduceLeDiff, Nat.reduceEqDiff, Nat.reduceAdd, ↓reduceIte, hn, h0, h1, h8, h10, hlvxv, hslxv, mkxv.self, hWq.lenA Try.underlying30, hWq.self, hWl, valEq_int, valEq_cutS]
  refine (rbig_any (lib := libN) rfl ug W.length 2 (by omega) (by omega)).mono ?_
  rintro bbxv uh ⟨hbbxv, hbbxvF, hstuh⟩
  have hnuh := hstuh.next
  refine ⟨fun _ => LA.Stay.toA (fun i hi => of_decide_eq_true hi) hstuh, ?_⟩
  obtain ⟨ui, hcpxv, hoxv, hutxv, hnxxv⟩ := at_over (place := 4) (mkxv.keeps hstuh) hbbxv.sees (by omega)
  simp (config := { maxSteps := 1000000, implicitDefEqProofs := false }) (disch := omega) only [allW, allR, allL, allB, Nat.sub_self, Nat.add_one_sub_one, Nat.reduceSub, oneOf, evalAll, partsA, optA, Nat.reduceLT, Nat.reduceLeDiff, Nat.reduceEqDiff, Nat.reduceAdd, ↓reduceIte, hn, h0, h1, h8, h10, hcpxv]
  rw [LB.sstep_val]
  refine ⟨fun h => by simp at h, ?_⟩
  have hstui : Stay (uf).next uf ui := (hstug.trans (hstuh.weaken hnug)).trans (hutxv.keeps hxvF (by omega))
  have hnui := hstui.next
  have hhv := (hohv.keeps hstuf).keeps hstui
  have hev := hoev.keeps hstui
  have hxv := hoxv
  have hsttui : Stay t'.next t' ui := (hstuc.trans (hstuf.weaken hnuc)).trans (hstui.weaken (by omega))
  have hcvi := hcv.keeps hsttui
  have hmvi := hmv'.keeps hsttui
  have hsti := (hst.trans (hstt.weaken hn0)).trans (hsttui.weaken (by omega))
  have hcvl := hcvi.idlt
  have hmvl' := hmvi.idlt
  have hhvl := hhv.idlt
  have hevl := hev.idlt
  have hxvl := hxv.idlt
  have B0 : buildA Try.prog 70 [(0, .string { data := #[99, 109, 97, 112] }), (1, cv)] = some (.agg #[.string ⟨nCmap.toArray⟩, cv]) := rbT nCmap cv hcvi.sees.cell1
  have B1 : buildA Try.prog 70 [(0, .string { data := #[104, 101, 97, 100] }), (1, hv)] = some (.agg #[.string ⟨nHead.toArray⟩, hv]) := rbT nHead hv hhv.sees.cell1
  have B2 : buildA Try.prog 70 [(0, .string { data := #[104, 104, 101, 97] }), (1, ev)] = some (.agg #[.string ⟨nHhea.toArray⟩, ev]) := rbT nHhea ev hev.sees.cell1
  have B3 : buildA Try.prog 70 [(0, .string { data := #[104, 109, 116, 120] }), (1, mv)] = some (.agg #[.string ⟨nHmtx.toArray⟩, mv]) := rbT nHmtx mv hmvi.sees.cell1
  have B4 : buildA Try.prog 70 [(0, .string { data := #[109, 97, 120, 112] }), (1, xv)] = some (.agg #[.string ⟨nMaxp.toArray⟩, xv]) := rbT nMaxp xv hxv.sees.cell1
  simp (config := { maxSteps := 1000000, implicitDefEqProofs := false }) (disch := omega) only [allW, allR, allL, allB, Nat.sub_self, Nat.add_one_sub_one, Nat.reduceSub, oneOf, evalAll, partsA, optA, Nat.reduceLT, Nat.reduceLeDiff, Nat.reduceEqDiff, Nat.reduceAdd, ↓reduceIte, hn, h0, h1, h8, h10, B0, B1, B2, B3, B4, buildTwo5 Try.underlying65 rszT rzT rfl ⟨_, _, rfl⟩]
  refine wstep_newSlice (by rfl) ?_
  intro lv v1 hlv hlvF hstv1
  have hnv1 := hstv1.next
  simp (config := { maxSteps := 1000000, implicitDefEqProofs := false }) (disch := omega) only [allW, allR, oneOf, evalAll, partsA, optA, Nat.reduceLT, Nat.reduceLeDiff, Nat.reduceEqDiff, Nat.reduceAdd, ↓reduceIte, hn, rbs12]
  refine wstep_newSlice (by rfl) ?_
  intro ov v2 hov hovF hstv2
  have hnv2 := hstv2.next
  obtain ⟨L, hL⟩ : ∃ L, L = partsB un W gl := ⟨_, rfl⟩
  have hlvl := hlv.idlt
  have hlow : ∀ t, Stay v1.next v1 t → Sees t 2 lv 5 [.string ⟨nCmap.toArray⟩, cv, .string ⟨nHead.toArray⟩, hv, .string ⟨nHhea.toArray⟩, ev, .string ⟨nHmtx.toArray⟩, mv, .string ⟨nMaxp.toArray⟩, xv] := fun t k => (hlv.keeps k).sees
  have hP : ∀ t, Stay v1.next v1 t → ∀ k, k < 5 → Sees t 1 ([cv, hv, ev, mv, xv].getD k undef) (L.getD k []).length (ofBytes (L.getD k [])) := fun t h k hk => by
    have h5 := hstv1.trans (h.weaken hnv1)
    have : k = 0 ∨ k = 1 ∨ k = 2 ∨ k = 3 ∨ k = 4 := by omega
    rw [hL]
    rcases this with rfl | rfl | rfl | rfl | rfl
    · exact (hcvi.keeps h5).sees
    · exact (hhv.keeps h5).sees
    · exact (hev.keeps h5).sees
    · exact (hmvi.keeps h5).sees
    · exact (hxv.keeps h5).sees
  have hpl : ∀ k, k < 5 → (L.getD k []).length ≤ 4000 := fun k hk => by rw [hL]; exact parts_le (by omega) hk
  have hbl : ∀ k, k ≤ 5 → (bodyTo L k).length ≤ 4003 * k := fun k hk => by rw [hL]; exact body_le (by omega) k hk
  have hsti1 := hsti.trans (hstv1.weaken hsti.next)
  have hsn := hsti.next
  have hov : Own v2 1 ov (outTo L 0).length (ofBytes (outTo L 0)) := by
    have e : outTo L 0 = [0, 1, 0, 0, 0, 5, 0, 0, 0, 0, 0, 0] := by show [0, 1, 0, 0] ++ be 2 5 ++ List.replicate 6 0 = _; decide +kernel
    rw [e]; exact hov
  simp (config := { maxSteps := 1000000, implicitDefEqProofs := false }) (disch := omega) only [allW, allR, oneOf, evalAll, partsA, optA, Nat.reduceLT, Nat.reduceLeDiff, Nat.reduceEqDiff, Nat.reduceAdd, ↓reduceIte, hn]
  refine Comes.loopOut (fun z f t => ∃ (k : Nat) (ov bv : Value), z = 5 - k ∧ k ≤ 5 ∧ Own t 1 ov (outTo L k).length (ofBytes (outTo L k)) ∧ Own t 1 bv (bodyTo L k).length (ofBytes (bodyTo L k)) ∧ Fresh v1.next ov ∧ Fresh v1.next bv ∧ (∀ i, idOf bv = some i → idOf ov ≠ some i) ∧ Stay v1.next v1 t ∧ f.n = 184 ∧ f.get 16 = lv ∧ f.get 17 = ov ∧ f.get 18 = .int .i64 92 ∧ f.get 19 = bv ∧ f.get 20 = .int .i64 (k : Nat))
    (fun z f t => z = .exit 4 ∧ ∃ ov bv : Value, Own t 1 ov (outTo L 5).length (ofBytes (outTo L 5)) ∧ Own t 1 bv (bodyTo L 5).length (ofBytes (bodyTo L 5)) ∧ Fresh v1.next ov ∧ Stay v1.next v1 t ∧ f.n = 184 ∧ f.get 17 = ov ∧ f.get 19 = bv)
    ⟨0, ov, .slice none 0 0, rfl, by omega, hov, .nil, hovF, Fresh.nil _, (fun i h => by cases h), hstv2, by simp only [get_put, n_put, ↓reduceIte, Nat.reduceEqDiff, hn], by simp only [get_put, n_put, ↓reduceIte, Nat.reduceEqDiff], by simp only [get_put, n_put, ↓reduceIte, Nat.reduceEqDiff], by simp only [get_put, n_put, ↓reduceIte, Nat.reduceEqDiff], by simp only [get_put, n_put, ↓reduceIte, Nat.reduceEqDiff], by simp only [get_put, n_put, ↓reduceIte, Nat.reduceEqDiff]; rfl⟩ ?_ ?_
  · clear hn h0 h1 h8 h10 f hov hovF hstv2 hnv2
    rintro Q hQ z f t ⟨k, ov, bv, rfl, hk, hov, hbv, hovF, hbvF, hob, hst, hn, h16, h17, h18', h19, h20⟩
    by_cases hlt : k < 5
    rotate_left
    · obtain rfl : k = 5 := by omega
      have d : ¬ ((5 : Nat) : Int) < 5 := by omega
      simp (config := { maxSteps := 1000000, implicitDefEqProofs := false }) (disch := omega) only [allW, allR, oneOf, evalAll, partsA, optA, Nat.reduceLT, Nat.reduceLeDiff, Nat.reduceEqDiff, Nat.reduceAdd, ↓reduceIte, undef, hn, h16, h17, h18', h19, h20, eq_false d]
      exact hQ _ _ _ ⟨rfl, ov, bv, hov, hbv, hovF, hst, by simp only [get_put, n_put, ↓reduceIte, Nat.reduceEqDiff, hn], by simp only [get_put, n_put, ↓reduceIte, Nat.reduceEqDiff, h17], by simp only [get_put, n_put, ↓reduceIte, Nat.reduceEqDiff, h19]⟩
    have d : (k : Int) < 5 := by omega
    have hnt := hst.next
    have hlt' := hlow t hst
    have hix := hlt'.indexAddr (P := Try.prog) (k := .i64) (x := (k : Int)) Try.underlying65 rszT (by omega) (by omega)
    rw [Int.toNat_natCast] at hix
    have hnml : (namesB.getD k []).length = 4 := by
      have : k = 0 ∨ k = 1 ∨ k = 2 ∨ k = 3 ∨ k = 4 := by omega
      rcases this with rfl | rfl | rfl | rfl | rfl <;> rfl
    obtain ⟨nmk, hnmk⟩ : ∃ n, n = namesB.getD k [] := ⟨_, rfl⟩
    obtain ⟨b, hb⟩ : ∃ b, b = [cv, hv, ev, mv, xv].getD k undef := ⟨_, rfl⟩
    have hl0 : ∀ t, Stay v1.next v1 t → loadA Try.prog t 9 (plusPtr (elemPtr 2 lv k) 0) = some (.string ⟨nmk.toArray⟩) := fun t h => by
      have := (hlow t h).loadField (P := Try.prog) sfAgStr hlt (j := 0) (by omega)
      rw [this, hnmk]
      have : k = 0 ∨ k = 1 ∨ k = 2 ∨ k = 3 ∨ k = 4 := by omega
      rcases this with rfl | rfl | rfl | rfl | rfl <;> rfl
    have hl1 : ∀ t, Stay v1.next v1 t → loadA Try.prog t 27 (plusPtr (elemPtr 2 lv k) 1) = some b := fun t h => by
      have := (hlow t h).loadField (P := Try.prog) agSl hlt (j := 1) (by omega)
      rw [this, hb]
      have : k = 0 ∨ k = 1 ∨ k = 2 ∨ k = 3 ∨ k = 4 := by omega
      rcases this with rfl | rfl | rfl | rfl | rfl <;> rfl
    have hbs : ∀ t, Stay v1.next v1 t → Sees t 1 b (L.getD k []).length (ofBytes (L.getD k [])) := fun t h => by rw [hb]; exact hP t h k hlt
    rw [← hnmk] at hnml
    have hol := outTo_length L k (by omega)
    have hbk := hbl k hk
    have hpk := hpl k hlt
    simp (config := { maxSteps := 1000000, implicitDefEqProofs := false }) (disch := omega) only [allW, allR, oneOf, evalAll, partsA, optA, Nat.reduceLT, Nat.reduceLeDiff, Nat.reduceEqDiff, Nat.reduceAdd, ↓reduceIte, undef, hn, h16, h17, h18', h19, h20, eq_true d, hix, rtf0 hlt' hlt, hl0 t hst]
    refine wstep_append Try.underlying27 Try.underlying9 (.inr rfl) szU8 byU8 zU8 rfl hov (srcTextF _ nmk) (by rw [ofBytes_length]; omega) (by decide) (ofBytes_ok _) (by first | omega | (simp only [be_length]; omega)) (by first | omega | (simp only [be_length]; omega)) hovF (by omega) ?_
    intro ov1 t1 ho1 hoF1 hstt1 hutt1 hort1
    have hnt1 := hstt1.next
    have hnst1 := hutt1.next
    have hbv1 := (hbv).turns hutt1 (fun i hi e => hob i hi e)
    have hob1 : ∀ i, idOf bv = some i → idOf ov1 ≠ some i := fun i hi e => by
      rcases hort1 with h | ⟨x, h, hx⟩
      · exact hob i hi (by rw [← h]; exact e)
      · rw [h] at e; injection e with e; have := (hbv).idlt i hi; omega
    have hs1 := (hst).trans hstt1
    rw [← ofBytes_append] at ho1
    simp (config := { maxSteps := 1000000, implicitDefEqProofs := false }) (disch := omega) only [allW, allR, oneOf, evalAll, partsA, optA, Nat.reduceLT, Nat.reduceLeDiff, Nat.reduceEqDiff, Nat.reduceAdd, ↓reduceIte, undef, hn, h16, h18', h19, h20, bs4z]
    refine wstep_newSlice (by rfl) ?_
    intro z1 t2 hz1 hz1F hstt2
    have hnt2 := hstt2.next
    have hs2 := hs1.trans (hstt2.weaken (by omega))
    simp (config := { maxSteps := 1000000, implicitDefEqProofs := false }) (disch := omega) only [allW, allR, oneOf, evalAll, partsA, optA, Nat.reduceLT, Nat.reduceLeDiff, Nat.reduceEqDiff, Nat.reduceAdd, ↓reduceIte, undef, hn, h16, h18', h19, h20]
    refine wstep_append Try.underlying27 Try.underlying27 (.inl ⟨_, rfl⟩) szU8 byU8 zU8 rfl (ho1.keeps hstt2) hz1.sees.src (by rw [ofBytes_length]; rfl) (by decide) (ofBytes_ok _) (by first | omega | (simp only [be_length]; omega)) (by first | omega | (simp only [be_length]; omega)) hoF1 (by omega) ?_
    intro ov2 t3 ho2 hoF2 hstt3 hutt3 hort3
    have hnt3 := hstt3.next
    have hnst3 := hutt3.next
    have hbv2 := ((hbv1.keeps hstt2)).turns hutt3 (fun i hi e => hob1 i hi e)
    have hob2 : ∀ i, idOf bv = some i → idOf ov2 ≠ some i := fun i hi e => by
      rcases hort3 with h | ⟨x, h, hx⟩
      · exact hob1 i hi (by rw [← h]; exact e)
      · rw [h] at e; injection e with e; have := ((hbv1.keeps hstt2)).idlt i hi; omega
    have hs3 := (hs2).trans hstt3
    rw [← ofBytes_append] at ho2
    simp (config := { maxSteps := 1000000, implicitDefEqProofs := false }) (disch := omega) only [allW, allR, oneOf, evalAll, partsA, optA, Nat.reduceLT, Nat.reduceLeDiff, Nat.reduceEqDiff, Nat.reduceAdd, ↓reduceIte, undef, hn, h16, h18', h19, h20, hbv2.sees.lenA Try.underlying27, wrapI]
    rw [show (92 : Int) + ((bodyTo L k).length : Int) = ((92 + (bodyTo L k).length : Nat) : Int) by omega]
    refine (rbig_any (lib := libN) rfl t3 (92 + (bodyTo L k).length) 4 (by omega) (by omega)).mono ?_
    rintro g1 t4 ⟨hg1, hg1F, hstt4⟩
    have hnt4 := hstt4.next
    have hs4 := hs3.trans (hstt4.weaken (by omega))
    simp (config := { maxSteps := 1000000, implicitDefEqProofs := false }) (disch := omega) only [allW, allR, oneOf, evalAll, partsA, optA, Nat.reduceLT, Nat.reduceLeDiff, Nat.reduceEqDiff, Nat.reduceAdd, ↓reduceIte, undef, hn, h16, h18', h19, h20]
    refine wstep_append Try.underlying27 Try.underlying27 (.inl ⟨_, rfl⟩) szU8 byU8 zU8 rfl (ho2.keeps hstt4) hg1.sees.src (by rw [ofBytes_length]; omega) (by decide) (ofBytes_ok _) (by first | omega | (simp only [be_length]; omega)) (by first | omega | (simp only [be_length]; omega)) hoF2 (by omega) ?_
    intro ov3 t5 ho3 hoF3 hstt5 hutt5 hort5
    have hnt5 := hstt5.next
    have hnst5 := hutt5.next
    have hbv3 := ((hbv2.keeps hstt4)).turns hutt5 (fun i hi e => hob2 i hi e)
    have hob3 : ∀ i, idOf bv = some i → idOf ov3 ≠ some i := fun i hi e => by
      rcases hort5 with h | ⟨x, h, hx⟩
      · exact hob2 i hi (by rw [← h]; exact e)
      · rw [h] at e; injection e with e; have := ((hbv2.keeps hstt4)).idlt i hi; omega
    have hs5 := (hs4).trans hstt5
    rw [← ofBytes_append] at ho3
    have hlt5 := hlow t5 hs5
    simp (config := { maxSteps := 1000000, implicitDefEqProofs := false }) (disch := omega) only [allW, allR, oneOf, evalAll, partsA, optA, Nat.reduceLT, Nat.reduceLeDiff, Nat.reduceEqDiff, Nat.reduceAdd, ↓reduceIte, undef, hn, h16, h18', h19, h20, hix, rtf1 hlt5 hlt, hl1 t5 hs5, (hbs t5 hs5).lenA Try.underlying27]
    refine (rbig_any (lib := libN) rfl t5 (L.getD k []).length 4 (by omega) (by omega)).mono ?_
    rintro g2 t6 ⟨hg2, hg2F, hstt6⟩
    have hnt6 := hstt6.next
    have hs6 := hs5.trans (hstt6.weaken (by omega))
    simp (config := { maxSteps := 1000000, implicitDefEqProofs := false }) (disch := omega) only [allW, allR, oneOf, evalAll, partsA, optA, Nat.reduceLT, Nat.reduceLeDiff, Nat.reduceEqDiff, Nat.reduceAdd, ↓reduceIte, undef, hn, h16, h18', h19, h20]
    refine wstep_append Try.underlying27 Try.underlying27 (.inl ⟨_, rfl⟩) szU8 byU8 zU8 rfl (ho3.keeps hstt6) hg2.sees.src (by rw [ofBytes_length]; omega) (by decide) (ofBytes_ok _) (by first | omega | (simp only [be_length]; omega)) (by first | omega | (simp only [be_length]; omega)) hoF3 (by omega) ?_
    intro ov4 t7 ho4 hoF4 hstt7 hutt7 hort7
    have hnt7 := hstt7.next
    have hnst7 := hutt7.next
    have hbv4 := ((hbv3.keeps hstt6)).turns hutt7 (fun i hi e => hob3 i hi e)
    have hob4 : ∀ i, idOf bv = some i → idOf ov4 ≠ some i := fun i hi e => by
      rcases hort7 with h | ⟨x, h, hx⟩
      · exact hob3 i hi (by rw [← h]; exact e)
      · rw [h] at e; injection e with e; have := ((hbv3.keeps hstt6)).idlt i hi; omega
    have hs7 := (hs6).trans hstt7
    rw [← ofBytes_append] at ho4
    have ho4e : outTo L k ++ nmk ++ [0, 0, 0, 0] ++ be 4 (92 + (bodyTo L k).length) ++ be 4 (L.getD k []).length = outTo L (k + 1) := by
      rw [outTo, rowB, ← hnmk]; simp only [List.append_assoc]
    have hol1 := outTo_length L (k + 1) hlt
    rw [ho4e, be_length, be_length, show (outTo L k).length + nmk.length + 4 + 4 + 4 = (outTo L (k + 1)).length by omega] at ho4
    have hlt7 := hlow t7 hs7
    have hob4' : ∀ i, idOf ov4 = some i → idOf bv ≠ some i := fun i hi e => hob4 i e hi
    simp (config := { maxSteps := 1000000, implicitDefEqProofs := false }) (disch := omega) only [allW, allR, oneOf, evalAll, partsA, optA, Nat.reduceLT, Nat.reduceLeDiff, Nat.reduceEqDiff, Nat.reduceAdd, ↓reduceIte, undef, hn, h16, h18', h19, h20, hix, rtf1 hlt7 hlt, hl1 t7 hs7]
    refine wstep_append Try.underlying27 Try.underlying27 (.inl ⟨_, rfl⟩) szU8 byU8 zU8 rfl hbv4 (hbs t7 hs7).src (by rw [ofBytes_length]; omega) (by decide) (ofBytes_ok _) (by first | omega | (simp only [be_length]; omega)) (by first | omega | (simp only [be_length]; omega)) hbvF (by omega) ?_
    intro bvn t8 hb8 hbF8 hstt8 hutt8 hort8
    have hnt8 := hstt8.next
    have hnst8 := hutt8.next
    have ho8 := (ho4).turns hutt8 (fun i hi e => hob4' i hi e)
    have hob8 : ∀ i, idOf ov4 = some i → idOf bvn ≠ some i := fun i hi e => by
      rcases hort8 with h | ⟨x, h, hx⟩
      · exact hob4' i hi (by rw [← h]; exact e)
      · rw [h] at e; injection e with e; have := (ho4).idlt i hi; omega
    have hs8 := (hs7).trans hstt8
    rw [← ofBytes_append] at hb8
    obtain ⟨X, hX⟩ : ∃ X, X = bodyTo L k ++ L.getD k [] := ⟨_, rfl⟩
    rw [← List.length_append, ← hX] at hb8
    have hXl : X.length ≤ 25000 := by rw [hX, List.length_append]; omega
    have hpd := padB_lt X.length
    simp (config := { maxSteps := 1000000, implicitDefEqProofs := false }) (disch := omega) only [allW, allR, oneOf, evalAll, partsA, optA, Nat.reduceLT, Nat.reduceLeDiff, Nat.reduceEqDiff, Nat.reduceAdd, ↓reduceIte, undef, hn, h16, h18', h20]
    refine Comes.loopOut (fun z f t => ∃ (j : Nat) (bv : Value), z = padB X.length - j ∧ j ≤ padB X.length ∧ Own t 1 bv (X ++ List.replicate j 0).length (ofBytes (X ++ List.replicate j 0)) ∧ Fresh v1.next bv ∧ Own t 1 ov4 (outTo L (k + 1)).length (ofBytes (outTo L (k + 1))) ∧ (∀ i, idOf ov4 = some i → idOf bv ≠ some i) ∧ Stay v1.next v1 t ∧ f.n = 184 ∧ f.get 16 = lv ∧ f.get 17 = ov4 ∧ f.get 18 = .int .i64 92 ∧ f.get 19 = bv ∧ f.get 20 = .int .i64 (k : Nat))
      (fun z f t => z = .exit 6 ∧ ∃ bv : Value, Own t 1 bv (X ++ List.replicate (padB X.length) 0).length (ofBytes (X ++ List.replicate (padB X.length) 0)) ∧ Fresh v1.next bv ∧ Own t 1 ov4 (outTo L (k + 1)).length (ofBytes (outTo L (k + 1))) ∧ (∀ i, idOf ov4 = some i → idOf bv ≠ some i) ∧ Stay v1.next v1 t ∧ f.n = 184 ∧ f.get 16 = lv ∧ f.get 17 = ov4 ∧ f.get 18 = .int .i64 92 ∧ f.get 19 = bv ∧ f.get 20 = .int .i64 (k : Nat))
      ⟨0, bvn, rfl, by omega, by rw [List.replicate_zero, List.append_nil]; exact hb8, hbF8, ho8, hob8, hs8, by simp only [get_put, n_put, ↓reduceIte, Nat.reduceEqDiff, hn], by simp only [get_put, n_put, ↓reduceIte, Nat.reduceEqDiff, h16], by simp only [get_put, n_put, ↓reduceIte, Nat.reduceEqDiff], by simp only [get_put, n_put, ↓reduceIte, Nat.reduceEqDiff, h18'], by simp only [get_put, n_put, ↓reduceIte, Nat.reduceEqDiff], by simp only [get_put, n_put, ↓reduceIte, Nat.reduceEqDiff, h20]⟩ ?_ ?_
    · clear hn h16 h17 h18' h19 h20 f
      rintro Q hQ z f t ⟨j, bv, rfl, hj, hbv, hbvF, hov, hob, hst, hn, h16, h17, h18', h19, h20⟩
      have hnt := hst.next
      have hlen : (X ++ List.replicate j 0).length = X.length + j := by rw [List.length_append, List.length_replicate]
      have hrem : (((X ++ List.replicate j 0).length : Nat) : Int).tmod 4 = (((X.length + j) % 4 : Nat) : Int) := by
        rw [hlen, Int.tmod_eq_emod_of_nonneg (by omega)]; omega
      have h4 : (4 : Int) ≠ 0 := by decide
      by_cases hlt2 : j < padB X.length
      rotate_left
      · obtain rfl : j = padB X.length := by omega
        have d : ¬ (((X.length + padB X.length) % 4 : Nat) : Int) ≠ 0 := by unfold padB; omega
        simp (config := { maxSteps := 1000000, implicitDefEqProofs := false }) (disch := omega) only [allW, allR, oneOf, evalAll, partsA, optA, Nat.reduceLT, Nat.reduceLeDiff, Nat.reduceEqDiff, Nat.reduceAdd, ↓reduceIte, undef, hn, h16, h17, h18', h19, h20, hbv.sees.lenA Try.underlying27, bin_rem Try.prog 3 .i64 _ _ h4, hrem, bin_neq, decide_eq_false d]
        exact hQ _ _ _ ⟨rfl, bv, hbv, hbvF, hov, hob, hst, by simp only [get_put, n_put, ↓reduceIte, Nat.reduceEqDiff, hn], by simp only [get_put, n_put, ↓reduceIte, Nat.reduceEqDiff, h16], by simp only [get_put, n_put, ↓reduceIte, Nat.reduceEqDiff, h17], by simp only [get_put, n_put, ↓reduceIte, Nat.reduceEqDiff, h18'], by simp only [get_put, n_put, ↓reduceIte, Nat.reduceEqDiff, h19], by simp only [get_put, n_put, ↓reduceIte, Nat.reduceEqDiff, h20]⟩
      have d : (((X.length + j) % 4 : Nat) : Int) ≠ 0 := by unfold padB at hlt2; omega
      simp (config := { maxSteps := 1000000, implicitDefEqProofs := false }) (disch := omega) only [allW, allR, oneOf, evalAll, partsA, optA, Nat.reduceLT, Nat.reduceLeDiff, Nat.reduceEqDiff, Nat.reduceAdd, ↓reduceIte, undef, hn, h16, h17, h18', h19, h20, hbv.sees.lenA Try.underlying27, bin_rem Try.prog 3 .i64 _ _ h4, hrem, bin_neq, decide_eq_true d, build1 Try.underlying27 szU8 zU8]
      refine wstep_append_lit Try.underlying27 szU8 byU8 zU8 rfl hbv (by simp only [get_put, n_put, ↓reduceIte, Nat.reduceEqDiff]) (by decide) (by simp only [get_put, n_put, ↓reduceIte, Nat.reduceEqDiff, hn]; decide) (by simp only [get_put, n_put, ↓reduceIte, Nat.reduceEqDiff, hn]; decide) (by rfl) (by decide) rfl (by omega) (by omega) hbvF hnt ?_
      intro bs bv' t2 hbv2 hF2 hst2 hut2 hor2
      have hms : ofBytes (X ++ List.replicate j 0) ++ [.int .u8 0] = ofBytes (X ++ List.replicate (j + 1) 0) := by
        rw [List.replicate_succ', ← List.append_assoc, ofBytes_append (X ++ List.replicate j 0)]; rfl
      rw [hms, hlen, show X.length + j + 1 = (X ++ List.replicate (j + 1) 0).length by rw [List.length_append, List.length_replicate]; omega] at hbv2
      simp (config := { maxSteps := 1000000, implicitDefEqProofs := false }) (disch := omega) only [allW, allR, oneOf, evalAll, partsA, optA, Nat.reduceLT, Nat.reduceLeDiff, Nat.reduceEqDiff, Nat.reduceAdd, ↓reduceIte, undef, hn, h16, h17, h18', h19, h20]
      refine wround_next (padB X.length - (j + 1)) (by omega) ⟨j + 1, bv', rfl, by omega, hbv2, hF2, hov.turns hut2 hob, ?_, hst.trans hst2, by simp only [get_put, n_put, ↓reduceIte, Nat.reduceEqDiff, hn], by simp only [get_put, n_put, ↓reduceIte, Nat.reduceEqDiff, h16], by simp only [get_put, n_put, ↓reduceIte, Nat.reduceEqDiff, h17], by simp only [get_put, n_put, ↓reduceIte, Nat.reduceEqDiff, h18'], by simp only [get_put, n_put, ↓reduceIte, Nat.reduceEqDiff], by simp only [get_put, n_put, ↓reduceIte, Nat.reduceEqDiff, h20]⟩
      intro i hi e
      rcases hor2 with h | ⟨x, h, hx⟩
      · exact hob i hi (by rw [← h]; exact e)
      · rw [h] at e; injection e with e; have := hov.idlt i hi; omega
    clear hn h16 h17 h18' h19 h20 f
    rintro z f t9 ⟨rfl, bv9, hbv9, hbvF9, hov9, hob9, hs9, hn, h16, h17, h18', h19, h20⟩
    simp (config := { maxSteps := 1000000, implicitDefEqProofs := false }) (disch := omega) only [allW, allR, oneOf, evalAll, partsA, optA, Nat.reduceLT, Nat.reduceLeDiff, Nat.reduceEqDiff, Nat.reduceAdd, ↓reduceIte, undef, hn, h16, h17, h18', h19, h20, wrapI]
    have hbe : X ++ List.replicate (padB X.length) 0 = bodyTo L (k + 1) := by rw [hX]; rfl
    rw [hbe] at hbv9
    exact wround_next (5 - (k + 1)) (by omega) ⟨k + 1, ov4, bv9, rfl, by omega, hov9, hbv9, hoF4, hbvF9, (fun i hi e => hob9 i e hi), hs9, by simp only [get_put, n_put, ↓reduceIte, Nat.reduceEqDiff, hn], by simp only [get_put, n_put, ↓reduceIte, Nat.reduceEqDiff, h16], by simp only [get_put, n_put, ↓reduceIte, Nat.reduceEqDiff, h17], by simp only [get_put, n_put, ↓reduceIte, Nat.reduceEqDiff, h18'], by simp only [get_put, n_put, ↓reduceIte, Nat.reduceEqDiff, h19], by simp only [get_put, n_put, ↓reduceIte, Nat.reduceEqDiff]; rfl⟩
  clear hn h0 h1 h8 h10 f
  rintro z f t ⟨rfl, ov, bv, hov, hbv, hovF, hst, hn, h17, h19⟩
  have hbk := hbl 5 (by omega)
  have hol := outTo_length L 5 (by omega)
  have hnt := hst.next
  simp (config := { maxSteps := 1000000, implicitDefEqProofs := false }) (disch := omega) only [allW, allR, oneOf, evalAll, partsA, optA, Nat.reduceLT, Nat.reduceLeDiff, Nat.reduceEqDiff, Nat.reduceAdd, ↓reduceIte, undef, hn, h17, h19]
  refine wstep_append Try.underlying27 Try.underlying27 (.inl ⟨_, rfl⟩) szU8 byU8 zU8 rfl hov hbv.sees.src (by rw [ofBytes_length]; omega) (by decide) (ofBytes_ok _) (by omega) (by omega) hovF (by omega) ?_
  intro B t2 hB hBF hst2 hut2 _
  rw [← ofBytes_append, ← List.length_append, show outTo L 5 ++ bodyTo L 5 = fontB un W gl by rw [hL]; rfl] at hB
  simp (config := { maxSteps := 1000000, implicitDefEqProofs := false }) (disch := omega) only [allW, allR, wfn_ret, wfn_normal, oneOf, evalAll, partsA, optA, Nat.reduceLT, Nat.reduceLeDiff, Nat.reduceEqDiff, Nat.reduceAdd, ↓reduceIte, hn, Try.results14]
  exact ⟨.inr ⟨hgood, B, rfl, hB, fun i hi => by have := hBF i hi; omega⟩, hsti1.trans ((hst.trans hst2).weaken (by omega))⟩
end Go.Proofs.Ytpdkppimlcbhlaa
