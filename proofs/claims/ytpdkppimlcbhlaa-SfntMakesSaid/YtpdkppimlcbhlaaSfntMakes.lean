/-
  The statement SfntMakes: of any widths and codes the program makes the same font as the reference, or refuses alike; read it has them: the law returns true.
  Conditions: none.
-/
import Derived.Test.YtpdkppimlcbhlaaRows
import Derived.Test.YtpdkppimlcbhlaaStart
import Derived.Test.YtpdkppimlcbhlaaSfU
set_option linter.unusedSimpArgs false
set_option linter.unusedVariables false
set_option maxRecDepth 100000
namespace Go.Cl.Sf
theorem made_glyph {u : Nat} {W gl : List Int} (h : ¬ badMk u W gl) {i : Nat} (hi : i < gl.length) : (fontF u W gl).glyph i = gl.getD i 0 ∧ 0 ≤ gl.getD i 0 ∧ gl.getD i 0 < W.length := by
  unfold badMk at h
  have hG : noneG W.length gl = false := by cases e : noneG W.length gl with | true => exact absurd (.inr (.inr (.inr (.inr (.inr (.inr e)))))) h | false => rfl
  have hg := noneG_false hG _ (getDI_mem hi)
  refine ⟨?_, hg.1, hg.2.1⟩
  unfold Fnt.glyph
  have hl : (fontF u W gl).map.length = 256 := by simp [fontF]
  rw [hl, if_neg (by omega), Int.toNat_natCast]
  have : (fontF u W gl).map.getD i 0 = (gl.getD i 0).toNat := by
    simp only [fontF, List.getD, List.getElem?_map, List.getElem?_range (show i < 256 by omega), Option.map_some, Option.getD_some]
  rw [this]; omega
theorem made_advance {u : Nat} {W gl : List Int} (h : ¬ badMk u W gl) {i : Nat} (hi : i < gl.length) : (fontF u W gl).advance i = (1000 * W.getD (gl.getD i 0).toNat 0).tdiv u ∧ 0 ≤ W.getD (gl.getD i 0).toNat 0 ∧ W.getD (gl.getD i 0).toNat 0 ≤ 65535 := by
  obtain ⟨h1, h2, h3⟩ := made_glyph h hi
  unfold badMk at h
  have hW : wideW W = false := by cases e : wideW W with | true => exact absurd (.inr (.inr (.inr (.inr (.inl e))))) h | false => rfl
  have hw := wideW_false hW _ (getDI_mem (l := W) (i := (gl.getD i 0).toNat) (by omega))
  refine ⟨?_, hw.1, hw.2⟩
  have hu : (fontF u W gl).units = u := rfl
  unfold Fnt.advance
  rw [h1, hu, if_neg (by omega)]
  congr 2
  unfold Fnt.width
  have hg : (fontF u W gl).glyphs = W.length := rfl
  have hl : (fontF u W gl).widths.length = W.length := by simp [fontF]
  rw [hg, hl, if_neg (by omega), Nat.min_eq_left (by omega)]
  have : (fontF u W gl).widths.getD (gl.getD i 0).toNat 0 = (W.getD (gl.getD i 0).toNat 0).toNat := by
    have hj : (gl.getD i 0).toNat < W.length := by omega
    generalize (gl.getD i 0).toNat = j at hj ⊢
    simp only [fontF, List.getD, List.getElem?_map, List.getElem?_range (show j < W.length by omega), Option.map_some, Option.getD_some]
  rw [this]; omega
end Go.Cl.Sf
namespace Go.Proofs.Ytpdkppimlcbhlaa.sfntMakes
open Go.ChangeShapes Go.WideShapes Go.ChangeAt Go.RowKit Go.Cl Go.Cl.Sf
set_option maxHeartbeats 8000000 in
theorem law (s : ASt) (u : Int) (wv : Value) (W : List Int) (gv : Value) (gl : List Int) (hw : WF s) (hk : s.next = 2) (_ : (Lit.int .i64 u).wf = true) (hW : Sees s 1 wv W.length (W.map (.int .i64))) (_ : ∀ n ∈ W, (Lit.int .i64 n).wf = true) (hG : Sees s 1 gv gl.length (gl.map (.int .i64))) (_ : ∀ n ∈ gl, (Lit.int .i64 n).wf = true) :
    Runs Try.prog libN 5 [.int .i64 u, wv, gv] s fun v _ => v = .bool true := by
  refine Runs.enter 105 Try.func5 rfl rfl rfl rfl ?_
  intro f hn hf
  have h0 : f.get 0 = .int .i64 u := hf 0
  have h1 : f.get 1 = wv := hf 1
  have h2 : f.get 2 = gv := hf 2
  clear hf
  simp (config := { maxSteps := 1000000, implicitDefEqProofs := false }) (disch := omega) only [allW, allR, oneOf, evalAll, partsA, optA, Nat.reduceLT, Nat.reduceLeDiff, Nat.reduceEqDiff, Nat.reduceAdd, ↓reduceIte, hn, h0, h1, h2]
  refine (awake_any s).mono ?_
  rintro _ s1 ⟨rfl, hst1⟩
  have hW1 : Sees s1 1 wv W.length (intsZ W) := hW.keeps hst1
  have hG1 : Sees s1 1 gv gl.length (intsZ gl) := hG.keeps hst1
  by_cases c1 : (1100 : Int) < (W.length : Int)
  · simp (config := { maxSteps := 1000000, implicitDefEqProofs := false }) (disch := omega) only [allW, allR, wfn_ret, wfn_normal, oneOf, evalAll, partsA, optA, Nat.reduceLT, Nat.reduceLeDiff, Nat.reduceEqDiff, Nat.reduceAdd, ↓reduceIte, undef, hn, h0, h1, h2, hW1.lenA Try.underlying30, eq_true c1, Try.results5]
  by_cases c2 : (300 : Int) < (gl.length : Int)
  · simp (config := { maxSteps := 1000000, implicitDefEqProofs := false }) (disch := omega) only [allW, allR, wfn_ret, wfn_normal, oneOf, evalAll, partsA, optA, Nat.reduceLT, Nat.reduceLeDiff, Nat.reduceEqDiff, Nat.reduceAdd, ↓reduceIte, undef, hn, h0, h1, h2, hW1.lenA Try.underlying30, hG1.lenA Try.underlying30, eq_false c1, eq_true c2, Try.results5]
  simp (config := { maxSteps := 1000000, implicitDefEqProofs := false }) (disch := omega) only [allW, allR, oneOf, evalAll, partsA, optA, Nat.reduceLT, Nat.reduceLeDiff, Nat.reduceEqDiff, Nat.reduceAdd, ↓reduceIte, undef, hn, h0, h1, h2, hW1.lenA Try.underlying30, hG1.lenA Try.underlying30, eq_false c1, eq_false c2]
  refine (smake_any s1 u wv gv W gl hW1 hG1 (by omega) (by omega)).mono ?_
  rintro v s2 ⟨hv, hst2⟩
  have hW2 := hW1.keeps hst2
  have hG2 := hG1.keeps hst2
  have hz1 : ¬ (1 : Int) ≠ 1 := by decide
  have hz0 : ¬ (0 : Int) ≠ 0 := by decide
  have hz10 : (1 : Int) ≠ 0 := by decide
  rcases hv with ⟨hbad, rfl⟩ | ⟨hgood, B, rfl, hB, hBF⟩
  · simp (config := { maxSteps := 1000000, implicitDefEqProofs := false }) (disch := omega) only [allW, allR, oneOf, evalAll, partsA, optA, Nat.reduceLT, Nat.reduceLeDiff, Nat.reduceEqDiff, Nat.reduceAdd, ↓reduceIte, undef, hn, h0, h1, h2, extT0, extT1]
    refine (rmakefont_any s2 u wv gv W gl hW2 hG2 (by omega) (by omega)).mono ?_
    rintro v2 s3 ⟨(⟨_, rfl⟩ | ⟨hg, _⟩), _⟩
    rotate_left
    · exact absurd hbad hg
    simp (config := { maxSteps := 1000000, implicitDefEqProofs := false }) (disch := omega) only [allW, allR, oneOf, evalAll, partsA, optA, Nat.reduceLT, Nat.reduceLeDiff, Nat.reduceEqDiff, Nat.reduceAdd, ↓reduceIte, undef, hn, h0, h1, h2, extT0, extT1, bin_neq, decide_eq_false hz1]
    refine (same_any (lib := libN) rfl s3 (.slice none 0 0) (.slice none 0 0) [] [] .nil .nil (by decide) (by decide)).mono ?_
    rintro _ s4 ⟨rfl, hs⟩; subst hs
    simp (config := { maxSteps := 1000000, implicitDefEqProofs := false }) (disch := omega) only [allW, allR, wfn_ret, wfn_normal, oneOf, evalAll, partsA, optA, Nat.reduceLT, Nat.reduceLeDiff, Nat.reduceEqDiff, Nat.reduceAdd, ↓reduceIte, undef, hn, h0, h1, h2, decide_true, Bool.not_true, bin_neq, decide_eq_true hz10, Try.results5]
  simp (config := { maxSteps := 1000000, implicitDefEqProofs := false }) (disch := omega) only [allW, allR, oneOf, evalAll, partsA, optA, Nat.reduceLT, Nat.reduceLeDiff, Nat.reduceEqDiff, Nat.reduceAdd, ↓reduceIte, undef, hn, h0, h1, h2, extT0, extT1]
  refine (rmakefont_any s2 u wv gv W gl hW2 hG2 (by omega) (by omega)).mono ?_
  rintro v2 s3 ⟨(⟨hb, _⟩ | ⟨_, C, rfl, hC, hCF⟩), hst3⟩
  · exact absurd hb hgood
  have hg' := hgood
  unfold badMk at hg'
  obtain ⟨un, rfl⟩ : ∃ n : Nat, u = n := ⟨u.toNat, by omega⟩
  rw [Int.toNat_natCast] at hB hC
  have hfl : (fontB un W gl).length ≤ 100000 := by
    rw [fontB, List.length_append, outTo_length _ 5 (by omega)]
    have := body_le (u := un) (W := W) (gl := gl) (by omega) 5 (by omega)
    omega
  have hB3 := hB.keeps hst3
  simp (config := { maxSteps := 1000000, implicitDefEqProofs := false }) (disch := omega) only [allW, allR, oneOf, evalAll, partsA, optA, Nat.reduceLT, Nat.reduceLeDiff, Nat.reduceEqDiff, Nat.reduceAdd, ↓reduceIte, undef, hn, h0, h1, h2, extT0, extT1, bin_neq, decide_eq_false hz0]
  refine (same_any (lib := libN) rfl s3 B C _ _ hB3.sees hC.sees (by omega) (by omega)).mono ?_
  rintro _ s4 ⟨rfl, hs⟩; subst hs
  have hF0 := fontX_made hgood [] 8
  rw [List.append_nil] at hF0
  have hF := fontX_ok hF0
  simp (config := { maxSteps := 1000000, implicitDefEqProofs := false }) (disch := omega) only [allW, allR, oneOf, evalAll, partsA, optA, Nat.reduceLT, Nat.reduceLeDiff, Nat.reduceEqDiff, Nat.reduceAdd, ↓reduceIte, undef, hn, h0, h1, h2, extT0, extT1, decide_true, Bool.not_true, bin_neq, decide_eq_false hz0]
  refine (read_any s4 B _ hB3.sees (by omega)).mono ?_
  rintro v3 s5 ⟨hv3, hst5⟩
  rw [hF0] at hv3
  obtain ⟨q, rfl, hq⟩ := hv3
  have hst35 := hst3.trans (hst5.weaken hst3.next)
  have hW5 := hW2.keeps hst35
  have hG5 := hG2.keeps hst35
  have hqq := hq
  obtain ⟨_, w, g, hqt, hqw, hqg, _⟩ := hqq
  have a0 : loadA Try.prog s5 3 (.pointer (some ⟨q, 0, some 5⟩)) = some (.int .i64 (un : Nat)) := hqt.load (P := Try.prog) agInt (off := 0) (c := 5) rfl (by simp)
  have a1 : loadA Try.prog s5 3 (.pointer (some ⟨q, 1, some 5⟩)) = some (.int .i64 (W.length : Nat)) := hqt.load (P := Try.prog) agInt (off := 1) (c := 5) rfl (by simp)
  have hzn : ∀ x : Int, ¬ x ≠ x := fun x h => h rfl
  simp (config := { maxSteps := 1000000, implicitDefEqProofs := false }) (disch := omega) only [allW, allR, oneOf, evalAll, partsA, optA, Nat.reduceLT, Nat.reduceLeDiff, Nat.reduceEqDiff, Nat.reduceAdd, ↓reduceIte, undef, hn, h0, h1, h2, extT0, extT1, bin_neq, decide_eq_false (hzn _), ff0, mf0, mf1, Nat.add_zero, Nat.zero_add, a0, a1, hW5.lenA Try.underlying30]
  refine Comes.loopAt (fun z f t => ∃ k : Nat, z = gl.length - k ∧ k ≤ gl.length ∧ Stay s5.next s5 t ∧ f.n = 105 ∧ f.get 0 = .int .i64 (un : Nat) ∧ f.get 1 = wv ∧ f.get 2 = gv ∧ f.get 11 = fptr q ∧ f.get 13 = .int .i64 (k : Nat))
    ⟨0, rfl, by omega, Stay.refl _ _, by simp only [get_put, n_put, ↓reduceIte, Nat.reduceEqDiff, hn], by simp only [get_put, n_put, ↓reduceIte, Nat.reduceEqDiff, h0], by simp only [get_put, n_put, ↓reduceIte, Nat.reduceEqDiff, h1], by simp only [get_put, n_put, ↓reduceIte, Nat.reduceEqDiff, h2], by simp only [get_put, n_put, ↓reduceIte, Nat.reduceEqDiff], by simp only [get_put, n_put, ↓reduceIte, Nat.reduceEqDiff]; rfl⟩ ?_
  clear hn h0 h1 h2 f
  rintro z f t ⟨k, rfl, hkl, hst, hn, h0, h1, h2, h11, h13⟩
  have hGt := hG5.keeps hst
  have hWt := hW5.keeps hst
  have hqt := hq.keeps hst
  by_cases hlt : k < gl.length
  rotate_left
  · obtain rfl : k = gl.length := by omega
    have d : ¬ (gl.length : Int) < (gl.length : Int) := by omega
    simp (config := { maxSteps := 1000000, implicitDefEqProofs := false }) (disch := omega) only [allW, allR, wfn_ret, wfn_normal, oneOf, evalAll, partsA, optA, Nat.reduceLT, Nat.reduceLeDiff, Nat.reduceEqDiff, Nat.reduceAdd, ↓reduceIte, undef, hn, h0, h1, h2, h11, h13, hGt.lenA Try.underlying30, eq_false d, Try.results5]
  have d : (k : Int) < (gl.length : Int) := by omega
  obtain ⟨e1, e2, e3⟩ := made_glyph hgood hlt
  obtain ⟨e4, e5, e6⟩ := made_advance hgood hlt
  obtain ⟨gn, hgn⟩ : ∃ n : Nat, gl.getD k 0 = n := ⟨(gl.getD k 0).toNat, by omega⟩
  rw [hgn] at e1 e2 e3
  rw [hgn, Int.toNat_natCast] at e4 e5 e6
  have ixg := hGt.indexAddr (P := Try.prog) (k := .i64) (x := (k : Int)) Try.underlying30 szInt (by omega) (by omega)
  rw [Int.toNat_natCast] at ixg
  have ixw := hWt.indexAddr (P := Try.prog) (k := .i64) (x := (gn : Int)) Try.underlying30 szInt (by omega) (by omega)
  rw [Int.toNat_natCast] at ixw
  have ldg : ∀ t', Stay t.next t t' → loadA Try.prog t' 3 (elemPtr 1 gv k) = some (.int .i64 (gn : Nat)) := fun t' h => by
    rw [(hGt.keeps h).load1 (P := Try.prog) agInt hlt, intsZ_getD hlt, hgn]
  have ldw : ∀ t', Stay t.next t t' → loadA Try.prog t' 3 (elemPtr 1 wv gn) = some (.int .i64 (W.getD gn 0)) := fun t' h => by
    rw [(hWt.keeps h).load1 (P := Try.prog) agInt (k := gn) (by omega), intsZ_getD (by omega)]
  simp (config := { maxSteps := 1000000, implicitDefEqProofs := false }) (disch := omega) only [allW, allR, oneOf, evalAll, partsA, optA, Nat.reduceLT, Nat.reduceLeDiff, Nat.reduceEqDiff, Nat.reduceAdd, ↓reduceIte, undef, hn, h0, h1, h2, h11, h13, hGt.lenA Try.underlying30, eq_true d]
  refine LB.Drawn.looseK (fun j => decide (j < t.next)) (fun j h => of_decide_eq_true h) 2 0 (by kernel_rfl) (by kernel_rfl) ?_
  rw [spare_zero]
  have hlg : LA.lowV (fun j => decide (j < t.next)) (some (elemPtr 1 gv k)) = true := LA.lowV_elemOld hGt (fun i hi => decide_eq_true hi) hlt
  have hlw : LA.lowV (fun j => decide (j < t.next)) (some (elemPtr 1 wv gn)) = true := LA.lowV_elemOld hWt (fun i hi => decide_eq_true hi) (by omega)
  simp (config := { maxSteps := 1000000, implicitDefEqProofs := false }) (disch := omega) only [allW, allR, allL, allB, Nat.sub_self, Nat.add_one_sub_one, Nat.reduceSub, oneOf, evalAll, partsA, optA, Nat.reduceLT, Nat.reduceLeDiff, Nat.reduceEqDiff, Nat.reduceAdd, ↓reduceIte, undef, hn, h0, h1, h2, h11, h13, valEq_pointer, valEq_int]
  refine (glyph_any _ t q _ (k : Int) hqt hF).mono ?_
  rintro _ t1 ⟨rfl, hs⟩; subst hs
  rw [e1]
  refine ⟨fun _ => LA.StayA.refl _ _, ?_⟩
  simp (config := { maxSteps := 1000000, implicitDefEqProofs := false }) (disch := omega) only [allW, allR, allL, allB, Nat.sub_self, Nat.add_one_sub_one, Nat.reduceSub, oneOf, evalAll, partsA, optA, Nat.reduceLT, Nat.reduceLeDiff, Nat.reduceEqDiff, Nat.reduceAdd, ↓reduceIte, undef, hn, h0, h1, h2, h11, h13, hGt.self, hWt.self, ixg, ldg t1 (Stay.refl _ _), hlg, bin_neq, decide_eq_false (hzn _), valEq_pointer, valEq_int, valEq_bool, valEq_elemPtr]
  refine (advance_any _ t1 q _ (k : Int) hqt hF).mono ?_
  rintro _ t2 ⟨rfl, hst2'⟩
  rw [e4]
  refine ⟨fun _ => LA.Stay.toA (fun i hi => of_decide_eq_true hi) hst2', ?_⟩
  have hne : ((un : Nat) : Int) ≠ 0 := by omega
  have htd := tdiv_small (a := 1000 * W.getD gn 0) (b := (un : Int)) (by omega) (by omega)
  simp (config := { maxSteps := 1000000, implicitDefEqProofs := false }) (disch := omega) only [allW, allR, allL, allB, Nat.sub_self, Nat.add_one_sub_one, Nat.reduceSub, oneOf, evalAll, partsA, optA, Nat.reduceLT, Nat.reduceLeDiff, Nat.reduceEqDiff, Nat.reduceAdd, ↓reduceIte, undef, hn, h0, h1, h2, h11, h13, hGt.self, hWt.self, ixg, ldg t2 hst2', hlg, ixw, ldw t2 hst2', hlw, bin_quo Try.prog 3 .i64 _ _ hne, bin_neq, decide_eq_false (hzn _), wrapI, valEq_pointer, valEq_int, valEq_bool, valEq_elemPtr]
  exact wround_next (gl.length - (k + 1)) (by omega) ⟨k + 1, rfl, by omega, hst.trans (hst2'.weaken hst.next), by simp only [get_put, n_put, ↓reduceIte, Nat.reduceEqDiff, hn], by simp only [get_put, n_put, ↓reduceIte, Nat.reduceEqDiff, h0], by simp only [get_put, n_put, ↓reduceIte, Nat.reduceEqDiff, h1], by simp only [get_put, n_put, ↓reduceIte, Nat.reduceEqDiff, h2], by simp only [get_put, n_put, ↓reduceIte, Nat.reduceEqDiff, h11], by simp only [get_put, n_put, ↓reduceIte, Nat.reduceEqDiff]; rfl⟩
theorem own : ownKnob Try.prog.godebug = none := by kernel_rfl
theorem sound : progOk Try.prog libN = true := by kernel_rfl
theorem laid : laidOutB Try.prog = true := by kernel_rfl
theorem read : ∀ t ∈ Try.f5.params.toList, Try.prog.readableRec t = true ∧ t < Try.prog.types.size := by
  have : (Try.f5.params.toList.all fun t => Try.prog.readableRec t && decide (t < Try.prog.types.size)) = true := by kernel_rfl
  intro t ht
  simpa using List.all_eq_true.mp this t ht
theorem cellsi64 : Try.prog.cellsOf 3 = 1 := by kernel_rfl
set_option maxRecDepth 100000 in
theorem lifted (os : Os) (started : os.Started) (H : Type) (enc : TypeId × Value → H) :
    ReturnsInHanded {} Try.checked os 5 .any (Rows.sfntMakesSpec.pre6 enc Try.prog Try.f5 Rows.sfntMakesRow.domain false) (Rows.sfntMakesSpec.post enc Try.prog Try.f5 false true false false) := by
  refine returnsInHanded_of_change (C := Try.checked) own started (by kernel_rfl) Try.func5
    (ChangeSpec.witness6 (enc := enc) (C := Try.checked) false ⟨#[], #[.int .i64 0, .slice none 0 0, .slice none 0 0], []⟩ 8 (by kernel_rfl) (by kernel_rfl) (by kernel_rfl) (by kernel_rfl)) ?_
  intro W base args ds gs before hval hW hcnd _
  obtain ⟨p, q, hA, _, _, _, _⟩ := id hW
  have hA : DataW.TrodAll enc Try.prog W 0 (fun _ => true) true Try.f5.params.toList args.toList ds p := hA
  rw [Try.params5] at hA
  obtain ⟨v0, v1, v2, d0, d1, d2, p0, p1, p2, rfl, rfl, rfl, h0, h1, h2⟩ := trodAll_three hA
  have hv0 : Value.okWide Try.prog W .any base 3 v0 := hval 0 _ _ (by rw [Try.params5]; rfl) rfl
  have hv1 : Value.okWide Try.prog W .any base 30 v1 := hval 1 _ _ (by rw [Try.params5]; rfl) rfl
  have hv2 : Value.okWide Try.prog W .any base 30 v2 := hval 2 _ _ (by rw [Try.params5]; rfl) rfl
  obtain ⟨n0, rfl, _, _, hz0⟩ := open_int Try.underlying3 hv0 h0
  obtain ⟨S1, x1, l1, hj1, hx1, hz1⟩ := (Begun.start W).ints Try.underlying30 Try.underlying3 cellsi64 hv1 h1
  obtain ⟨S2, x2, l2, hj2, hx2, hz2⟩ := hj1.begun.ints Try.underlying30 Try.underlying3 cellsi64 hv2 h2
  have hcalls := Runs.callsL libFr (libOk _) sound rfl hj2.begun (law S2.s n0 x1 l1 x2 l2 hj2.begun.sr.wf (by rw [hj2.next]; rw [hj1.next]; rfl) hz0 (hx1.keeps hj2.stay) hz1 hx2 hz2) (args' := #[.int .i64 n0, v1, v2]) (VRL.cons (.int _ _) (VRL.cons (hj1.vr.mono hj2.ext) (VRL.cons hj2.vr VRL.nil)))
  refine hcalls.mono fun e W' ⟨he, hb⟩ => ?_
  subst he
  exact law_post laid read rfl Try.underlying4 rfl (fun L hL => by match L, hL with | [a0, a1, a2], _ => rfl) hW hb

theorem over : Rows.sfntMakesRow.holds Try.pinned (OpenSpec.ofChange Rows.sfntMakesSpec) :=
  OpenClaim.holds_of_wide 5 Try.f5 rfl rfl rfl rfl rfl rfl rfl ⟨rfl, rfl, rfl, rfl, rfl⟩ rfl rfl rfl rfl rfl (by kernel_rfl) Try.func5 (by kernel_rfl)
    (of_decide_eq_true (by kernel_rfl)) (by unfold Func.isWrapper; first | (rw [if_pos (by decide +kernel)]; kernel_rfl) | (rw [if_neg (by decide +kernel)]; exact ⟨rfl, rfl⟩))
    (fun os started H enc _ => lifted os started H enc)

/-- THE STATEMENT. -/
theorem proved : Rows.SfntMakesSaid := over
#print axioms proved
end Go.Proofs.Ytpdkppimlcbhlaa.sfntMakes
