/-
  The statement SfntCuts: a font that was made, cut by more than what fills its last table up, is none; with other bytes behind it it is the same: the law returns true.
  Conditions: none.
-/
import Derived.Test.YtpdkppimlcbhlaaRows
import Derived.Test.YtpdkppimlcbhlaaStart
import Derived.Test.YtpdkppimlcbhlaaSfT
import Derived.Test.YtpdkppimlcbhlaaCopy
set_option linter.unusedSimpArgs false
set_option linter.unusedVariables false
set_option maxRecDepth 100000
namespace Go.Proofs.Ytpdkppimlcbhlaa.sfntCuts
open Go.ChangeShapes Go.WideShapes Go.ChangeAt Go.RowKit Go.Cl Go.Cl.Sf
set_option maxHeartbeats 8000000 in
theorem law (s : ASt) (x0 : Value) (l0 : List Int) (n1 : Int) (x2 : Value) (l2 : List UInt8) (hw : WF s) (hk : s.next = 2) (hx0 : Sees s 1 x0 l0.length (l0.map (.int .u16))) (hz0 : ∀ n ∈ l0, (Lit.int .u16 n).wf = true) (hz1 : (Lit.int .u16 n1).wf = true) (hx2 : Sees s 1 x2 l2.length (ofBytes l2)) :
    Runs Try.prog libN 6 [x0, .int .u16 n1, x2] s fun v _ => v = .bool true := by
  refine Runs.enter 95 Try.func6 rfl rfl rfl rfl ?_
  intro f hn hf
  have h0 : f.get 0 = x0 := hf 0
  have h1 : f.get 1 = .int .u16 n1 := hf 1
  have h2 : f.get 2 = x2 := hf 2
  clear hf
  have hb1 := bounds_u16 hz1
  simp (config := { maxSteps := 1000000, implicitDefEqProofs := false }) (disch := omega) only [allW, allR, oneOf, evalAll, partsA, optA, Nat.reduceLT, Nat.reduceLeDiff, Nat.reduceEqDiff, Nat.reduceAdd, ↓reduceIte, hn, h0, h1, h2]
  refine (awake_any s).mono ?_
  rintro _ s1 ⟨rfl, hst1⟩
  have hx01 := hx0.keeps hst1
  have hx21 := hx2.keeps hst1
  by_cases c1 : (l0.length : Int) = 0
  · simp (config := { maxSteps := 1000000, implicitDefEqProofs := false }) (disch := omega) only [allW, allR, wfn_ret, wfn_normal, oneOf, evalAll, partsA, optA, Nat.reduceLT, Nat.reduceLeDiff, Nat.reduceEqDiff, Nat.reduceAdd, ↓reduceIte, undef, hn, h0, h1, h2, hx01.lenA Try.underlying45, bin_eql, decide_eq_true c1, Try.results6]
  by_cases c2 : (50 : Int) < (l0.length : Int)
  · simp (config := { maxSteps := 1000000, implicitDefEqProofs := false }) (disch := omega) only [allW, allR, wfn_ret, wfn_normal, oneOf, evalAll, partsA, optA, Nat.reduceLT, Nat.reduceLeDiff, Nat.reduceEqDiff, Nat.reduceAdd, ↓reduceIte, undef, hn, h0, h1, h2, hx01.lenA Try.underlying45, bin_eql, decide_eq_false c1, eq_true c2, Try.results6]
  by_cases c3 : (50 : Int) < (l2.length : Int)
  · simp (config := { maxSteps := 1000000, implicitDefEqProofs := false }) (disch := omega) only [allW, allR, wfn_ret, wfn_normal, oneOf, evalAll, partsA, optA, Nat.reduceLT, Nat.reduceLeDiff, Nat.reduceEqDiff, Nat.reduceAdd, ↓reduceIte, undef, hn, h0, h1, h2, hx01.lenA Try.underlying45, bin_eql, decide_eq_false c1, eq_false c2, hx21.lenA Try.underlying27, eq_true c3, Try.results6]
  simp (config := { maxSteps := 1000000, implicitDefEqProofs := false }) (disch := omega) only [allW, allR, oneOf, evalAll, partsA, optA, Nat.reduceLT, Nat.reduceLeDiff, Nat.reduceEqDiff, Nat.reduceAdd, ↓reduceIte, undef, hn, h0, h1, h2, hx01.lenA Try.underlying45, bin_eql, decide_eq_false c1, eq_false c2, hx21.lenA Try.underlying27, eq_false c3]
  refine Comes.loopOut (fun z f t => ∃ (k : Nat) (wv : Value), z = l0.length - k ∧ k ≤ l0.length ∧ Own t 1 wv k (intsZ (l0.take k)) ∧ Fresh s1.next wv ∧ Stay s1.next s1 t ∧ f.n = 95 ∧ f.get 0 = x0 ∧ f.get 1 = .int .u16 n1 ∧ f.get 2 = x2 ∧ f.get 7 = wv ∧ f.get 8 = .int .i64 (k : Nat))
    (fun z f t => z = .exit 0 ∧ ∃ wv : Value, Own t 1 wv l0.length (intsZ l0) ∧ Stay s1.next s1 t ∧ f.n = 95 ∧ f.get 1 = .int .u16 n1 ∧ f.get 2 = x2 ∧ f.get 7 = wv)
    ⟨0, .slice none 0 0, rfl, by omega, .nil, Fresh.nil _, Stay.refl _ _, by simp only [get_put, n_put, ↓reduceIte, Nat.reduceEqDiff, hn], by simp only [get_put, n_put, ↓reduceIte, Nat.reduceEqDiff, h0], by simp only [get_put, n_put, ↓reduceIte, Nat.reduceEqDiff, h1], by simp only [get_put, n_put, ↓reduceIte, Nat.reduceEqDiff, h2], by simp only [get_put, n_put, ↓reduceIte, Nat.reduceEqDiff], by simp only [get_put, n_put, ↓reduceIte, Nat.reduceEqDiff]; rfl⟩ ?_ ?_
  · clear hn h0 h1 h2 f
    rintro Q hQ z f t ⟨k, wv, rfl, hkl, hwv, hwvF, hst, hn, h0, h1, h2, h7, h8⟩
    have hxt := hx01.keeps hst
    by_cases hlt : k < l0.length
    rotate_left
    · obtain rfl : k = l0.length := by omega
      have d : ¬ (l0.length : Int) < (l0.length : Int) := by omega
      rw [List.take_length] at hwv
      simp (config := { maxSteps := 1000000, implicitDefEqProofs := false }) (disch := omega) only [allW, allR, oneOf, evalAll, partsA, optA, Nat.reduceLT, Nat.reduceLeDiff, Nat.reduceEqDiff, Nat.reduceAdd, ↓reduceIte, undef, hn, h0, h1, h2, h7, h8, hxt.lenA Try.underlying45, eq_false d]
      exact hQ _ _ _ ⟨rfl, wv, hwv, hst, by simp only [get_put, n_put, ↓reduceIte, Nat.reduceEqDiff, hn], by simp only [get_put, n_put, ↓reduceIte, Nat.reduceEqDiff, h1], by simp only [get_put, n_put, ↓reduceIte, Nat.reduceEqDiff, h2], by simp only [get_put, n_put, ↓reduceIte, Nat.reduceEqDiff, h7]⟩
    have d : (k : Int) < (l0.length : Int) := by omega
    have szU16 : sizeB Try.prog 46 = some 1 := by kernel_rfl
    have agU16 : isAggB Try.prog 46 = some false := by kernel_rfl
    have hix := hxt.indexAddr (P := Try.prog) (k := .i64) (x := (k : Int)) Try.underlying45 szU16 (by omega) (by omega)
    rw [Int.toNat_natCast] at hix
    have hld := hxt.load1 (P := Try.prog) agU16 hlt
    rw [show (l0.map (.int .u16)).getD k undef = .int .u16 (l0.getD k 0) by simp [List.getD, List.getElem?_map, List.getElem?_eq_getElem hlt]] at hld
    have hb := bounds_u16 (hz0 _ (getDI_mem hlt))
    have htk : intsZ (l0.take k) ++ [.int .i64 (l0.getD k 0)] = intsZ (l0.take (k + 1)) := by
      rw [List.take_add_one, List.getElem?_eq_getElem hlt]
      show _ = intsZ (l0.take k ++ [l0[k]])
      unfold intsZ
      rw [List.map_append]
      simp only [List.map_cons, List.map_nil, List.getD, List.getElem?_eq_getElem hlt, Option.getD_some]
    simp (config := { maxSteps := 1000000, implicitDefEqProofs := false }) (disch := omega) only [allW, allR, oneOf, evalAll, partsA, optA, Nat.reduceLT, Nat.reduceLeDiff, Nat.reduceEqDiff, Nat.reduceAdd, ↓reduceIte, undef, hn, h0, h1, h2, h7, h8, hxt.lenA Try.underlying45, eq_true d, hix, hld, conv_int Try.underlying46 Try.underlying3, wrapI, build1 Try.underlying30 szInt zInt]
    refine wstep_append_lit Try.underlying30 szInt byInt zInt rfl hwv (by simp only [get_put, n_put, ↓reduceIte, Nat.reduceEqDiff]) (by decide) (by simp only [get_put, n_put, ↓reduceIte, Nat.reduceEqDiff, hn]; decide) (by simp only [get_put, n_put, ↓reduceIte, Nat.reduceEqDiff, hn]; decide) (by rfl) (by decide) rfl (by omega) (by omega) hwvF hst.next ?_
    intro bs wv' t2 hwv2 hF2 hst2 _ _
    rw [htk] at hwv2
    simp (config := { maxSteps := 1000000, implicitDefEqProofs := false }) (disch := omega) only [allW, allR, oneOf, evalAll, partsA, optA, Nat.reduceLT, Nat.reduceLeDiff, Nat.reduceEqDiff, Nat.reduceAdd, ↓reduceIte, undef, hn, h0, h1, h2, h7, h8, wrapI]
    exact wround_next (l0.length - (k + 1)) (by omega) ⟨k + 1, wv', rfl, by omega, hwv2, hF2, hst.trans hst2, by simp only [get_put, n_put, ↓reduceIte, Nat.reduceEqDiff, hn], by simp only [get_put, n_put, ↓reduceIte, Nat.reduceEqDiff, h0], by simp only [get_put, n_put, ↓reduceIte, Nat.reduceEqDiff, h1], by simp only [get_put, n_put, ↓reduceIte, Nat.reduceEqDiff, h2], by simp only [get_put, n_put, ↓reduceIte, Nat.reduceEqDiff], by simp only [get_put, n_put, ↓reduceIte, Nat.reduceEqDiff]; rfl⟩
  clear hn h0 h1 h2 f
  rintro z f t ⟨rfl, wv, hwv, hst, hn, h1, h2, h7⟩
  have hx2t := hx21.keeps hst
  simp (config := { maxSteps := 1000000, implicitDefEqProofs := false }) (disch := omega) only [allW, allR, oneOf, evalAll, partsA, optA, Nat.reduceLT, Nat.reduceLeDiff, Nat.reduceEqDiff, Nat.reduceAdd, ↓reduceIte, hn, h1, h2, h7, build1 Try.underlying30 szInt zInt]
  refine wstep_newSlice (by rfl) ?_
  intro gv t1 hgv hgvF hst1
  simp (config := { maxSteps := 1000000, implicitDefEqProofs := false }) (disch := omega) only [allW, allR, oneOf, evalAll, partsA, optA, Nat.reduceLT, Nat.reduceLeDiff, Nat.reduceEqDiff, Nat.reduceAdd, ↓reduceIte, hn, h1, h2, h7]
  refine (smake_any t1 1000 wv gv l0 [0] (hwv.keeps hst1).sees hgv.sees (by omega) (by decide)).mono ?_
  have hwr : ∀ w ∈ l0, 0 ≤ w ∧ w ≤ 65535 := fun w hw => bounds_u16 (hz0 w hw)
  have hgood : ¬ badMk 1000 l0 [0] := by
    unfold badMk
    have e1 : wideW l0 = false := by
      unfold wideW
      rw [List.any_eq_false]
      intro w hw
      have := hwr w hw
      rw [Bool.or_eq_true, decide_eq_true_eq, decide_eq_true_eq]; omega
    have e2 : noneG l0.length [0] = false := by
      unfold noneG
      rw [List.any_eq_false]
      intro g hg
      rw [List.mem_singleton.mp hg, Bool.or_eq_true, decide_eq_true_eq, decide_eq_true_eq]; omega
    rw [e1, e2]
    simp only [List.length_singleton, Bool.false_eq_true, false_or, or_false]; omega
  rintro v t2 ⟨(⟨h, _⟩ | ⟨_, B, rfl, hB, hBF⟩), hst2⟩
  · exact absurd h hgood
  rw [show Int.toNat 1000 = 1000 from rfl] at hB
  have hx22 := (hx2t.keeps hst1).keeps hst2
  obtain ⟨fb, hfb⟩ : ∃ b, b = fontB 1000 l0 [0] := ⟨_, rfl⟩
  rw [← hfb] at hB
  have hfl : fb.length ≤ 100000 := by
    rw [hfb, fontB, List.length_append, outTo_length _ 5 (by omega)]
    have := body_le (u := 1000) (W := l0) (gl := [0]) (by omega) 5 (by omega)
    omega
  have hfl2 : 92 ≤ fb.length := by
    rw [hfb, fontB, List.length_append, outTo_length _ 5 (by omega)]
    omega
  obtain ⟨m, hm⟩ : ∃ m : Nat, (((fb.length : Int) - 2) * n1).tdiv 65536 = m ∧ m + 2 < fb.length := by
    have hp : 0 ≤ ((fb.length : Int) - 2) * n1 := Int.mul_nonneg (by omega) hb1.1
    have hle : ((fb.length : Int) - 2) * n1 ≤ ((fb.length : Int) - 2) * 65535 := Int.mul_le_mul_of_nonneg_left hb1.2 (by omega)
    rw [Int.tdiv_eq_ediv_of_nonneg hp]
    refine ⟨(((fb.length : Int) - 2) * n1 / 65536).toNat, ?_, ?_⟩
    · have : 0 ≤ ((fb.length : Int) - 2) * n1 / 65536 := Int.ediv_nonneg hp (by omega)
      omega
    · generalize ((fb.length : Int) - 2) * n1 = P at hp hle
      omega
  have hpb : -9223372036854775808 ≤ ((fb.length : Int) - 2) * n1 ∧ ((fb.length : Int) - 2) * n1 ≤ 9223372036854775807 := by
    have hp : 0 ≤ ((fb.length : Int) - 2) * n1 := Int.mul_nonneg (by omega) hb1.1
    have hle : ((fb.length : Int) - 2) * n1 ≤ ((fb.length : Int) - 2) * 65535 := Int.mul_le_mul_of_nonneg_left hb1.2 (by omega)
    omega
  have hsl := hB.sees.sliceHigh (P := Try.prog) (k := .i64) (y := (m : Int)) Try.underlying27 szU8 (by omega) (by omega)
  rw [Int.toNat_natCast] at hsl
  have hcut := hB.sees.cutB (lo := 0) (hi := m) (by omega) (by omega)
  rw [List.drop_zero, Nat.sub_zero] at hcut
  have d0 : ¬ (0 : Int) ≠ 0 := by decide
  simp (config := { maxSteps := 1000000, implicitDefEqProofs := false }) (disch := omega) only [allW, allR, oneOf, evalAll, partsA, optA, Nat.reduceLT, Nat.reduceLeDiff, Nat.reduceEqDiff, Nat.reduceAdd, ↓reduceIte, undef, hn, h1, h2, h7, extT0, extT1, bin_neq, decide_eq_false d0, hB.sees.lenA Try.underlying27, conv_int Try.underlying46 Try.underlying3, wrapI, bin_quo, hm.1, hpb, hsl]
  refine (read_any t2 _ (fb.take m) hcut (by rw [List.length_take]; omega)).mono ?_
  rintro v t3 ⟨hv, hst3⟩
  obtain ⟨e, hce, hes⟩ := fontX_cut hgood (m := m) (by rw [← hfb]; exact hm.2) 8
  rw [← hfb] at hce
  rw [hce] at hv
  rw [show v = _ from hv]
  have hB3 := hB.keeps hst3
  simp (config := { maxSteps := 1000000, implicitDefEqProofs := false }) (disch := omega) only [allW, allR, oneOf, evalAll, partsA, optA, Nat.reduceLT, Nat.reduceLeDiff, Nat.reduceEqDiff, Nat.reduceAdd, ↓reduceIte, undef, hn, h1, h2, h7, extT0, extT1]
  refine (copy_any (lib := libN) rfl t3 B fb hB3.sees (by omega)).mono ?_
  rintro cb t4 ⟨hcb, hcbF, hst4⟩
  have hx24 := (hx22.keeps hst3).keeps hst4
  simp (config := { maxSteps := 1000000, implicitDefEqProofs := false }) (disch := omega) only [allW, allR, oneOf, evalAll, partsA, optA, Nat.reduceLT, Nat.reduceLeDiff, Nat.reduceEqDiff, Nat.reduceAdd, ↓reduceIte, undef, hn, h1, h2, h7, extT0, extT1]
  refine wstep_append Try.underlying27 Try.underlying27 (.inl ⟨_, rfl⟩) szU8 byU8 zU8 rfl hcb hx24.src (by rw [ofBytes_length]; omega) (by decide) (ofBytes_ok _) (by omega) (by omega) hcbF hst4.next ?_
  intro cb2 t5 hcb2 hF5 hst5 hut5 _
  rw [← ofBytes_append, ← List.length_append] at hcb2
  simp (config := { maxSteps := 1000000, implicitDefEqProofs := false }) (disch := omega) only [allW, allR, oneOf, evalAll, partsA, optA, Nat.reduceLT, Nat.reduceLeDiff, Nat.reduceEqDiff, Nat.reduceAdd, ↓reduceIte, undef, hn, h1, h2, h7, extT0, extT1]
  refine (read_any t5 cb2 (fb ++ l2) hcb2.sees (by rw [List.length_append]; omega)).mono ?_
  rintro v2 t6 ⟨hv2, hst6⟩
  have hF1 := fontX_made hgood l2 8
  have hF0 := fontX_made hgood [] 8
  rw [List.append_nil] at hF0
  rw [← hfb] at hF0 hF1
  rw [hF1] at hv2
  obtain ⟨p, rfl, hp⟩ := hv2
  have hB6 := (hB3.keeps (hst4.trans hst5)).keeps hst6
  simp (config := { maxSteps := 1000000, implicitDefEqProofs := false }) (disch := omega) only [allW, allR, oneOf, evalAll, partsA, optA, Nat.reduceLT, Nat.reduceLeDiff, Nat.reduceEqDiff, Nat.reduceAdd, ↓reduceIte, undef, hn, h1, h2, h7, extT0, extT1]
  refine (rreadfont_any t6 B fb hB6.sees (by omega)).mono ?_
  rintro v3 t7 ⟨hv3, hst7⟩
  rw [hF0] at hv3
  obtain ⟨q, rfl, hq⟩ := hv3
  have d1 : ((e : Nat) : Int) ≠ 0 := by omega
  simp (config := { maxSteps := 1000000, implicitDefEqProofs := false }) (disch := omega) only [allW, allR, oneOf, evalAll, partsA, optA, Nat.reduceLT, Nat.reduceLeDiff, Nat.reduceEqDiff, Nat.reduceAdd, ↓reduceIte, undef, hn, h1, h2, h7, extT0, extT1, bin_neq, bin_eql, decide_eq_true d1, decide_true]
  refine (look_any _ _ t7 p q _ (hp.keeps hst7) hq (fontX_ok hF0)).mono ?_
  rintro _ t8 ⟨rfl, _⟩
  simp (config := { maxSteps := 1000000, implicitDefEqProofs := false }) (disch := omega) only [allW, allR, wfn_ret, wfn_normal, oneOf, evalAll, partsA, optA, Nat.reduceLT, Nat.reduceLeDiff, Nat.reduceEqDiff, Nat.reduceAdd, ↓reduceIte, undef, hn, Try.results6]
theorem own : ownKnob Try.prog.godebug = none := by kernel_rfl
theorem sound : progOk Try.prog libN = true := by kernel_rfl
theorem laid : laidOutB Try.prog = true := by kernel_rfl
theorem read : ∀ t ∈ Try.f6.params.toList, Try.prog.readableRec t = true ∧ t < Try.prog.types.size := by
  have : (Try.f6.params.toList.all fun t => Try.prog.readableRec t && decide (t < Try.prog.types.size)) = true := by kernel_rfl
  intro t ht
  simpa using List.all_eq_true.mp this t ht
theorem cellsu8 : Try.prog.cellsOf 5 = 1 := by kernel_rfl
theorem cellsu16 : Try.prog.cellsOf 46 = 1 := by kernel_rfl
set_option maxRecDepth 100000 in
theorem lifted (os : Os) (started : os.Started) (H : Type) (enc : TypeId × Value → H) :
    ReturnsInHanded {} Try.checked os 6 .any (Rows.sfntCutsSpec.pre6 enc Try.prog Try.f6 Rows.sfntCutsRow.domain false) (Rows.sfntCutsSpec.post enc Try.prog Try.f6 false true false false) := by
  refine returnsInHanded_of_change (C := Try.checked) own started (by kernel_rfl) Try.func6
    (ChangeSpec.witness6 (enc := enc) (C := Try.checked) false ⟨#[], #[.slice none 0 0, .int .u16 0, .slice none 0 0], []⟩ 8 (by kernel_rfl) (by kernel_rfl) (by kernel_rfl) (by kernel_rfl)) ?_
  intro W base args ds gs before hval hW hcnd _
  obtain ⟨p, q, hA, _, _, _, _⟩ := id hW
  have hA : DataW.TrodAll enc Try.prog W 0 (fun _ => true) true Try.f6.params.toList args.toList ds p := hA
  rw [Try.params6] at hA
  obtain ⟨v0, v1, v2, d0, d1, d2, p0, p1, p2, rfl, rfl, rfl, h0, h1, h2⟩ := trodAll_three hA
  have hv0 : Value.okWide Try.prog W .any base 45 v0 := hval 0 _ _ (by rw [Try.params6]; rfl) rfl
  have hv1 : Value.okWide Try.prog W .any base 46 v1 := hval 1 _ _ (by rw [Try.params6]; rfl) rfl
  have hv2 : Value.okWide Try.prog W .any base 27 v2 := hval 2 _ _ (by rw [Try.params6]; rfl) rfl
  obtain ⟨S0, x0, l0, hj0, hx0, hz0⟩ := (Begun.start W).ints Try.underlying45 Try.underlying46 cellsu16 hv0 h0
  obtain ⟨n1, rfl, _, _, hz1⟩ := open_int Try.underlying46 hv1 h1
  obtain ⟨S2, x2, l2, hj2, hx2⟩ := hj0.begun.bytes Try.underlying27 Try.underlying5 cellsu8 hv2 h2
  have hcalls := Runs.callsL libFr (libOk _) sound rfl hj2.begun (law S2.s x0 l0 n1 x2 l2 hj2.begun.sr.wf (by rw [hj2.next]; rw [hj0.next]; rfl) (hx0.keeps hj2.stay) hz0 hz1 hx2) (args' := #[v0, .int .u16 n1, v2]) (VRL.cons (hj0.vr.mono hj2.ext) (VRL.cons (.int _ _) (VRL.cons hj2.vr VRL.nil)))
  refine hcalls.mono fun e W' ⟨he, hb⟩ => ?_
  subst he
  exact law_post laid read rfl Try.underlying4 rfl (fun L hL => by match L, hL with | [a0, a1, a2], _ => rfl) hW hb

theorem over : Rows.sfntCutsRow.holds Try.pinned (OpenSpec.ofChange Rows.sfntCutsSpec) :=
  OpenClaim.holds_of_wide 6 Try.f6 rfl rfl rfl rfl rfl rfl rfl ⟨rfl, rfl, rfl, rfl, rfl⟩ rfl rfl rfl rfl rfl (by kernel_rfl) Try.func6 (by kernel_rfl)
    (of_decide_eq_true (by kernel_rfl)) (by unfold Func.isWrapper; first | (rw [if_pos (by decide +kernel)]; kernel_rfl) | (rw [if_neg (by decide +kernel)]; exact ⟨rfl, rfl⟩))
    (fun os started H enc _ => lifted os started H enc)

/-- THE STATEMENT. -/
theorem proved : Rows.SfntCutsSaid := over
#print axioms proved
end Go.Proofs.Ytpdkppimlcbhlaa.sfntCuts
