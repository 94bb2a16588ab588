/-
  The statement InflateBack: what the document's own writer wrote, wrapped or as stored blocks, with more behind it, is read as it was, and to where it ends; with too small a bound it is too long: the law returns true.
  Conditions: none.
-/
import Derived.Test.YtnclklboogdoiaaRows
import Derived.Test.YtnclklboogdoiaaStart
import Derived.Test.YtnclklboogdoiaaNfY
set_option linter.unusedSimpArgs false
set_option linter.unusedVariables false
set_option maxRecDepth 100000
namespace Go.Proofs.Ytnclklboogdoiaa.inflateBack
open Go.ChangeShapes Go.WideShapes Go.ChangeAt Go.RowKit Go.Cl Go.Cl.Sto Go.Cl.Rw Go.Cl.Fx Go.Cl.Nf
theorem awake2 : answersTrue (acall Try.prog [] 100000 10 [] ⟨.nil, 2⟩) = true := by kernel_rfl
set_option maxRecDepth 100000 in
set_option maxHeartbeats 8000000 in
theorem law (s : ASt) (x : Value) (l : List UInt8) (y : Value) (T : List UInt8) (hw : WF s) (hk : s.next = 2) (hx : Sees s 1 x l.length (ofBytes l)) (hy : Sees s 1 y T.length (ofBytes T)) :
    Runs Try.prog [] 8 [x, y] s fun v _ => v = .bool true := by
  obtain ⟨QQ, hQQ⟩ : ∃ QQ : Value → ASt → Prop, QQ = fun v _ => v = .bool true := ⟨_, rfl⟩
  rw [← hQQ]
  refine Runs.enter 92 Try.func8 rfl rfl rfl rfl ?_
  intro f hn hf
  have h0 : f.get 0 = x := hf 0
  have h1 : f.get 1 = y := hf 1
  clear hf
  simp (config := { maxSteps := 1000000, implicitDefEqProofs := false }) (disch := omega) only [allW, allR, oneOf, evalAll, partsA, optA, Nat.reduceLT, Nat.reduceLeDiff, Nat.reduceEqDiff, Nat.reduceAdd, ↓reduceIte, hn, h0, h1]
  refine (Runs.closed LibFr.nil awake2 hk hw).mono ?_
  rintro _ s1 ⟨rfl, k1, _⟩
  have hx1 := hx.keeps k1
  have hy1 := hy.keeps k1
  by_cases hbig : (l.length : Int) > 1500
  · simp (config := { maxSteps := 1000000, implicitDefEqProofs := false }) (disch := omega) only [allW, allR, wfn_ret, wfn_normal, oneOf, evalAll, partsA, optA, Nat.reduceLT, Nat.reduceLeDiff, Nat.reduceEqDiff, Nat.reduceAdd, ↓reduceIte, undef, hn, h0, h1, Bool.not_true, hx1.lenA Try.underlying22, eq_true hbig, decide_true, Try.results8]
    rw [hQQ]
  by_cases hbg2 : (T.length : Int) > 50
  · simp (config := { maxSteps := 1000000, implicitDefEqProofs := false }) (disch := omega) only [allW, allR, wfn_ret, wfn_normal, oneOf, evalAll, partsA, optA, Nat.reduceLT, Nat.reduceLeDiff, Nat.reduceEqDiff, Nat.reduceAdd, ↓reduceIte, undef, hn, h0, h1, Bool.not_true, hx1.lenA Try.underlying22, hy1.lenA Try.underlying22, eq_false hbig, eq_true hbg2, decide_true, decide_false, Try.results8]
    rw [hQQ]
  have hsl := sto_length _ l (Nat.le_refl _)
  have hbk : blocks l.length = 1 := by unfold blocks; omega
  have hzl := zbody_le l
  have hzz := zlen l
  simp (config := { maxSteps := 1000000, implicitDefEqProofs := false }) (disch := omega) only [allW, allR, oneOf, evalAll, partsA, optA, Nat.reduceLT, Nat.reduceLeDiff, Nat.reduceEqDiff, Nat.reduceAdd, ↓reduceIte, undef, hn, h0, h1, Bool.not_true, hx1.lenA Try.underlying22, hy1.lenA Try.underlying22, eq_false hbig, eq_false hbg2, decide_false]
  refine (rzlib_any (lib := []) rfl rfl rfl rfl rfl rfl rfl rfl rfl rfl rfl rfl rfl rfl rfl s1 x l hx1 (by omega)).mono ?_
  rintro Z s2 ⟨hZ, -, k2⟩
  have hx2 := hx1.keeps k2
  have hy2 := hy1.keeps k2
  obtain ⟨N, hN⟩ : ∃ N, N = 8 * (zlb l).length + 8 * (sto l).length + 8 * T.length + l.length + 2 := ⟨_, rfl⟩
  simp (config := { maxSteps := 1000000, implicitDefEqProofs := false }) (disch := omega) only [allW, allR, oneOf, evalAll, partsA, optA, Nat.reduceLT, Nat.reduceLeDiff, Nat.reduceEqDiff, Nat.reduceAdd, ↓reduceIte, undef, hn, h0, h1]
  refine (copy_any (lib := []) rfl s2 Z (zlb l) hZ.sees (by omega)).mono ?_
  rintro C s3 ⟨hC, hCF, k3⟩
  have hx3 := hx2.keeps k3
  have hy3 := hy2.keeps k3
  have hZ3 := hZ.keeps k3
  simp (config := { maxSteps := 1000000, implicitDefEqProofs := false }) (disch := omega) only [allW, allR, oneOf, evalAll, partsA, optA, Nat.reduceLT, Nat.reduceLeDiff, Nat.reduceEqDiff, Nat.reduceAdd, ↓reduceIte, undef, hn, h0, h1]
  refine wstep_append Try.underlying22 Try.underlying22 (.inl ⟨_, rfl⟩) szU8 byU8 zU8 rfl hC hy3.src (by simp [ofBytes_length]) (by decide) (ofBytes_ok _) (by omega) (by omega) hCF k3.next ?_
  intro C' s4 hC' _ k4 _ _
  have k34 := k3.trans k4
  have hx4 := hx2.keeps k34
  have hy4 := hy2.keeps k34
  have hZ4 := hZ.keeps k34
  rw [← ofBytes_append, ← List.length_append] at hC'
  simp (config := { maxSteps := 1000000, implicitDefEqProofs := false }) (disch := omega) only [allW, allR, oneOf, evalAll, partsA, optA, Nat.reduceLT, Nat.reduceLeDiff, Nat.reduceEqDiff, Nat.reduceAdd, ↓reduceIte, undef, hn, h0, h1, hx4.lenA Try.underlying22]
  have r1 := zlibX_any s4 C' (zlb l ++ T) N hC'.sees (by rw [List.length_append]; omega) (l.length : Nat) (by omega) (by rw [List.length_append]; omega)
  rw [Int.toNat_natCast, zlib_read N l T (Nat.le_refl _) (by omega)] at r1
  refine r1.mono ?_
  rintro _ s5 ⟨o, rfl, hO, -, k5⟩
  have hx5 := hx4.keeps k5
  have hy5 := hy4.keeps k5
  have hZ5 := hZ4.keeps k5
  simp (config := { maxSteps := 1000000, implicitDefEqProofs := false }) (disch := omega) only [allW, allR, oneOf, evalAll, partsA, optA, Nat.reduceLT, Nat.reduceLeDiff, Nat.reduceEqDiff, Nat.reduceAdd, ↓reduceIte, undef, hn, h0, h1, ext0F, ext1F, ext2F, not_true_eq_false, decide_false, hZ5.sees.lenA Try.underlying22]
  refine (same_any (lib := []) rfl s5 o x l l hO.sees hx5 (by omega) (by omega)).mono ?_
  rintro _ s5 ⟨rfl, rfl⟩
  simp (config := { maxSteps := 1000000, implicitDefEqProofs := false }) (disch := omega) only [allW, allR, oneOf, evalAll, partsA, optA, Nat.reduceLT, Nat.reduceLeDiff, Nat.reduceEqDiff, Nat.reduceAdd, ↓reduceIte, undef, hn, h0, h1, decide_true, Bool.not_true]
  refine (rstored_any (lib := []) rfl s5 x l hx5 (by omega)).mono ?_
  rintro S s6 ⟨hS, hSF, k6⟩
  have hx6 := hx5.keeps k6
  have hy6 := hy5.keeps k6
  have hZ6 := hZ5.keeps k6
  simp (config := { maxSteps := 1000000, implicitDefEqProofs := false }) (disch := omega) only [allW, allR, oneOf, evalAll, partsA, optA, Nat.reduceLT, Nat.reduceLeDiff, Nat.reduceEqDiff, Nat.reduceAdd, ↓reduceIte, undef, hn, h0, h1]
  refine wstep_append Try.underlying22 Try.underlying22 (.inl ⟨_, rfl⟩) szU8 byU8 zU8 rfl hS hy6.src (by simp [ofBytes_length]) (by decide) (ofBytes_ok _) (by omega) (by omega) hSF k6.next ?_
  intro S' s7 hS' _ k7 _ _
  have k67 := k6.trans k7
  have hx7 := hx5.keeps k67
  have hy7 := hy5.keeps k67
  have hZ7 := hZ5.keeps k67
  rw [← ofBytes_append, ← List.length_append] at hS'
  simp (config := { maxSteps := 1000000, implicitDefEqProofs := false }) (disch := omega) only [allW, allR, oneOf, evalAll, partsA, optA, Nat.reduceLT, Nat.reduceLeDiff, Nat.reduceEqDiff, Nat.reduceAdd, ↓reduceIte, undef, hn, h0, h1, hx7.lenA Try.underlying22]
  have r2 := blocksP_any noLx s7 S' (sto l ++ T) N hS'.sees (by rw [List.length_append]; omega) (l.length : Nat) (by omega) (by rw [List.length_append]; omega)
  rw [Int.toNat_natCast, sto_read N l T (Nat.le_refl _) (by omega)] at r2
  refine r2.mono ?_
  rintro _ s8 ⟨o2, rfl, hO2, -, k8⟩
  rw [show (8 * (sto l).length + 7) / 8 = (sto l).length by omega]
  have hx8 := hx7.keeps k8
  have hZ8 := hZ7.keeps k8
  simp (config := { maxSteps := 1000000, implicitDefEqProofs := false }) (disch := omega) only [allW, allR, oneOf, evalAll, partsA, optA, Nat.reduceLT, Nat.reduceLeDiff, Nat.reduceEqDiff, Nat.reduceAdd, ↓reduceIte, undef, hn, h0, h1, ext0F, ext1F, ext2F, not_true_eq_false, decide_false]
  refine (rstored_any (lib := []) rfl s8 x l hx8 (by omega)).mono ?_
  rintro S2 s9 ⟨hS2, -, k9⟩
  have hx9 := hx8.keeps k9
  have hZ9 := hZ8.keeps k9
  have hO9 := hO2.keeps k9
  simp (config := { maxSteps := 1000000, implicitDefEqProofs := false }) (disch := omega) only [allW, allR, oneOf, evalAll, partsA, optA, Nat.reduceLT, Nat.reduceLeDiff, Nat.reduceEqDiff, Nat.reduceAdd, ↓reduceIte, undef, hn, h0, h1, not_true_eq_false, decide_false, hS2.sees.lenA Try.underlying22]
  refine (same_any (lib := []) rfl s9 o2 x l l hO9.sees hx9 (by omega) (by omega)).mono ?_
  rintro _ s9 ⟨rfl, rfl⟩
  by_cases hz : l.length = 0
  · have d0 : ((l.length : Nat) : Int) = 0 := by omega
    simp (config := { maxSteps := 1000000, implicitDefEqProofs := false }) (disch := omega) only [allW, allR, wfn_ret, wfn_normal, oneOf, evalAll, partsA, optA, Nat.reduceLT, Nat.reduceLeDiff, Nat.reduceEqDiff, Nat.reduceAdd, ↓reduceIte, undef, hn, h0, h1, decide_true, Bool.not_true, hx9.lenA Try.underlying22, eq_true d0, Try.results8]
    rw [hQQ]
  have d0 : ¬ ((l.length : Nat) : Int) = 0 := by omega
  simp (config := { maxSteps := 1000000, implicitDefEqProofs := false }) (disch := omega) only [allW, allR, oneOf, evalAll, partsA, optA, Nat.reduceLT, Nat.reduceLeDiff, Nat.reduceEqDiff, Nat.reduceAdd, ↓reduceIte, undef, hn, h0, h1, decide_true, Bool.not_true, hx9.lenA Try.underlying22, eq_false d0, decide_false, wrapI]
  have r3 := zlibX_any s9 Z (zlb l) N hZ9.sees (by omega) ((l.length : Int) - 1) (by omega) (by omega)
  rw [zlib_over N l (by omega) (by omega)] at r3
  refine r3.mono ?_
  rintro _ sa ⟨rfl, -⟩
  simp (config := { maxSteps := 1000000, implicitDefEqProofs := false }) (disch := omega) only [allW, allR, wfn_ret, wfn_normal, oneOf, evalAll, partsA, optA, Nat.reduceLT, Nat.reduceLeDiff, Nat.reduceEqDiff, Nat.reduceAdd, ↓reduceIte, undef, hn, h0, h1, ext0F, ext1F, ext2F, (show ((7 : Nat) : Int) = 7 from rfl), decide_true, Try.results8]
  rw [hQQ]
theorem own : ownKnob Try.prog.godebug = none := by kernel_rfl
theorem sound : progOk Try.prog [] = true := by kernel_rfl
theorem laid : laidOutB Try.prog = true := by kernel_rfl
theorem read : ∀ t ∈ Try.f8.params.toList, Try.prog.readableRec t = true ∧ t < Try.prog.types.size := by
  have : (Try.f8.params.toList.all fun t => Try.prog.readableRec t && decide (t < Try.prog.types.size)) = true := by kernel_rfl
  intro t ht
  simpa using List.all_eq_true.mp this t ht
theorem cellsu8 : Try.prog.cellsOf 5 = 1 := by kernel_rfl
set_option maxRecDepth 100000 in
theorem lifted (os : Os) (started : os.Started) (H : Type) (enc : TypeId × Value → H) :
    ReturnsInHanded {} Try.checked os 8 .any (Rows.inflateBackSpec.pre6 enc Try.prog Try.f8 Rows.inflateBackRow.domain false) (Rows.inflateBackSpec.post enc Try.prog Try.f8 false true false false) := by
  refine returnsInHanded_of_change (C := Try.checked) own started (by kernel_rfl) Try.func8
    (ChangeSpec.witness6 (enc := enc) (C := Try.checked) false ⟨#[], #[.slice none 0 0, .slice none 0 0], []⟩ 8 (by kernel_rfl) (by kernel_rfl) (by kernel_rfl) (by kernel_rfl)) ?_
  intro W base args ds gs before hval hW hcnd _
  obtain ⟨p, q, hA, _, _, _, _⟩ := id hW
  have hA : DataW.TrodAll enc Try.prog W 0 (fun _ => true) true Try.f8.params.toList args.toList ds p := hA
  rw [Try.params8] at hA
  obtain ⟨v0, v1, d0, d1, p0, p1, rfl, rfl, rfl, h0, h1⟩ := trodAll_two hA
  have hv0 : Value.okWide Try.prog W .any base 22 v0 := hval 0 _ _ (by rw [Try.params8]; rfl) rfl
  have hv1 : Value.okWide Try.prog W .any base 22 v1 := hval 1 _ _ (by rw [Try.params8]; rfl) rfl
  obtain ⟨S0, x0, l0, hj0, hx0⟩ := (Begun.start W).bytes Try.underlying22 Try.underlying5 cellsu8 hv0 h0
  obtain ⟨S1, x1, l1, hj1, hx1⟩ := hj0.begun.bytes Try.underlying22 Try.underlying5 cellsu8 hv1 h1
  have hcalls := Runs.calls sound hj1.begun (law S1.s x0 l0 x1 l1 hj1.begun.sr.wf (by rw [hj1.next]; rw [hj0.next]; rfl) (hx0.keeps hj1.stay) hx1) (args' := #[v0, v1]) (VRL.cons (hj0.vr.mono hj1.ext) (VRL.cons hj1.vr VRL.nil))
  refine hcalls.mono fun e W' ⟨he, hb⟩ => ?_
  subst he
  exact law_post laid read rfl Try.underlying4 rfl (fun L hL => by match L, hL with | [a0, a1], _ => rfl) hW hb
theorem over : Rows.inflateBackRow.holds Try.pinned (OpenSpec.ofChange Rows.inflateBackSpec) :=
  OpenClaim.holds_of_wide 8 Try.f8 rfl rfl rfl rfl rfl rfl rfl ⟨rfl, rfl, rfl, rfl, rfl⟩ rfl rfl rfl rfl rfl (by kernel_rfl) Try.func8 (by kernel_rfl)
    (of_decide_eq_true (by kernel_rfl)) (by unfold Func.isWrapper; first | (rw [if_pos (by decide +kernel)]; kernel_rfl) | (rw [if_neg (by decide +kernel)]; exact ⟨rfl, rfl⟩))
    (fun os started H enc _ => lifted os started H enc)
theorem proved : Rows.InflateBackSaid := over
#print axioms proved
end Go.Proofs.Ytnclklboogdoiaa.inflateBack
