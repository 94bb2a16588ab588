/-
  The statement InflateCuts: what was written and is cut is too short, wrapped or not: the law returns true.
  Conditions: none.
-/
import Derived.Test.YtnclklboogdoiaaRows
import Derived.Test.YtnclklboogdoiaaStart
import Derived.Test.YtnclklboogdoiaaNfY
set_option linter.unusedSimpArgs false
set_option linter.unusedVariables false
set_option maxRecDepth 100000
namespace Go.Proofs.Ytnclklboogdoiaa.inflateCuts
open Go.ChangeShapes Go.WideShapes Go.ChangeAt Go.RowKit Go.Cl Go.Cl.Sto Go.Cl.Rw Go.Cl.Fx Go.Cl.Nf
theorem awake1 : answersTrue (acall Try.prog [] 100000 10 [] ⟨.nil, 1⟩) = true := by kernel_rfl
theorem remN (m k : Nat) : ((m : Int)).tmod (k : Int) = ((m % k : Nat) : Int) := by rw [Int.tmod_eq_emod_of_nonneg (by omega)]; rfl
set_option maxRecDepth 100000 in
set_option maxHeartbeats 8000000 in
theorem law (s : ASt) (x : Value) (l : List UInt8) (n : Int) (hw : WF s) (hk : s.next = 1) (hx : Sees s 1 x l.length (ofBytes l)) (hz1 : (Lit.int .u16 n).wf = true) :
    Runs Try.prog [] 9 [x, .int .u16 n] s fun v _ => v = .bool true := by
  obtain ⟨QQ, hQQ⟩ : ∃ QQ : Value → ASt → Prop, QQ = fun v _ => v = .bool true := ⟨_, rfl⟩
  rw [← hQQ]
  have hn0 : 0 ≤ n ∧ n < 65536 := by
    simp [Lit.wf, IntKind.min, IntKind.max, IntKind.bits, IntKind.signed] at hz1
    omega
  obtain ⟨m, rfl⟩ : ∃ m : Nat, n = m := ⟨n.toNat, by omega⟩
  refine Runs.enter 52 Try.func9 rfl rfl rfl rfl ?_
  intro f hn hf
  have h0 : f.get 0 = x := hf 0
  have h1 : f.get 1 = .int .u16 m := hf 1
  clear hf
  simp (config := { maxSteps := 1000000, implicitDefEqProofs := false }) (disch := omega) only [allW, allR, oneOf, evalAll, partsA, optA, Nat.reduceLT, Nat.reduceLeDiff, Nat.reduceEqDiff, Nat.reduceAdd, ↓reduceIte, hn, h0, h1]
  refine (Runs.closed LibFr.nil awake1 hk hw).mono ?_
  rintro _ s1 ⟨rfl, k1, _⟩
  have hx1 := hx.keeps k1
  by_cases hbig : (l.length : Int) > 1000
  · simp (config := { maxSteps := 1000000, implicitDefEqProofs := false }) (disch := omega) only [allW, allR, wfn_ret, wfn_normal, oneOf, evalAll, partsA, optA, Nat.reduceLT, Nat.reduceLeDiff, Nat.reduceEqDiff, Nat.reduceAdd, ↓reduceIte, undef, hn, h0, h1, Bool.not_true, hx1.lenA Try.underlying22, eq_true hbig, decide_true, Try.results9]
    rw [hQQ]
  have hfl := fixed_length l
  have hsl := sto_length _ l (Nat.le_refl _)
  have hbk : blocks l.length = 1 := by unfold blocks; omega
  have hzl := zbody_le l
  have hzz := zlen l
  simp (config := { maxSteps := 1000000, implicitDefEqProofs := false }) (disch := omega) only [allW, allR, oneOf, evalAll, partsA, optA, Nat.reduceLT, Nat.reduceLeDiff, Nat.reduceEqDiff, Nat.reduceAdd, ↓reduceIte, undef, hn, h0, h1, Bool.not_true, hx1.lenA Try.underlying22, eq_false hbig, decide_false]
  refine (rzlib_any (lib := []) rfl rfl rfl rfl rfl rfl rfl rfl rfl rfl rfl rfl rfl rfl rfl s1 x l hx1 (by omega)).mono ?_
  rintro z s2 ⟨hZ, -, k2⟩
  have hx2 := hx1.keeps k2
  simp (config := { maxSteps := 1000000, implicitDefEqProofs := false }) (disch := omega) only [allW, allR, oneOf, evalAll, partsA, optA, Nat.reduceLT, Nat.reduceLeDiff, Nat.reduceEqDiff, Nat.reduceAdd, ↓reduceIte, undef, hn, h0, h1]
  refine (rfixed_any (lib := []) rfl rfl rfl rfl rfl rfl rfl rfl rfl rfl s2 x l hx2 (by omega)).mono ?_
  rintro a s3 ⟨hA, -, k3⟩
  have hZ3 := hZ.keeps k3
  obtain ⟨i, hi⟩ : ∃ i, i = m % (zlb l).length := ⟨_, rfl⟩
  have hil : i < (zlb l).length := by rw [hi]; exact Nat.mod_lt _ (by omega)
  have hfp : 0 < (fixed l).length := by
    rw [← fixed_end' l]
    have h2 : headP.2 ≤ (fixP l).2 := (pre_head' l).le
    have h3 : headP.2 = 3 := rfl
    omega
  obtain ⟨j, hj⟩ : ∃ j, j = m % (fixed l).length := ⟨_, rfl⟩
  have hjl : j < (fixed l).length := by rw [hj]; exact Nat.mod_lt _ hfp
  have hcut := hZ3.sees.cutB (lo := 0) (hi := i) (by omega) (by omega)
  rw [List.drop_zero, Nat.sub_zero] at hcut
  obtain ⟨N, hN⟩ : ∃ N, N = 8 * (zlb l).length + 8 * (fixed l).length + l.length + 2 := ⟨_, rfl⟩
  simp (config := { maxSteps := 1000000, implicitDefEqProofs := false }) (disch := omega) only [allW, allR, oneOf, evalAll, partsA, optA, Nat.reduceLT, Nat.reduceLeDiff, Nat.reduceEqDiff, Nat.reduceAdd, ↓reduceIte, undef, hn, h0, h1, hZ3.sees.lenA Try.underlying22, conv_int Try.underlying47 Try.underlying3, wrapI, bin_rem, remN, ← hi, hZ3.self, hZ3.sees.sliceHigh Try.underlying22 szU8, Int.toNat_natCast]
  have r1 := zlibX_any s3 _ _ N hcut (by rw [List.length_take]; omega) 5000 (by decide) (by rw [List.length_take]; omega)
  rw [show (5000 : Int).toNat = 5000 from rfl, zlib_cut N l (by omega) (by omega) hil] at r1
  refine r1.mono ?_
  rintro _ s4 ⟨rfl, k4⟩
  have hA4 := hA.keeps k4
  have hcut2 := hA4.sees.cutB (lo := 0) (hi := j) (by omega) (by omega)
  rw [List.drop_zero, Nat.sub_zero] at hcut2
  simp (config := { maxSteps := 1000000, implicitDefEqProofs := false }) (disch := omega) only [allW, allR, oneOf, evalAll, partsA, optA, Nat.reduceLT, Nat.reduceLeDiff, Nat.reduceEqDiff, Nat.reduceAdd, ↓reduceIte, undef, hn, h0, h1, ext0F, ext1F, ext2F, hA4.sees.lenA Try.underlying22, conv_int Try.underlying47 Try.underlying3, wrapI, bin_rem, remN, ← hj, hA4.self, hA4.sees.sliceHigh Try.underlying22 szU8, Int.toNat_natCast]
  have r2 := blocksP_any noLx s4 _ _ N hcut2 (by rw [List.length_take]; omega) 5000 (by decide) (by rw [List.length_take]; omega)
  rw [show (5000 : Int).toNat = 5000 from rfl, fixed_cut N l (by omega) (by omega) hjl] at r2
  refine r2.mono ?_
  rintro _ s5 ⟨rfl, k5⟩
  simp (config := { maxSteps := 1000000, implicitDefEqProofs := false }) (disch := omega) only [allW, allR, wfn_ret, wfn_normal, oneOf, evalAll, partsA, optA, Nat.reduceLT, Nat.reduceLeDiff, Nat.reduceEqDiff, Nat.reduceAdd, ↓reduceIte, undef, hn, h0, h1, ext0F, ext1F, ext2F, (show ((2 : Nat) : Int) = 2 from rfl), decide_true, Try.results9]
  rw [hQQ]
theorem own : ownKnob Try.prog.godebug = none := by kernel_rfl
theorem sound : progOk Try.prog [] = true := by kernel_rfl
theorem laid : laidOutB Try.prog = true := by kernel_rfl
theorem read : ∀ t ∈ Try.f9.params.toList, Try.prog.readableRec t = true ∧ t < Try.prog.types.size := by
  have : (Try.f9.params.toList.all fun t => Try.prog.readableRec t && decide (t < Try.prog.types.size)) = true := by kernel_rfl
  intro t ht
  simpa using List.all_eq_true.mp this t ht
theorem cellsu8 : Try.prog.cellsOf 5 = 1 := by kernel_rfl
set_option maxRecDepth 100000 in
theorem lifted (os : Os) (started : os.Started) (H : Type) (enc : TypeId × Value → H) :
    ReturnsInHanded {} Try.checked os 9 .any (Rows.inflateCutsSpec.pre6 enc Try.prog Try.f9 Rows.inflateCutsRow.domain false) (Rows.inflateCutsSpec.post enc Try.prog Try.f9 false true false false) := by
  refine returnsInHanded_of_change (C := Try.checked) own started (by kernel_rfl) Try.func9
    (ChangeSpec.witness6 (enc := enc) (C := Try.checked) false ⟨#[], #[.slice none 0 0, .int .u16 0], []⟩ 8 (by kernel_rfl) (by kernel_rfl) (by kernel_rfl) (by kernel_rfl)) ?_
  intro W base args ds gs before hval hW hcnd _
  obtain ⟨p, q, hA, _, _, _, _⟩ := id hW
  have hA : DataW.TrodAll enc Try.prog W 0 (fun _ => true) true Try.f9.params.toList args.toList ds p := hA
  rw [Try.params9] at hA
  obtain ⟨v0, v1, d0, d1, p0, p1, rfl, rfl, rfl, h0, h1⟩ := trodAll_two hA
  have hv0 : Value.okWide Try.prog W .any base 22 v0 := hval 0 _ _ (by rw [Try.params9]; rfl) rfl
  have hv1 : Value.okWide Try.prog W .any base 47 v1 := hval 1 _ _ (by rw [Try.params9]; rfl) rfl
  obtain ⟨S0, x0, l0, hj0, hx0⟩ := (Begun.start W).bytes Try.underlying22 Try.underlying5 cellsu8 hv0 h0
  obtain ⟨n1, rfl, _, _, hz1⟩ := open_int Try.underlying47 hv1 h1
  have hcalls := Runs.calls sound hj0.begun (law S0.s x0 l0 n1 hj0.begun.sr.wf (by rw [hj0.next]; rfl) hx0 hz1) (args' := #[v0, .int .u16 n1]) (VRL.cons hj0.vr (VRL.cons (.int _ _) VRL.nil))
  refine hcalls.mono fun e W' ⟨he, hb⟩ => ?_
  subst he
  exact law_post laid read rfl Try.underlying4 rfl (fun L hL => by match L, hL with | [a0, a1], _ => rfl) hW hb
theorem over : Rows.inflateCutsRow.holds Try.pinned (OpenSpec.ofChange Rows.inflateCutsSpec) :=
  OpenClaim.holds_of_wide 9 Try.f9 rfl rfl rfl rfl rfl rfl rfl ⟨rfl, rfl, rfl, rfl, rfl⟩ rfl rfl rfl rfl rfl (by kernel_rfl) Try.func9 (by kernel_rfl)
    (of_decide_eq_true (by kernel_rfl)) (by unfold Func.isWrapper; first | (rw [if_pos (by decide +kernel)]; kernel_rfl) | (rw [if_neg (by decide +kernel)]; exact ⟨rfl, rfl⟩))
    (fun os started H enc _ => lifted os started H enc)
theorem proved : Rows.InflateCutsSaid := over
#print axioms proved
end Go.Proofs.Ytnclklboogdoiaa.inflateCuts
