/-
  The closed statement InflateKnown: the law returns true, whatever the world.
  Conditions: none.
-/
import Derived.Test.YtnclklboogdoiaaRows
import Derived.Test.YtnclklboogdoiaaStart
import Derived.Test.YtnclklboogdoiaaNfX
import Derived.ProofKit
import Derived.OpenShut
import Derived.KernelRfl
set_option linter.unusedSimpArgs false
set_option linter.unusedVariables false
set_option maxRecDepth 100000
namespace Go.Proofs.Ytnclklboogdoiaa.inflateKnown
open Go.ChangeShapes Go.WideShapes Go.ChangeAt Go.RowKit Go.Cl Go.Cl.Sto Go.Cl.Rw Go.Cl.Fx Go.Cl.Nf Go.Cl.Jn
theorem build3 {P : Program} {s : ASt} {t e : TypeId} {k : IntKind} {a b c : Int} (hu : P.underlying t = some (.slice e)) (hsz : sizeB P e = some 1) (hz : zeroB P e = some (.int k 0)) : buildSliceA P s t 3 [(0, .int k a), (1, .int k b), (2, .int k c)] = newSlice s [.int k a, .int k b, .int k c] 3 1 := by
  unfold buildSliceA; rw [hu]; simp only [hsz, hz]; rfl
theorem build12 {P : Program} {s : ASt} {t e : TypeId} {k : IntKind} {a0 a1 a2 a3 a4 a5 a6 a7 a8 a9 a10 a11 : Int} (hu : P.underlying t = some (.slice e)) (hsz : sizeB P e = some 1) (hz : zeroB P e = some (.int k 0)) : buildSliceA P s t 12 [(0, .int k a0), (1, .int k a1), (2, .int k a2), (3, .int k a3), (4, .int k a4), (5, .int k a5), (6, .int k a6), (7, .int k a7), (8, .int k a8), (9, .int k a9), (10, .int k a10), (11, .int k a11)] = newSlice s [.int k a0, .int k a1, .int k a2, .int k a3, .int k a4, .int k a5, .int k a6, .int k a7, .int k a8, .int k a9, .int k a10, .int k a11] 12 1 := by
  unfold buildSliceA; rw [hu]; simp only [hsz, hz]; rfl
theorem v1 : inflX 40 [7] 9 = .error 4 := by kernel_rfl
theorem v2 : inflX 40 [] 9 = .error 2 := by kernel_rfl
theorem v3 : inflX 80 [1, 1, 0, 254, 255, 97] 0 = .error 7 := by kernel_rfl
theorem v4 : zlibX 40 [120, 2] 9 = .error 4 := by kernel_rfl
theorem v5 : zlibX 140 [120, 1, 1, 1, 0, 254, 255, 97, 0, 0, 0, 0] 9 = .error 10 := by kernel_rfl
theorem v6 : inflX 40 [75, 4, 0] 9 = .ok (18, [97]) := by kernel_rfl
set_option maxRecDepth 100000 in
set_option maxHeartbeats 8000000 in
theorem law (s : ASt) : Runs Try.prog [] 6 [] s fun v _ => v = .bool true := by
  obtain ⟨QQ, hQQ⟩ : ∃ QQ : Value → ASt → Prop, QQ = fun v _ => v = .bool true := ⟨_, rfl⟩
  rw [← hQQ]
  refine Runs.enter 87 Try.func6 rfl rfl rfl rfl ?_
  intro f hn _
  simp (config := { maxSteps := 1000000, implicitDefEqProofs := false }) (disch := omega) only [allW, allR, oneOf, evalAll, partsA, optA, Nat.reduceLT, Nat.reduceLeDiff, Nat.reduceEqDiff, Nat.reduceAdd, ↓reduceIte, hn]
  refine (awake_any s).mono ?_
  rintro _ s0 ⟨rfl, -⟩
  simp (config := { maxSteps := 1000000, implicitDefEqProofs := false }) (disch := omega) only [allW, allR, oneOf, evalAll, partsA, optA, Nat.reduceLT, Nat.reduceLeDiff, Nat.reduceEqDiff, Nat.reduceAdd, ↓reduceIte, hn, Bool.not_true,  build1 Try.underlying22 szU8 zU8]
  refine wstep_newSlice rfl ?_
  intro x0 s1 hx0 _ _
  have hx0 : Own s1 1 x0 ([7] : List UInt8).length (ofBytes [7]) := hx0
  simp (config := { maxSteps := 1000000, implicitDefEqProofs := false }) (disch := omega) only [allW, allR, oneOf, evalAll, partsA, optA, Nat.reduceLT, Nat.reduceLeDiff, Nat.reduceEqDiff, Nat.reduceAdd, ↓reduceIte, hn]
  have r := blocksP_any noLx s1 x0 _ 40 hx0.sees (by decide) 9 (by decide) (by decide)
  rw [show (9 : Int).toNat = 9 from rfl, v1] at r
  refine r.mono ?_
  rintro _ s2 ⟨rfl, -⟩
  simp (config := { maxSteps := 1000000, implicitDefEqProofs := false }) (disch := omega) only [allW, allR, oneOf, evalAll, partsA, optA, Nat.reduceLT, Nat.reduceLeDiff, Nat.reduceEqDiff, Nat.reduceAdd, ↓reduceIte, hn, ext0F, ext1F, ext2F]
  have r := blocksP_any noLx s2 (.slice none 0 0) [] 40 .nil (by decide) 9 (by decide) (by decide)
  rw [show (9 : Int).toNat = 9 from rfl, v2] at r
  refine r.mono ?_
  rintro _ s3 ⟨rfl, -⟩
  simp (config := { maxSteps := 1000000, implicitDefEqProofs := false }) (disch := omega) only [allW, allR, oneOf, evalAll, partsA, optA, Nat.reduceLT, Nat.reduceLeDiff, Nat.reduceEqDiff, Nat.reduceAdd, ↓reduceIte, hn, ext0F, ext1F, ext2F, build6 Try.underlying22 szU8 zU8]
  refine wstep_newSlice rfl ?_
  intro x3 s4 hx3 _ _
  have hx3 : Own s4 1 x3 ([1, 1, 0, 254, 255, 97] : List UInt8).length (ofBytes [1, 1, 0, 254, 255, 97]) := hx3
  simp (config := { maxSteps := 1000000, implicitDefEqProofs := false }) (disch := omega) only [allW, allR, oneOf, evalAll, partsA, optA, Nat.reduceLT, Nat.reduceLeDiff, Nat.reduceEqDiff, Nat.reduceAdd, ↓reduceIte, hn]
  have r := blocksP_any noLx s4 x3 _ 80 hx3.sees (by decide) 0 (by decide) (by decide)
  rw [show (0 : Int).toNat = 0 from rfl, v3] at r
  refine r.mono ?_
  rintro _ s5 ⟨rfl, -⟩
  simp (config := { maxSteps := 1000000, implicitDefEqProofs := false }) (disch := omega) only [allW, allR, oneOf, evalAll, partsA, optA, Nat.reduceLT, Nat.reduceLeDiff, Nat.reduceEqDiff, Nat.reduceAdd, ↓reduceIte, hn, ext0F, ext1F, ext2F,  build2 Try.underlying22 szU8 zU8]
  refine wstep_newSlice rfl ?_
  intro x5 s6 hx5 _ _
  have hx5 : Own s6 1 x5 ([120, 2] : List UInt8).length (ofBytes [120, 2]) := hx5
  simp (config := { maxSteps := 1000000, implicitDefEqProofs := false }) (disch := omega) only [allW, allR, oneOf, evalAll, partsA, optA, Nat.reduceLT, Nat.reduceLeDiff, Nat.reduceEqDiff, Nat.reduceAdd, ↓reduceIte, hn]
  have r := zlibX_any s6 x5 _ 40 hx5.sees (by decide) 9 (by decide) (by decide)
  rw [show (9 : Int).toNat = 9 from rfl, v4] at r
  refine r.mono ?_
  rintro _ s7 ⟨rfl, -⟩
  simp (config := { maxSteps := 1000000, implicitDefEqProofs := false }) (disch := omega) only [allW, allR, oneOf, evalAll, partsA, optA, Nat.reduceLT, Nat.reduceLeDiff, Nat.reduceEqDiff, Nat.reduceAdd, ↓reduceIte, hn, ext0F, ext1F, ext2F, build12 Try.underlying22 szU8 zU8]
  refine wstep_newSlice rfl ?_
  intro x7 s8 hx7 _ _
  have hx7 : Own s8 1 x7 ([120, 1, 1, 1, 0, 254, 255, 97, 0, 0, 0, 0] : List UInt8).length (ofBytes [120, 1, 1, 1, 0, 254, 255, 97, 0, 0, 0, 0]) := hx7
  simp (config := { maxSteps := 1000000, implicitDefEqProofs := false }) (disch := omega) only [allW, allR, oneOf, evalAll, partsA, optA, Nat.reduceLT, Nat.reduceLeDiff, Nat.reduceEqDiff, Nat.reduceAdd, ↓reduceIte, hn]
  have r := zlibX_any s8 x7 _ 140 hx7.sees (by decide) 9 (by decide) (by decide)
  rw [show (9 : Int).toNat = 9 from rfl, v5] at r
  refine r.mono ?_
  rintro _ s9 ⟨rfl, -⟩
  simp (config := { maxSteps := 1000000, implicitDefEqProofs := false }) (disch := omega) only [allW, allR, oneOf, evalAll, partsA, optA, Nat.reduceLT, Nat.reduceLeDiff, Nat.reduceEqDiff, Nat.reduceAdd, ↓reduceIte, hn, ext0F, ext1F, ext2F, build3 Try.underlying22 szU8 zU8]
  refine wstep_newSlice rfl ?_
  intro x9 s10 hx9 _ _
  have hx9 : Own s10 1 x9 ([75, 4, 0] : List UInt8).length (ofBytes [75, 4, 0]) := hx9
  simp (config := { maxSteps := 1000000, implicitDefEqProofs := false }) (disch := omega) only [allW, allR, oneOf, evalAll, partsA, optA, Nat.reduceLT, Nat.reduceLeDiff, Nat.reduceEqDiff, Nat.reduceAdd, ↓reduceIte, hn]
  have r := blocksP_any noLx s10 x9 _ 40 hx9.sees (by decide) 9 (by decide) (by decide)
  rw [show (9 : Int).toNat = 9 from rfl, v6] at r
  refine r.mono ?_
  rintro _ s11 ⟨o, rfl, ho, -, -⟩
  have hst := ho.sees.str (P := Try.prog) (dst := 9) Try.underlying22 Try.underlying9 Try.underlying5
  simp (config := { maxSteps := 1000000, implicitDefEqProofs := false }) (disch := omega) only [allW, allR, wfn_ret, wfn_normal, oneOf, evalAll, partsA, optA, Nat.reduceLT, Nat.reduceLeDiff, Nat.reduceEqDiff, Nat.reduceAdd, ↓reduceIte, undef, hn, ext0F, ext1F, ext2F, decide_true, (show (((18 + 7) / 8 : Nat) : Int) = 3 from rfl), (show ((4 : Nat) : Int) = 4 from rfl), (show ((2 : Nat) : Int) = 2 from rfl), (show ((7 : Nat) : Int) = 7 from rfl), (show ((10 : Nat) : Int) = 10 from rfl), hst, str_eql, Try.results6]
  rw [hQQ]
theorem own : ownKnob Try.prog.godebug = none := by kernel_rfl
theorem sound : progOk Try.prog [] = true := by kernel_rfl
set_option maxRecDepth 100000 in
theorem lifted (os : Os) (started : os.Started) (H : Type) (enc : TypeId × Value → H) :
    ReturnsInHanded {} Try.checked os 6 .any (Rows.inflateKnownSpec.pre6 enc Try.prog Try.f6 Rows.inflateKnownRow.domain false) (Rows.inflateKnownSpec.post enc Try.prog Try.f6 false true false false) := by
  refine returnsInHanded_of_change (C := Try.checked) own started (by kernel_rfl) Try.func6
    (ChangeSpec.witness6 (enc := enc) (C := Try.checked) false ⟨#[], #[], []⟩ 8 (by kernel_rfl) (by kernel_rfl) (by kernel_rfl) (by kernel_rfl)) ?_
  intro W base args ds gs before hval0 hW hcnd _
  have hW' := hW
  obtain ⟨p, q, hA0, hV, rfl, hfz, hnd⟩ := hW
  have hA : DataW.TrodAll enc Try.prog W 0 (fun _ => true) true Try.f6.params.toList args.toList ds p := hA0
  rw [Try.params6] at hA
  obtain ⟨rfl, rfl, rfl⟩ := trodAll_none hA
  obtain ⟨rfl, rfl⟩ := trodVars_none hV
  clear hA0 hval0
  simp only [List.append_nil] at hW'
  refine (Runs.calls sound (Begun.start W) (law _) (args' := #[]) VRL.nil).mono fun e W' ⟨he, hb⟩ => ?_
  subst he
  exact ⟨_, rfl, [], [], [], [], [], [], hW', trodAll_cons_mk (shut_bool Try.underlying4 _) trodAll_mk0, rfl, rfl, hb.frame _, fun h => by cases h⟩
theorem over : Rows.inflateKnownRow.holds Try.pinned (OpenSpec.ofChange Rows.inflateKnownSpec) :=
  OpenClaim.holds_of_wide 6 Try.f6 rfl rfl rfl rfl rfl rfl rfl ⟨rfl, rfl, rfl, rfl, rfl⟩ rfl rfl rfl rfl rfl (by kernel_rfl) Try.func6 (by kernel_rfl)
    (of_decide_eq_true (by kernel_rfl)) (by unfold Func.isWrapper; first | (rw [if_pos (by decide +kernel)]; kernel_rfl) | (rw [if_neg (by decide +kernel)]; exact ⟨rfl, rfl⟩))
    (fun os started H enc _ => lifted os started H enc)
theorem proved : Rows.InflateKnownSaid := over
#print axioms proved
end Go.Proofs.Ytnclklboogdoiaa.inflateKnown
