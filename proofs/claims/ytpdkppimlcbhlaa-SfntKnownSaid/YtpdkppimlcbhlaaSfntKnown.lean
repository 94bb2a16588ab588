/-
  The closed statement SfntKnown: the law returns true, whatever the world.
  Conditions: none.
-/
import Derived.Test.YtpdkppimlcbhlaaRows
import Derived.Test.YtpdkppimlcbhlaaStart
import Derived.Test.YtpdkppimlcbhlaaSfR
import Derived.ProofKit
import Derived.OpenShut
import Derived.KernelRfl
set_option linter.unusedSimpArgs false
set_option linter.unusedVariables false
set_option maxRecDepth 100000
namespace Go.Proofs.Ytpdkppimlcbhlaa.sfntKnown
open Go.ChangeShapes Go.WideShapes Go.ChangeAt Go.RowKit Go.Cl Go.Cl.Sf
theorem build3 {P : Program} {s : ASt} {t e : TypeId} {k : IntKind} {a b c : Int} (hu : P.underlying t = some (.slice e)) (hsz : sizeB P e = some 1) (hz : zeroB P e = some (.int k 0)) : buildSliceA P s t 3 [(0, .int k a), (1, .int k b), (2, .int k c)] = newSlice s [.int k a, .int k b, .int k c] 3 1 := by
  unfold buildSliceA; rw [hu]; simp only [hsz, hz]; rfl
theorem bs12 (s : ASt) : buildSliceA Try.prog s 27 12 [(0, .int .u8 0), (1, .int .u8 1), (2, .int .u8 0), (3, .int .u8 0), (4, .int .u8 0), (5, .int .u8 0), (6, .int .u8 0), (7, .int .u8 0), (8, .int .u8 0), (9, .int .u8 0), (10, .int .u8 0), (11, .int .u8 0)] = newSlice s (ofBytes [0, 1, 0, 0, 0, 0, 0, 0, 0, 0, 0, 0]) 12 1 := by
  unfold buildSliceA; rw [Try.underlying27]; simp only [szU8, zU8]; rfl
def F1 : Fnt := ⟨2048, 3, [0, 1024, 7], 1 :: List.replicate 255 0⟩
theorem v1 : fontX 8 (List.replicate 11 0) = .error 2 := by kernel_rfl
theorem v2 : fontX 8 (List.replicate 12 0) = .error 4 := by kernel_rfl
theorem v3 : fontX 8 [0, 1, 0, 0, 0, 0, 0, 0, 0, 0, 0, 0] = .error 8 := by kernel_rfl
theorem v4 : badMk 15 [1] [] := .inl (by decide)
theorem v5 : ¬ badMk 2048 [0, 1024, 7] [1] := by unfold badMk; decide
theorem v6 : fontX 8 (fontB 2048 [0, 1024, 7] [1]) = .ok F1 := by kernel_rfl
theorem v7 : (fontB 2048 [0, 1024, 7] [1]).length ≤ 1000 := by decide +kernel
set_option maxRecDepth 100000 in
set_option maxHeartbeats 8000000 in
theorem law (s : ASt) : Runs Try.prog libN 3 [] s fun v _ => v = .bool true := by
  refine Runs.enter 85 Try.func3 rfl rfl rfl rfl ?_
  intro f hn _
  have m11 : ∀ s, makeSliceA Try.prog s 27 (.int .i64 11) (.int .i64 11) = newSlice s (List.replicate 11 (.int .u8 0)) 11 1 := fun s => makeBytes s 11 (by omega)
  have m12 : ∀ s, makeSliceA Try.prog s 27 (.int .i64 12) (.int .i64 12) = newSlice s (List.replicate 12 (.int .u8 0)) 12 1 := fun s => makeBytes s 12 (by omega)
  simp (config := { maxSteps := 1000000, implicitDefEqProofs := false }) (disch := omega) only [allW, allR, oneOf, evalAll, partsA, optA, Nat.reduceLT, Nat.reduceLeDiff, Nat.reduceEqDiff, Nat.reduceAdd, ↓reduceIte, hn]
  refine (awake_any s).mono ?_
  rintro _ s1 ⟨rfl, hst1⟩
  simp (config := { maxSteps := 1000000, implicitDefEqProofs := false }) (disch := omega) only [allW, allR, oneOf, evalAll, partsA, optA, Nat.reduceLT, Nat.reduceLeDiff, Nat.reduceEqDiff, Nat.reduceAdd, ↓reduceIte, hn, m11]
  refine wstep_newSlice (by rfl) ?_
  intro a s2 ha _ _
  rw [← ofBytes_rep] at ha
  simp (config := { maxSteps := 1000000, implicitDefEqProofs := false }) (disch := omega) only [allW, allR, oneOf, evalAll, partsA, optA, Nat.reduceLT, Nat.reduceLeDiff, Nat.reduceEqDiff, Nat.reduceAdd, ↓reduceIte, hn]
  refine (read_any s2 a (List.replicate 11 0) ha.sees (Nat.le_of_ble_eq_true rfl)).mono ?_
  rintro v s3 ⟨hv, _⟩
  rw [v1] at hv
  rw [show v = _ from hv]
  clear hv
  simp (config := { maxSteps := 1000000, implicitDefEqProofs := false }) (disch := omega) only [allW, allR, oneOf, evalAll, partsA, optA, Nat.reduceLT, Nat.reduceLeDiff, Nat.reduceEqDiff, Nat.reduceAdd, ↓reduceIte, hn, extT0, extT1, m12]
  refine wstep_newSlice (by rfl) ?_
  intro a s4 ha _ _
  rw [← ofBytes_rep] at ha
  simp (config := { maxSteps := 1000000, implicitDefEqProofs := false }) (disch := omega) only [allW, allR, oneOf, evalAll, partsA, optA, Nat.reduceLT, Nat.reduceLeDiff, Nat.reduceEqDiff, Nat.reduceAdd, ↓reduceIte, hn]
  refine (read_any s4 a (List.replicate 12 0) ha.sees (Nat.le_of_ble_eq_true rfl)).mono ?_
  rintro v s5 ⟨hv, _⟩
  rw [v2] at hv
  rw [show v = _ from hv]
  clear hv
  simp (config := { maxSteps := 1000000, implicitDefEqProofs := false }) (disch := omega) only [allW, allR, oneOf, evalAll, partsA, optA, Nat.reduceLT, Nat.reduceLeDiff, Nat.reduceEqDiff, Nat.reduceAdd, ↓reduceIte, hn, extT0, extT1, bs12]
  refine wstep_newSlice (by rfl) ?_
  intro a s6 ha _ _
  simp (config := { maxSteps := 1000000, implicitDefEqProofs := false }) (disch := omega) only [allW, allR, oneOf, evalAll, partsA, optA, Nat.reduceLT, Nat.reduceLeDiff, Nat.reduceEqDiff, Nat.reduceAdd, ↓reduceIte, hn]
  refine (read_any s6 a [0, 1, 0, 0, 0, 0, 0, 0, 0, 0, 0, 0] ha.sees (Nat.le_of_ble_eq_true rfl)).mono ?_
  rintro v s7 ⟨hv, _⟩
  rw [v3] at hv
  rw [show v = _ from hv]
  clear hv
  simp (config := { maxSteps := 1000000, implicitDefEqProofs := false }) (disch := omega) only [allW, allR, oneOf, evalAll, partsA, optA, Nat.reduceLT, Nat.reduceLeDiff, Nat.reduceEqDiff, Nat.reduceAdd, ↓reduceIte, hn, extT0, extT1, build1 Try.underlying30 szInt zInt]
  refine wstep_newSlice (by rfl) ?_
  intro a s8 ha _ _
  simp (config := { maxSteps := 1000000, implicitDefEqProofs := false }) (disch := omega) only [allW, allR, oneOf, evalAll, partsA, optA, Nat.reduceLT, Nat.reduceLeDiff, Nat.reduceEqDiff, Nat.reduceAdd, ↓reduceIte, hn]
  refine (smake_any s8 15 a (.slice none 0 0) [1] [] ha.sees .nil (by decide) (by decide)).mono ?_
  rintro v s9 ⟨(⟨_, rfl⟩ | ⟨h, _⟩), _⟩
  rotate_left
  · exact absurd v4 h
  simp (config := { maxSteps := 1000000, implicitDefEqProofs := false }) (disch := omega) only [allW, allR, oneOf, evalAll, partsA, optA, Nat.reduceLT, Nat.reduceLeDiff, Nat.reduceEqDiff, Nat.reduceAdd, ↓reduceIte, hn, extT0, extT1, build3 Try.underlying30 szInt zInt]
  refine wstep_newSlice (by rfl) ?_
  intro a sa ha _ hsta
  simp (config := { maxSteps := 1000000, implicitDefEqProofs := false }) (disch := omega) only [allW, allR, oneOf, evalAll, partsA, optA, Nat.reduceLT, Nat.reduceLeDiff, Nat.reduceEqDiff, Nat.reduceAdd, ↓reduceIte, hn, build1 Try.underlying30 szInt zInt]
  refine wstep_newSlice (by rfl) ?_
  intro b sb hb _ hstb
  simp (config := { maxSteps := 1000000, implicitDefEqProofs := false }) (disch := omega) only [allW, allR, oneOf, evalAll, partsA, optA, Nat.reduceLT, Nat.reduceLeDiff, Nat.reduceEqDiff, Nat.reduceAdd, ↓reduceIte, hn]
  refine (smake_any sb 2048 a b [0, 1024, 7] [1] (ha.keeps hstb).sees hb.sees (by decide) (by decide)).mono ?_
  rintro v sc ⟨(⟨h, _⟩ | ⟨_, B, rfl, hB, _⟩), _⟩
  · exact absurd h v5
  simp (config := { maxSteps := 1000000, implicitDefEqProofs := false }) (disch := omega) only [allW, allR, oneOf, evalAll, partsA, optA, Nat.reduceLT, Nat.reduceLeDiff, Nat.reduceEqDiff, Nat.reduceAdd, ↓reduceIte, hn, extT0, extT1]
  refine (read_any sc B _ hB.sees (Nat.le_trans v7 (by decide))).mono ?_
  rintro v sd ⟨hv, _⟩
  rw [show Int.toNat 2048 = 2048 from rfl, v6] at hv
  obtain ⟨q, rfl, hq⟩ := hv
  have hF := fontX_ok v6
  simp (config := { maxSteps := 1000000, implicitDefEqProofs := false }) (disch := omega) only [allW, allR, oneOf, evalAll, partsA, optA, Nat.reduceLT, Nat.reduceLeDiff, Nat.reduceEqDiff, Nat.reduceAdd, ↓reduceIte, undef, hn, extT0, extT1, bin_eql, decide_true, (show ((2 : Nat) : Int) = 2 from rfl), (show ((4 : Nat) : Int) = 4 from rfl), (show ((8 : Nat) : Int) = 8 from rfl)]
  refine (advance_any _ sd q F1 0 hq hF).mono ?_
  rintro _ se ⟨rfl, hste⟩
  rw [show F1.advance 0 = 500 by decide +kernel]
  obtain ⟨_, w, g, hqt, hw, hg, _⟩ := hq.keeps hste
  have lm : loadA Try.prog se 33 (.pointer (some ⟨q, 0, some 5⟩)) = some (.agg #[.int .i64 (F1.units : Nat), .int .i64 (F1.glyphs : Nat), w]) := Thing.loadFirst agMet szMet hqt (c := 5) rfl (by simp)
  simp (config := { maxSteps := 1000000, implicitDefEqProofs := false }) (disch := omega) only [allW, allR, oneOf, evalAll, partsA, optA, Nat.reduceLT, Nat.reduceLeDiff, Nat.reduceEqDiff, Nat.reduceAdd, ↓reduceIte, undef, hn, bin_eql, decide_true, ff0, Nat.add_zero, lm]
  refine (width_any se _ F1 w 2 hw hF (by decide)).mono ?_
  rintro _ sf ⟨rfl, hstf⟩
  rw [show F1.width 2 = 7 by decide +kernel]
  have lm2 : loadA Try.prog sf 33 (.pointer (some ⟨q, 0, some 5⟩)) = some (.agg #[.int .i64 (F1.units : Nat), .int .i64 (F1.glyphs : Nat), w]) := Thing.loadFirst agMet szMet (hqt.keeps hstf) (c := 5) rfl (by simp)
  simp (config := { maxSteps := 1000000, implicitDefEqProofs := false }) (disch := omega) only [allW, allR, oneOf, evalAll, partsA, optA, Nat.reduceLT, Nat.reduceLeDiff, Nat.reduceEqDiff, Nat.reduceAdd, ↓reduceIte, undef, hn, bin_eql, decide_true, ff0, Nat.add_zero, lm2]
  refine (width_any sf _ F1 w 3 (hw.keeps hstf) hF (by decide)).mono ?_
  rintro _ sg ⟨rfl, _⟩
  rw [show F1.width 3 = -1 by decide +kernel]
  simp (config := { maxSteps := 1000000, implicitDefEqProofs := false }) (disch := omega) only [allW, allR, wfn_ret, wfn_normal, oneOf, evalAll, partsA, optA, Nat.reduceLT, Nat.reduceLeDiff, Nat.reduceEqDiff, Nat.reduceAdd, ↓reduceIte, undef, hn, bin_eql, decide_true, Try.results3]
theorem own : ownKnob Try.prog.godebug = none := by kernel_rfl
theorem sound : progOk Try.prog libN = true := by kernel_rfl
set_option maxRecDepth 100000 in
theorem lifted (os : Os) (started : os.Started) (H : Type) (enc : TypeId × Value → H) :
    ReturnsInHanded {} Try.checked os 3 .any (Rows.sfntKnownSpec.pre6 enc Try.prog Try.f3 Rows.sfntKnownRow.domain false) (Rows.sfntKnownSpec.post enc Try.prog Try.f3 false true false false) := by
  refine returnsInHanded_of_change (C := Try.checked) own started (by kernel_rfl) Try.func3
    (ChangeSpec.witness6 (enc := enc) (C := Try.checked) false ⟨#[], #[], []⟩ 8 (by kernel_rfl) (by kernel_rfl) (by kernel_rfl) (by kernel_rfl)) ?_
  intro W base args ds gs before hval0 hW hcnd _
  have hW' := hW
  obtain ⟨p, q, hA0, hV, rfl, hfz, hnd⟩ := hW
  have hA : DataW.TrodAll enc Try.prog W 0 (fun _ => true) true Try.f3.params.toList args.toList ds p := hA0
  rw [Try.params3] at hA
  obtain ⟨rfl, rfl, rfl⟩ := trodAll_none hA
  obtain ⟨rfl, rfl⟩ := trodVars_none hV
  clear hA0 hval0
  simp only [List.append_nil] at hW'
  refine (Runs.callsL libFr (libOk _) sound rfl (Begun.start W) (law _) (args' := #[]) VRL.nil).mono fun e W' ⟨he, hb⟩ => ?_
  subst he
  exact ⟨_, rfl, [], [], [], [], [], [], hW', trodAll_cons_mk (shut_bool Try.underlying4 _) trodAll_mk0, rfl, rfl, hb.frame _, fun h => by cases h⟩

theorem over : Rows.sfntKnownRow.holds Try.pinned (OpenSpec.ofChange Rows.sfntKnownSpec) :=
  OpenClaim.holds_of_wide 3 Try.f3 rfl rfl rfl rfl rfl rfl rfl ⟨rfl, rfl, rfl, rfl, rfl⟩ rfl rfl rfl rfl rfl (by kernel_rfl) Try.func3 (by kernel_rfl)
    (of_decide_eq_true (by kernel_rfl)) (by unfold Func.isWrapper; first | (rw [if_pos (by decide +kernel)]; kernel_rfl) | (rw [if_neg (by decide +kernel)]; exact ⟨rfl, rfl⟩))
    (fun os started H enc _ => lifted os started H enc)

/-- THE STATEMENT. -/
theorem proved : Rows.SfntKnownSaid := over
#print axioms proved
end Go.Proofs.Ytpdkppimlcbhlaa.sfntKnown
