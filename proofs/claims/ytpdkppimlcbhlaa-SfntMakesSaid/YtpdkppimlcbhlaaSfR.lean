/-
  Fonts in tables: the law's awake.
-/
import Derived.Test.YtpdkppimlcbhlaaSfQ
set_option linter.unusedSimpArgs false
set_option linter.unusedVariables false
set_option maxRecDepth 100000
namespace Go.Cl.Sf
def F0 : Fnt := ⟨1000, 2, [0, 500], 0 :: 1 :: List.replicate 254 0⟩
theorem font0 : fontX 8 (fontB 1000 [0, 500] [0, 1]) = .ok F0 := by kernel_rfl
theorem good0 : ¬ badMk 1000 [0, 500] [0, 1] := by unfold badMk; decide
theorem len0 : (fontB 1000 [0, 500] [0, 1]).length ≤ 1000 := by decide +kernel
end Go.Cl.Sf
namespace Go.Proofs.Ytpdkppimlcbhlaa
open Go.Cl Go.Cl.Sf
theorem neq_pn {t e : TypeId} (hu : Try.prog.underlying t = some (.pointer e)) (q : Nat) : binA Try.prog .neq t (fptr q) (.pointer none) = some (.bool true) := neq_pnil hu _
theorem awake_any (s : ASt) :
    Runs Try.prog libN 7 [] s fun v s' => v = .bool true ∧ Stay s.next s s' := by
  refine Runs.enter 41 Try.func7 rfl rfl rfl rfl ?_
  intro f hn hf
  clear hf
  simp (config := { maxSteps := 1000000, implicitDefEqProofs := false }) (disch := omega) only [allW, allR, oneOf, evalAll, partsA, optA, Nat.reduceLT, Nat.reduceLeDiff, Nat.reduceEqDiff, Nat.reduceAdd, ↓reduceIte, hn, build2 Try.underlying30 szInt zInt]
  refine wstep_newSlice (by rfl) ?_
  intro a s1 ha haF hst1
  simp (config := { maxSteps := 1000000, implicitDefEqProofs := false }) (disch := omega) only [allW, allR, oneOf, evalAll, partsA, optA, Nat.reduceLT, Nat.reduceLeDiff, Nat.reduceEqDiff, Nat.reduceAdd, ↓reduceIte, hn, build2 Try.underlying30 szInt zInt]
  refine wstep_newSlice (by rfl) ?_
  intro b s2 hb hbF hst2
  simp (config := { maxSteps := 1000000, implicitDefEqProofs := false }) (disch := omega) only [allW, allR, oneOf, evalAll, partsA, optA, Nat.reduceLT, Nat.reduceLeDiff, Nat.reduceEqDiff, Nat.reduceAdd, ↓reduceIte, hn]
  refine (smake_any s2 1000 a b [0, 500] [0, 1] (ha.keeps hst2).sees hb.sees (by decide) (by decide)).mono ?_
  rintro v s3 ⟨(⟨hbad, _⟩ | ⟨_, B, rfl, hB, hBF⟩), hst3⟩
  · exact absurd hbad good0
  simp (config := { maxSteps := 1000000, implicitDefEqProofs := false }) (disch := omega) only [allW, allR, oneOf, evalAll, partsA, optA, Nat.reduceLT, Nat.reduceLeDiff, Nat.reduceEqDiff, Nat.reduceAdd, ↓reduceIte, hn, extT0, extT1]
  refine (read_any s3 B _ hB.sees (Nat.le_trans len0 (by decide))).mono ?_
  rintro v s4 ⟨hv, hst4⟩
  rw [show Int.toNat 1000 = 1000 from rfl, font0] at hv
  obtain ⟨q, rfl, hq⟩ := hv
  have hF := fontX_ok font0
  simp (config := { maxSteps := 1000000, implicitDefEqProofs := false }) (disch := omega) only [allW, allR, oneOf, evalAll, partsA, optA, Nat.reduceLT, Nat.reduceLeDiff, Nat.reduceEqDiff, Nat.reduceAdd, ↓reduceIte, undef, hn, extT0, extT1, neq_pn Try.underlying23]
  refine (glyph_any _ s4 q F0 1 hq hF).mono ?_
  rintro _ s5 ⟨rfl, hs⟩; subst hs
  rw [show F0.glyph 1 = 1 by decide +kernel]
  simp (config := { maxSteps := 1000000, implicitDefEqProofs := false }) (disch := omega) only [allW, allR, oneOf, evalAll, partsA, optA, Nat.reduceLT, Nat.reduceLeDiff, Nat.reduceEqDiff, Nat.reduceAdd, ↓reduceIte, undef, hn]
  refine (advance_any _ s5 q F0 1 hq hF).mono ?_
  rintro _ s6 ⟨rfl, hst6⟩
  rw [show F0.advance 1 = 500 by decide +kernel]
  simp (config := { maxSteps := 1000000, implicitDefEqProofs := false }) (disch := omega) only [allW, allR, oneOf, evalAll, partsA, optA, Nat.reduceLT, Nat.reduceLeDiff, Nat.reduceEqDiff, Nat.reduceAdd, ↓reduceIte, undef, hn]
  refine (advance_any _ s6 q F0 256 (hq.keeps hst6) hF).mono ?_
  rintro _ s7 ⟨rfl, hst7⟩
  rw [show F0.advance 256 = -1 by decide +kernel]
  simp (config := { maxSteps := 1000000, implicitDefEqProofs := false }) (disch := omega) only [allW, allR, wfn_ret, wfn_normal, oneOf, evalAll, partsA, optA, Nat.reduceLT, Nat.reduceLeDiff, Nat.reduceEqDiff, Nat.reduceAdd, ↓reduceIte, undef, hn, Try.results7]
  exact ((((hst1.trans (hst2.weaken hst1.next)).trans (hst3.weaken (by have := hst1.next; have := hst2.next; omega))).trans (hst4.weaken (by have := hst1.next; have := hst2.next; have := hst3.next; omega))).trans (hst6.weaken (by have := hst1.next; have := hst2.next; have := hst3.next; have := hst4.next; omega))).trans (hst7.weaken (by have := hst1.next; have := hst2.next; have := hst3.next; have := hst4.next; have := hst6.next; omega))
end Go.Proofs.Ytpdkppimlcbhlaa
