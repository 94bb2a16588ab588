/-
  The statement SfntReads: any bytes are read as the same font by the program and by the reference, each code's glyph and width, or refused alike: the law returns true.
  Conditions: none.
-/
import Derived.Test.YtpdkppimlcbhlaaRows
import Derived.Test.YtpdkppimlcbhlaaStart
import Derived.Test.YtpdkppimlcbhlaaSfR
set_option linter.unusedSimpArgs false
set_option linter.unusedVariables false
set_option maxRecDepth 100000
namespace Go.Cl.Sf
theorem fontX_err2 {b : List UInt8} {e : Nat} (h : fontX 8 b = .error e) : e = 2 ∨ e = 4 ∨ e = 8 := by
  unfold fontX at h
  split at h
  · rename_i e' he
    injection h with h
    subst h
    have := tabsX_err he
    omega
  split at h
  · split at h
    · injection h with h; omega
    split at h
    · rename_i e' he
      injection h with h
      subst h
      have := cmapX_err he
      omega
    · cases h
  · injection h with h; omega
end Go.Cl.Sf
namespace Go.Proofs.Ytpdkppimlcbhlaa.sfntReads
open Go.ChangeShapes Go.WideShapes Go.ChangeAt Go.RowKit Go.Cl Go.Cl.Sf
set_option maxHeartbeats 4000000 in
theorem law (s : ASt) (x : Value) (l : List UInt8) (hw : WF s) (hk : s.next = 1) (hx : Sees s 1 x l.length (ofBytes l)) :
    Runs Try.prog libN 4 [x] s fun v _ => v = .bool true := by
  refine Runs.enter 38 Try.func4 rfl rfl rfl rfl ?_
  intro f hn hf
  have h0 : f.get 0 = x := hf 0
  clear hf
  simp (config := { maxSteps := 1000000, implicitDefEqProofs := false }) (disch := omega) only [allW, allR, oneOf, evalAll, partsA, optA, Nat.reduceLT, Nat.reduceLeDiff, Nat.reduceEqDiff, Nat.reduceAdd, ↓reduceIte, hn, h0]
  refine (awake_any s).mono ?_
  rintro _ s1 ⟨rfl, hst1⟩
  have hx1 := hx.keeps hst1
  by_cases c1 : (3000 : Int) < (l.length : Int)
  · simp (config := { maxSteps := 1000000, implicitDefEqProofs := false }) (disch := omega) only [allW, allR, wfn_ret, wfn_normal, oneOf, evalAll, partsA, optA, Nat.reduceLT, Nat.reduceLeDiff, Nat.reduceEqDiff, Nat.reduceAdd, ↓reduceIte, hn, h0, hx1.lenA Try.underlying27, eq_true c1, Try.results4]
  simp (config := { maxSteps := 1000000, implicitDefEqProofs := false }) (disch := omega) only [allW, allR, oneOf, evalAll, partsA, optA, Nat.reduceLT, Nat.reduceLeDiff, Nat.reduceEqDiff, Nat.reduceAdd, ↓reduceIte, hn, h0, hx1.lenA Try.underlying27, eq_false c1]
  refine (read_any s1 x l hx1 (by omega)).mono ?_
  rintro v s2 ⟨hv, hst2⟩
  cases hr : fontX 8 l with
  | error e =>
    rw [hr] at hv
    rw [show v = _ from hv]
    simp (config := { maxSteps := 1000000, implicitDefEqProofs := false }) (disch := omega) only [allW, allR, oneOf, evalAll, partsA, optA, Nat.reduceLT, Nat.reduceLeDiff, Nat.reduceEqDiff, Nat.reduceAdd, ↓reduceIte, hn, h0, extT0, extT1]
    refine (rreadfont_any s2 x l (hx1.keeps hst2) (by omega)).mono ?_
    rintro v2 s3 ⟨hv2, hst3⟩
    rw [hr] at hv2
    rw [show v2 = _ from hv2]
    have he := fontX_err2 hr
    have d : ((e : Nat) : Int) ≠ 0 := by omega
    have ep : binA Try.prog .eql 23 (.pointer none) (.pointer none) = some (.bool true) := by simp [binA, nilEq, Try.underlying23]
    simp (config := { maxSteps := 1000000, implicitDefEqProofs := false }) (disch := omega) only [allW, allR, wfn_ret, wfn_normal, oneOf, evalAll, partsA, optA, Nat.reduceLT, Nat.reduceLeDiff, Nat.reduceEqDiff, Nat.reduceAdd, ↓reduceIte, undef, hn, h0, extT0, extT1, bin_neq, bin_eql, decide_eq_true d, ep, decide_true, Try.results4]
  | ok F =>
    rw [hr] at hv
    obtain ⟨p, rfl, hp⟩ := hv
    simp (config := { maxSteps := 1000000, implicitDefEqProofs := false }) (disch := omega) only [allW, allR, oneOf, evalAll, partsA, optA, Nat.reduceLT, Nat.reduceLeDiff, Nat.reduceEqDiff, Nat.reduceAdd, ↓reduceIte, hn, h0, extT0, extT1]
    refine (rreadfont_any s2 x l (hx1.keeps hst2) (by omega)).mono ?_
    rintro v2 s3 ⟨hv2, hst3⟩
    rw [hr] at hv2
    obtain ⟨q, rfl, hq⟩ := hv2
    have d : ¬ (0 : Int) ≠ 0 := by decide
    simp (config := { maxSteps := 1000000, implicitDefEqProofs := false }) (disch := omega) only [allW, allR, oneOf, evalAll, partsA, optA, Nat.reduceLT, Nat.reduceLeDiff, Nat.reduceEqDiff, Nat.reduceAdd, ↓reduceIte, undef, hn, h0, extT0, extT1, bin_neq, decide_eq_false d]
    refine (look_any _ _ s3 p q F (hp.keeps hst3) hq (fontX_ok hr)).mono ?_
    rintro _ s4 ⟨rfl, _⟩
    simp (config := { maxSteps := 1000000, implicitDefEqProofs := false }) (disch := omega) only [allW, allR, wfn_ret, wfn_normal, oneOf, evalAll, partsA, optA, Nat.reduceLT, Nat.reduceLeDiff, Nat.reduceEqDiff, Nat.reduceAdd, ↓reduceIte, undef, hn, Try.results4]
theorem own : ownKnob Try.prog.godebug = none := by kernel_rfl
theorem sound : progOk Try.prog libN = true := by kernel_rfl
theorem laid : laidOutB Try.prog = true := by kernel_rfl
theorem read : ∀ t ∈ Try.f4.params.toList, Try.prog.readableRec t = true ∧ t < Try.prog.types.size := by
  have : (Try.f4.params.toList.all fun t => Try.prog.readableRec t && decide (t < Try.prog.types.size)) = true := by kernel_rfl
  intro t ht
  simpa using List.all_eq_true.mp this t ht
theorem cellsu8 : Try.prog.cellsOf 5 = 1 := by kernel_rfl
set_option maxRecDepth 100000 in
theorem lifted (os : Os) (started : os.Started) (H : Type) (enc : TypeId × Value → H) :
    ReturnsInHanded {} Try.checked os 4 .any (Rows.sfntReadsSpec.pre6 enc Try.prog Try.f4 Rows.sfntReadsRow.domain false) (Rows.sfntReadsSpec.post enc Try.prog Try.f4 false true false false) := by
  refine returnsInHanded_of_change (C := Try.checked) own started (by kernel_rfl) Try.func4
    (ChangeSpec.witness6 (enc := enc) (C := Try.checked) false ⟨#[], #[.slice none 0 0], []⟩ 8 (by kernel_rfl) (by kernel_rfl) (by kernel_rfl) (by kernel_rfl)) ?_
  intro W base args ds gs before hval hW hcnd _
  obtain ⟨p, q, hA, _, _, _, _⟩ := id hW
  have hA : DataW.TrodAll enc Try.prog W 0 (fun _ => true) true Try.f4.params.toList args.toList ds p := hA
  rw [Try.params4] at hA
  obtain ⟨v0, d0, rfl, rfl, h0⟩ := trodAll_one hA
  have hv0 : Value.okWide Try.prog W .any base 27 v0 := hval 0 _ _ (by rw [Try.params4]; rfl) rfl
  obtain ⟨S0, x0, l0, hj0, hx0⟩ := (Begun.start W).bytes Try.underlying27 Try.underlying5 cellsu8 hv0 h0
  have hcalls := Runs.callsL libFr (libOk _) sound rfl hj0.begun (law S0.s x0 l0 hj0.begun.sr.wf (by rw [hj0.next]; rfl) hx0) (args' := #[v0]) (VRL.cons hj0.vr VRL.nil)
  refine hcalls.mono fun e W' ⟨he, hb⟩ => ?_
  subst he
  exact law_post laid read rfl Try.underlying4 rfl (fun L hL => by match L, hL with | [a0], _ => rfl) hW hb

theorem over : Rows.sfntReadsRow.holds Try.pinned (OpenSpec.ofChange Rows.sfntReadsSpec) :=
  OpenClaim.holds_of_wide 4 Try.f4 rfl rfl rfl rfl rfl rfl rfl ⟨rfl, rfl, rfl, rfl, rfl⟩ rfl rfl rfl rfl rfl (by kernel_rfl) Try.func4 (by kernel_rfl)
    (of_decide_eq_true (by kernel_rfl)) (by unfold Func.isWrapper; first | (rw [if_pos (by decide +kernel)]; kernel_rfl) | (rw [if_neg (by decide +kernel)]; exact ⟨rfl, rfl⟩))
    (fun os started H enc _ => lifted os started H enc)

/-- THE STATEMENT. -/
theorem proved : Rows.SfntReadsSaid := over
#print axioms proved
end Go.Proofs.Ytpdkppimlcbhlaa.sfntReads
