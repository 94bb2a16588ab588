/-
  The statement InflateZlib: any bytes, read as wrapped blocks by the program and by the document's own reader, within any bound, come to the same: what comes, of how many bytes, or what is wrong first: the law returns true.
  Conditions: none.
-/
import Derived.Test.YtnclklboogdoiaaRows
import Derived.Test.YtnclklboogdoiaaStart
import Derived.Test.YtnclklboogdoiaaNfZ
set_option linter.unusedSimpArgs false
set_option linter.unusedVariables false
set_option maxRecDepth 100000
namespace Go.Proofs.Ytnclklboogdoiaa.inflateZlib
open Go.ChangeShapes Go.WideShapes Go.ChangeAt Go.RowKit Go.Cl Go.Cl.Sto Go.Cl.Rw Go.Cl.Fx Go.Cl.Nf
theorem awake1 : answersTrue (acall Try.prog [] 100000 10 [] ⟨.nil, 1⟩) = true := by kernel_rfl
set_option maxRecDepth 100000 in
set_option maxHeartbeats 8000000 in
theorem law (s : ASt) (x : Value) (D : List UInt8) (most : Int) (hw : WF s) (hk : s.next = 1) (hx : Sees s 1 x D.length (ofBytes D)) (_ : (Lit.int .i64 most).wf = true) :
    Runs Try.prog [] 7 [x, .int .i64 most] s fun v _ => v = .bool true := by
  obtain ⟨QQ, hQQ⟩ : ∃ QQ : Value → ASt → Prop, QQ = fun v _ => v = .bool true := ⟨_, rfl⟩
  rw [← hQQ]
  refine Runs.enter 47 Try.func7 rfl rfl rfl rfl ?_
  intro f hn hf
  have h0 : f.get 0 = x := hf 0
  have h1 : f.get 1 = .int .i64 most := hf 1
  clear hf
  simp (config := { maxSteps := 1000000, implicitDefEqProofs := false }) (disch := omega) only [allW, allR, oneOf, evalAll, partsA, optA, Nat.reduceLT, Nat.reduceLeDiff, Nat.reduceEqDiff, Nat.reduceAdd, ↓reduceIte, hn, h0, h1]
  refine (Runs.closed LibFr.nil awake1 hk hw).mono ?_
  rintro _ s1 ⟨rfl, k1, _⟩
  have hx1 := hx.keeps k1
  by_cases hbig : (D.length : Int) > 1500
  · simp (config := { maxSteps := 1000000, implicitDefEqProofs := false }) (disch := omega) only [allW, allR, wfn_ret, wfn_normal, oneOf, evalAll, partsA, optA, Nat.reduceLT, Nat.reduceLeDiff, Nat.reduceEqDiff, Nat.reduceAdd, ↓reduceIte, undef, hn, h0, h1, Bool.not_true, hx1.lenA Try.underlying22, eq_true hbig, decide_true, Try.results7]
    rw [hQQ]
  by_cases hm : most > 1048576
  · simp (config := { maxSteps := 1000000, implicitDefEqProofs := false }) (disch := omega) only [allW, allR, wfn_ret, wfn_normal, oneOf, evalAll, partsA, optA, Nat.reduceLT, Nat.reduceLeDiff, Nat.reduceEqDiff, Nat.reduceAdd, ↓reduceIte, undef, hn, h0, h1, Bool.not_true, hx1.lenA Try.underlying22, eq_false hbig, eq_true hm, decide_false, decide_true, Try.results7]
    rw [hQQ]
  simp (config := { maxSteps := 1000000, implicitDefEqProofs := false }) (disch := omega) only [allW, allR, oneOf, evalAll, partsA, optA, Nat.reduceLT, Nat.reduceLeDiff, Nat.reduceEqDiff, Nat.reduceAdd, ↓reduceIte, undef, hn, h0, h1, Bool.not_true, hx1.lenA Try.underlying22, eq_false hbig, eq_false hm, decide_false]
  refine (zlibX_any s1 x D (8 * D.length + 2) hx1 (by omega) most (by omega) (by omega)).mono ?_
  intro v s2 hP
  have hc2 : Sees s2 1 x D.length (ofBytes D) ∧ ∃ a b c, v = .tuple #[a, b, c] := by
    cases hi : zlibX (8 * D.length + 2) D most.toNat with
    | error e => rw [hi] at hP; exact ⟨hx1.keeps hP.2, _, _, _, hP.1⟩
    | ok y => obtain ⟨q, P⟩ := y; rw [hi] at hP; obtain ⟨o, rfl, -, -, k⟩ := hP; exact ⟨hx1.keeps k, _, _, _, rfl⟩
  obtain ⟨hx2, a, b, c, rfl⟩ := hc2
  simp (config := { maxSteps := 1000000, implicitDefEqProofs := false }) (disch := omega) only [allW, allR, oneOf, evalAll, partsA, optA, Nat.reduceLT, Nat.reduceLeDiff, Nat.reduceEqDiff, Nat.reduceAdd, ↓reduceIte, undef, hn, h0, h1, ext0F, ext1F, ext2F]
  refine (unzlibX_any s2 x D (8 * D.length + 2) hx2 (by omega) most (by omega) (by omega)).mono ?_
  intro v s3 hR
  cases hi : zlibX (8 * D.length + 2) D most.toNat with
  | error e =>
    rw [hi] at hP hR
    obtain ⟨hP, k2⟩ := hP
    obtain ⟨rfl, k3⟩ := hR
    injection hP with hP
    injection hP with hP
    injection hP with e1 hP
    injection hP with e2 hP
    injection hP with e3 hP
    subst e1 e2 e3
    simp (config := { maxSteps := 1000000, implicitDefEqProofs := false }) (disch := omega) only [allW, allR, oneOf, evalAll, partsA, optA, Nat.reduceLT, Nat.reduceLeDiff, Nat.reduceEqDiff, Nat.reduceAdd, ↓reduceIte, undef, hn, h0, h1, ext0F, ext1F, ext2F, decide_true]
    refine (same_any rfl s3 _ _ [] [] .nil .nil (by decide) (by decide)).mono ?_
    rintro _ s4 ⟨rfl, rfl⟩
    simp (config := { maxSteps := 1000000, implicitDefEqProofs := false }) (disch := omega) only [allW, allR, wfn_ret, wfn_normal, oneOf, evalAll, partsA, optA, Nat.reduceLT, Nat.reduceLeDiff, Nat.reduceEqDiff, Nat.reduceAdd, ↓reduceIte, undef, hn, h0, decide_true, Try.results7]
    rw [hQQ]
  | ok y =>
    obtain ⟨q, P⟩ := y
    rw [hi] at hP hR
    have hle := zlibX_le hi
    obtain ⟨o, hP, ho, -, k2⟩ := hP
    obtain ⟨o2, rfl, ho2, -, k3⟩ := hR
    injection hP with hP
    injection hP with hP
    injection hP with e1 hP
    injection hP with e2 hP
    injection hP with e3 hP
    subst e1 e2 e3
    simp (config := { maxSteps := 1000000, implicitDefEqProofs := false }) (disch := omega) only [allW, allR, oneOf, evalAll, partsA, optA, Nat.reduceLT, Nat.reduceLeDiff, Nat.reduceEqDiff, Nat.reduceAdd, ↓reduceIte, undef, hn, h0, h1, ext0F, ext1F, ext2F, decide_true]
    refine (same_any rfl s3 _ _ P P (ho.keeps k3).sees ho2.sees (by omega) (by omega)).mono ?_
    rintro _ s4 ⟨rfl, rfl⟩
    simp (config := { maxSteps := 1000000, implicitDefEqProofs := false }) (disch := omega) only [allW, allR, wfn_ret, wfn_normal, oneOf, evalAll, partsA, optA, Nat.reduceLT, Nat.reduceLeDiff, Nat.reduceEqDiff, Nat.reduceAdd, ↓reduceIte, undef, hn, h0, decide_true, Try.results7]
    rw [hQQ]
theorem own : ownKnob Try.prog.godebug = none := by kernel_rfl
theorem sound : progOk Try.prog [] = true := by kernel_rfl
theorem laid : laidOutB Try.prog = true := by kernel_rfl
theorem read : ∀ t ∈ Try.f7.params.toList, Try.prog.readableRec t = true ∧ t < Try.prog.types.size := by
  have : (Try.f7.params.toList.all fun t => Try.prog.readableRec t && decide (t < Try.prog.types.size)) = true := by kernel_rfl
  intro t ht
  simpa using List.all_eq_true.mp this t ht
theorem cellsu8 : Try.prog.cellsOf 5 = 1 := by kernel_rfl
set_option maxRecDepth 100000 in
theorem lifted (os : Os) (started : os.Started) (H : Type) (enc : TypeId × Value → H) :
    ReturnsInHanded {} Try.checked os 7 .any (Rows.inflateZlibSpec.pre6 enc Try.prog Try.f7 Rows.inflateZlibRow.domain false) (Rows.inflateZlibSpec.post enc Try.prog Try.f7 false true false false) := by
  refine returnsInHanded_of_change (C := Try.checked) own started (by kernel_rfl) Try.func7
    (ChangeSpec.witness6 (enc := enc) (C := Try.checked) false ⟨#[], #[.slice none 0 0, .int .i64 0], []⟩ 8 (by kernel_rfl) (by kernel_rfl) (by kernel_rfl) (by kernel_rfl)) ?_
  intro W base args ds gs before hval hW hcnd _
  obtain ⟨p, q, hA, _, _, _, _⟩ := id hW
  have hA : DataW.TrodAll enc Try.prog W 0 (fun _ => true) true Try.f7.params.toList args.toList ds p := hA
  rw [Try.params7] at hA
  obtain ⟨v0, v1, d0, d1, p0, p1, rfl, rfl, rfl, h0, h1⟩ := trodAll_two hA
  have hv0 : Value.okWide Try.prog W .any base 22 v0 := hval 0 _ _ (by rw [Try.params7]; rfl) rfl
  have hv1 : Value.okWide Try.prog W .any base 3 v1 := hval 1 _ _ (by rw [Try.params7]; rfl) rfl
  obtain ⟨S0, x0, l0, hj0, hx0⟩ := (Begun.start W).bytes Try.underlying22 Try.underlying5 cellsu8 hv0 h0
  obtain ⟨n1, rfl, _, _, hz1⟩ := open_int Try.underlying3 hv1 h1
  have hcalls := Runs.calls sound hj0.begun (law S0.s x0 l0 n1 hj0.begun.sr.wf (by rw [hj0.next]; rfl) hx0 hz1) (args' := #[v0, .int .i64 n1]) (VRL.cons hj0.vr (VRL.cons (.int _ _) VRL.nil))
  refine hcalls.mono fun e W' ⟨he, hb⟩ => ?_
  subst he
  exact law_post laid read rfl Try.underlying4 rfl (fun L hL => by match L, hL with | [a0, a1], _ => rfl) hW hb
theorem over : Rows.inflateZlibRow.holds Try.pinned (OpenSpec.ofChange Rows.inflateZlibSpec) :=
  OpenClaim.holds_of_wide 7 Try.f7 rfl rfl rfl rfl rfl rfl rfl ⟨rfl, rfl, rfl, rfl, rfl⟩ rfl rfl rfl rfl rfl (by kernel_rfl) Try.func7 (by kernel_rfl)
    (of_decide_eq_true (by kernel_rfl)) (by unfold Func.isWrapper; first | (rw [if_pos (by decide +kernel)]; kernel_rfl) | (rw [if_neg (by decide +kernel)]; exact ⟨rfl, rfl⟩))
    (fun os started H enc _ => lifted os started H enc)
theorem proved : Rows.InflateZlibSaid := over
#print axioms proved
end Go.Proofs.Ytnclklboogdoiaa.inflateZlib
