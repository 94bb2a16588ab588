/-
  The statement DeflateWrites: any bytes, as stored blocks, by the fixed codes, and wrapped, are written bit for bit as the document says: the law returns true.
  Conditions: none.
-/
import Derived.Test.YtdebapkgofddiaaRows
import Derived.Test.YtdebapkgofddiaaStart
import Derived.Test.YtdebapkgofddiaaZlb
set_option linter.unusedSimpArgs false
set_option linter.unusedVariables false
namespace Go.Proofs.Ytdebapkgofddiaa.deflateWrites
open Go.ChangeShapes Go.WideShapes Go.ChangeAt Go.RowKit Go.Cl Go.Cl.Sto Go.Cl.Rw Go.Cl.Fx

theorem awake1 : answersTrue (acall Try.prog libN 100000 9 [] ⟨.nil, 1⟩) = true := by kernel_rfl
set_option maxRecDepth 100000 in
set_option maxHeartbeats 8000000 in
theorem law (s : ASt) (x : Value) (l : List UInt8) (hw : WF s) (hk : s.next = 1) (hx : Sees s 1 x l.length (ofBytes l)) :
    Runs Try.prog libN 6 [x] s fun v _ => v = .bool true := by
  obtain ⟨QQ, hQQ⟩ : ∃ QQ : Value → ASt → Prop, QQ = fun v _ => v = .bool true := ⟨_, rfl⟩
  rw [← hQQ]
  refine Runs.enter 27 Try.func6 rfl rfl rfl rfl ?_
  intro f hn hf
  have h0 : f.get 0 = x := hf 0
  clear hf
  simp (config := { maxSteps := 1000000, implicitDefEqProofs := false }) (disch := omega) only [allW, allR, oneOf, evalAll, partsA, optA, Nat.reduceLT, Nat.reduceLeDiff, Nat.reduceEqDiff, Nat.reduceAdd, ↓reduceIte, hn, h0]
  refine (Runs.closed libFr awake1 hk hw).mono ?_
  rintro _ s1 ⟨rfl, k1, _⟩
  have hx1 := hx.keeps k1
  by_cases hbig : (l.length : Int) > 2000
  · simp (config := { maxSteps := 1000000, implicitDefEqProofs := false }) (disch := omega) only [allW, allR, wfn_ret, wfn_normal, oneOf, evalAll, partsA, optA, Nat.reduceLT, Nat.reduceLeDiff, Nat.reduceEqDiff, Nat.reduceAdd, ↓reduceIte, hn, h0, Bool.not_true, hx1.lenA Try.underlying24, eq_true hbig, Try.results6]
    rw [hQQ]
  have hfl := fixed_length l
  have hsl := sto_length _ l (Nat.le_refl _)
  have hbk : blocks l.length ≤ 2 := by unfold blocks; omega
  have hzl := zbody_le l
  have hzz : (zlb l).length = (zbody l).length + 6 := by unfold zlb; simp [be_length]
  simp (config := { maxSteps := 1000000, implicitDefEqProofs := false }) (disch := omega) only [allW, allR, oneOf, evalAll, partsA, optA, Nat.reduceLT, Nat.reduceLeDiff, Nat.reduceEqDiff, Nat.reduceAdd, ↓reduceIte, undef, hn, h0, Bool.not_true, hx1.lenA Try.underlying24, eq_false hbig]
  refine (stored_any (lib := libN) rfl rfl s1 x l hx1 (by omega)).mono ?_
  rintro a s2 ⟨hA, -, k2⟩
  have hx2 := hx1.keeps k2
  simp (config := { maxSteps := 1000000, implicitDefEqProofs := false }) (disch := omega) only [allW, allR, oneOf, evalAll, partsA, optA, Nat.reduceLT, Nat.reduceLeDiff, Nat.reduceEqDiff, Nat.reduceAdd, ↓reduceIte, undef, hn, h0]
  refine (rstored_any (lib := libN) rfl s2 x l hx2 (by omega)).mono ?_
  rintro b s3 ⟨hB, -, k3⟩
  have hx3 := hx2.keeps k3
  simp (config := { maxSteps := 1000000, implicitDefEqProofs := false }) (disch := omega) only [allW, allR, oneOf, evalAll, partsA, optA, Nat.reduceLT, Nat.reduceLeDiff, Nat.reduceEqDiff, Nat.reduceAdd, ↓reduceIte, undef, hn, h0]
  refine (same_any (lib := libN) rfl s3 a b _ _ (hA.keeps k3).sees hB.sees (by omega) (by omega)).mono ?_
  rintro _ s3 ⟨rfl, rfl⟩
  simp (config := { maxSteps := 1000000, implicitDefEqProofs := false }) (disch := omega) only [allW, allR, oneOf, evalAll, partsA, optA, Nat.reduceLT, Nat.reduceLeDiff, Nat.reduceEqDiff, Nat.reduceAdd, ↓reduceIte, undef, hn, h0, decide_true]
  refine (fixed_any (lib := libN) rfl rfl rfl rfl rfl rfl rfl rfl rfl rfl s3 x l hx3 (by omega)).mono ?_
  rintro c s4 ⟨hC, -, k4⟩
  have hx4 := hx3.keeps k4
  simp (config := { maxSteps := 1000000, implicitDefEqProofs := false }) (disch := omega) only [allW, allR, oneOf, evalAll, partsA, optA, Nat.reduceLT, Nat.reduceLeDiff, Nat.reduceEqDiff, Nat.reduceAdd, ↓reduceIte, undef, hn, h0]
  refine (rfixed_any (lib := libN) rfl rfl rfl rfl rfl rfl rfl rfl rfl rfl s4 x l hx4 (by omega)).mono ?_
  rintro d s5 ⟨hD, -, k5⟩
  have hx5 := hx4.keeps k5
  simp (config := { maxSteps := 1000000, implicitDefEqProofs := false }) (disch := omega) only [allW, allR, oneOf, evalAll, partsA, optA, Nat.reduceLT, Nat.reduceLeDiff, Nat.reduceEqDiff, Nat.reduceAdd, ↓reduceIte, undef, hn, h0]
  refine (same_any (lib := libN) rfl s5 c d _ _ (hC.keeps k5).sees hD.sees (by omega) (by omega)).mono ?_
  rintro _ s5 ⟨rfl, rfl⟩
  simp (config := { maxSteps := 1000000, implicitDefEqProofs := false }) (disch := omega) only [allW, allR, oneOf, evalAll, partsA, optA, Nat.reduceLT, Nat.reduceLeDiff, Nat.reduceEqDiff, Nat.reduceAdd, ↓reduceIte, undef, hn, h0, decide_true]
  refine (zlib_any (lib := libN) rfl rfl rfl rfl rfl rfl rfl rfl rfl rfl rfl rfl rfl rfl rfl rfl rfl s5 x l hx5 (by omega)).mono ?_
  rintro e s6 ⟨hE, -, k6⟩
  have hx6 := hx5.keeps k6
  simp (config := { maxSteps := 1000000, implicitDefEqProofs := false }) (disch := omega) only [allW, allR, oneOf, evalAll, partsA, optA, Nat.reduceLT, Nat.reduceLeDiff, Nat.reduceEqDiff, Nat.reduceAdd, ↓reduceIte, undef, hn, h0]
  refine (rzlib_any (lib := libN) rfl rfl rfl rfl rfl rfl rfl rfl rfl rfl rfl rfl rfl rfl rfl s6 x l hx6 (by omega)).mono ?_
  rintro g s7 ⟨hG, -, k7⟩
  simp (config := { maxSteps := 1000000, implicitDefEqProofs := false }) (disch := omega) only [allW, allR, oneOf, evalAll, partsA, optA, Nat.reduceLT, Nat.reduceLeDiff, Nat.reduceEqDiff, Nat.reduceAdd, ↓reduceIte, undef, hn, h0]
  refine (same_any (lib := libN) rfl s7 e g _ _ (hE.keeps k7).sees hG.sees (by omega) (by omega)).mono ?_
  rintro _ s7 ⟨rfl, rfl⟩
  simp (config := { maxSteps := 1000000, implicitDefEqProofs := false }) (disch := omega) only [allW, allR, wfn_ret, wfn_normal, oneOf, evalAll, partsA, optA, Nat.reduceLT, Nat.reduceLeDiff, Nat.reduceEqDiff, Nat.reduceAdd, ↓reduceIte, undef, hn, h0, decide_true, Try.results6]
  rw [hQQ]

theorem own : ownKnob Try.prog.godebug = none := by kernel_rfl
theorem sound : progOk Try.prog libN = true := by kernel_rfl
theorem laid : laidOutB Try.prog = true := by kernel_rfl
theorem read : ∀ t ∈ Try.f6.params.toList, Try.prog.readableRec t = true ∧ t < Try.prog.types.size := by
  have : (Try.f6.params.toList.all fun t => Try.prog.readableRec t && decide (t < Try.prog.types.size)) = true := by kernel_rfl
  intro t ht
  simpa using List.all_eq_true.mp this t ht
theorem cellsu8 : Try.prog.cellsOf 5 = 1 := by kernel_rfl
set_option maxRecDepth 100000 in
theorem lifted (os : Os) (started : os.Started) (H : Type) (enc : TypeId × Value → H) :
    ReturnsInHanded {} Try.checked os 6 .any (Rows.deflateWritesSpec.pre6 enc Try.prog Try.f6 Rows.deflateWritesRow.domain false) (Rows.deflateWritesSpec.post enc Try.prog Try.f6 false true false false) := by
  refine returnsInHanded_of_change (C := Try.checked) own started (by kernel_rfl) Try.func6
    (ChangeSpec.witness6 (enc := enc) (C := Try.checked) false ⟨#[], #[.slice none 0 0], []⟩ 8 (by kernel_rfl) (by kernel_rfl) (by kernel_rfl) (by kernel_rfl)) ?_
  intro W base args ds gs before hval hW hcnd _
  obtain ⟨p, q, hA, _, _, _, _⟩ := id hW
  have hA : DataW.TrodAll enc Try.prog W 0 (fun _ => true) true Try.f6.params.toList args.toList ds p := hA
  rw [Try.params6] at hA
  obtain ⟨v0, d0, rfl, rfl, h0⟩ := trodAll_one hA
  have hv0 : Value.okWide Try.prog W .any base 24 v0 := hval 0 _ _ (by rw [Try.params6]; rfl) rfl
  obtain ⟨S0, x0, l0, hj0, hx0⟩ := (Begun.start W).bytes Try.underlying24 Try.underlying5 cellsu8 hv0 h0
  have hcalls := Runs.callsL libFr (libOk _) sound rfl hj0.begun (law S0.s x0 l0 hj0.begun.sr.wf (by rw [hj0.next]; rfl) hx0) (args' := #[v0]) (VRL.cons hj0.vr VRL.nil)
  refine hcalls.mono fun e W' ⟨he, hb⟩ => ?_
  subst he
  exact law_post laid read rfl Try.underlying4 rfl (fun L hL => by match L, hL with | [a0], _ => rfl) hW hb

theorem over : Rows.deflateWritesRow.holds Try.pinned (OpenSpec.ofChange Rows.deflateWritesSpec) :=
  OpenClaim.holds_of_wide 6 Try.f6 rfl rfl rfl rfl rfl rfl rfl ⟨rfl, rfl, rfl, rfl, rfl⟩ rfl rfl rfl rfl rfl (by kernel_rfl) Try.func6 (by kernel_rfl)
    (of_decide_eq_true (by kernel_rfl)) (by unfold Func.isWrapper; first | (rw [if_pos (by decide +kernel)]; kernel_rfl) | (rw [if_neg (by decide +kernel)]; exact ⟨rfl, rfl⟩))
    (fun os started H enc _ => lifted os started H enc)

/-- THE STATEMENT. -/
theorem proved : Rows.DeflateWritesSaid := over
#print axioms proved
end Go.Proofs.Ytdebapkgofddiaa.deflateWrites
