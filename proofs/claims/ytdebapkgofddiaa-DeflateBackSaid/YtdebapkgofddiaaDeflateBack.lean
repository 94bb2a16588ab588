/-
  The statement DeflateBack: what is written, as stored blocks, by the fixed codes, or wrapped, is read by the document's own reader as it was; wrapped it is never longer than stored: the law returns true.
  Conditions: none.
-/
import Derived.Test.YtdebapkgofddiaaRows
import Derived.Test.YtdebapkgofddiaaStart
import Derived.Test.YtdebapkgofddiaaFixH
set_option linter.unusedSimpArgs false
set_option linter.unusedVariables false
namespace Go.Proofs.Ytdebapkgofddiaa.deflateBack
open Go.ChangeShapes Go.WideShapes Go.ChangeAt Go.RowKit Go.Cl Go.Cl.Sto Go.Cl.Rw Go.Cl.Fx

theorem awake1 : answersTrue (acall Try.prog libN 100000 9 [] ⟨.nil, 1⟩) = true := by kernel_rfl
set_option maxRecDepth 100000 in
set_option maxHeartbeats 8000000 in
theorem law (s : ASt) (x : Value) (l : List UInt8) (hw : WF s) (hk : s.next = 1) (hx : Sees s 1 x l.length (ofBytes l)) :
    Runs Try.prog libN 7 [x] s fun v _ => v = .bool true := by
  obtain ⟨QQ, hQQ⟩ : ∃ QQ : Value → ASt → Prop, QQ = fun v _ => v = .bool true := ⟨_, rfl⟩
  rw [← hQQ]
  refine Runs.enter 99 Try.func7 rfl rfl rfl rfl ?_
  intro f hn hf
  have h0 : f.get 0 = x := hf 0
  clear hf
  simp (config := { maxSteps := 1000000, implicitDefEqProofs := false }) (disch := omega) only [allW, allR, oneOf, evalAll, partsA, optA, Nat.reduceLT, Nat.reduceLeDiff, Nat.reduceEqDiff, Nat.reduceAdd, ↓reduceIte, hn, h0]
  refine (Runs.closed libFr awake1 hk hw).mono ?_
  rintro _ s1 ⟨rfl, k1, _⟩
  have hx1 := hx.keeps k1
  by_cases hbig : (l.length : Int) > 2000
  · simp (config := { maxSteps := 1000000, implicitDefEqProofs := false }) (disch := omega) only [allW, allR, wfn_ret, wfn_normal, oneOf, evalAll, partsA, optA, Nat.reduceLT, Nat.reduceLeDiff, Nat.reduceEqDiff, Nat.reduceAdd, ↓reduceIte, hn, h0, Bool.not_true, hx1.lenA Try.underlying24, eq_true hbig, Try.results7]
    rw [hQQ]
  have hfl := fixed_length l
  have hsl := sto_length _ l (Nat.le_refl _)
  have hbk : blocks l.length = 1 := by unfold blocks; omega
  have hzl := zbody_le l
  have hzz := zlb_length l
  simp (config := { maxSteps := 1000000, implicitDefEqProofs := false }) (disch := omega) only [allW, allR, oneOf, evalAll, partsA, optA, Nat.reduceLT, Nat.reduceLeDiff, Nat.reduceEqDiff, Nat.reduceAdd, ↓reduceIte, undef, hn, h0, Bool.not_true, hx1.lenA Try.underlying24, eq_false hbig]
  refine (zlib_any (lib := libN) rfl rfl rfl rfl rfl rfl rfl rfl rfl rfl rfl rfl rfl rfl rfl rfl rfl s1 x l hx1 (by omega)).mono ?_
  rintro z s2 ⟨hZ, -, k2⟩
  have hx2 := hx1.keeps k2
  simp (config := { maxSteps := 1000000, implicitDefEqProofs := false }) (disch := omega) only [allW, allR, oneOf, evalAll, partsA, optA, Nat.reduceLT, Nat.reduceLeDiff, Nat.reduceEqDiff, Nat.reduceAdd, ↓reduceIte, undef, hn, h0, hx2.lenA Try.underlying24]
  refine (unzlib_any (lib := libN) rfl rfl rfl rfl rfl rfl rfl rfl rfl rfl rfl rfl rfl rfl s2 z l hZ.sees (by omega) (l.length : Nat) (by omega)).mono ?_
  rintro _ s3 ⟨o1, rfl, hO1, -, k3⟩
  have hx3 := hx2.keeps k3
  have hZ3 := hZ.keeps k3
  simp (config := { maxSteps := 1000000, implicitDefEqProofs := false }) (disch := omega) only [allW, allR, oneOf, evalAll, partsA, optA, Nat.reduceLT, Nat.reduceLeDiff, Nat.reduceEqDiff, Nat.reduceAdd, ↓reduceIte, undef, hn, h0, ext0F, ext1F, ext2F]
  refine (fixed_any (lib := libN) rfl rfl rfl rfl rfl rfl rfl rfl rfl rfl s3 x l hx3 (by omega)).mono ?_
  rintro a s4 ⟨hA, -, k4⟩
  have hx4 := hx3.keeps k4
  have hA' : Sees s4 1 a (fixed l ++ []).length (ofBytes (fixed l ++ [])) := by rw [List.append_nil]; exact hA.sees
  simp (config := { maxSteps := 1000000, implicitDefEqProofs := false }) (disch := omega) only [allW, allR, oneOf, evalAll, partsA, optA, Nat.reduceLT, Nat.reduceLeDiff, Nat.reduceEqDiff, Nat.reduceAdd, ↓reduceIte, undef, hn, h0, hx4.lenA Try.underlying24]
  refine (blocksZ_any (lib := libN) rfl rfl rfl rfl rfl rfl rfl rfl rfl rfl s4 a l (fixed l) [] (.inl rfl) hA' (by omega) (by decide) (l.length : Nat) (by omega)).mono ?_
  rintro _ s5 ⟨o2, rfl, hO2, -, k5⟩
  have hx5 := hx4.keeps k5
  simp (config := { maxSteps := 1000000, implicitDefEqProofs := false }) (disch := omega) only [allW, allR, oneOf, evalAll, partsA, optA, Nat.reduceLT, Nat.reduceLeDiff, Nat.reduceEqDiff, Nat.reduceAdd, ↓reduceIte, undef, hn, h0, ext0F, ext1F, ext2F]
  refine (stored_any (lib := libN) rfl rfl s5 x l hx5 (by omega)).mono ?_
  rintro b s6 ⟨hB, -, k6⟩
  have hx6 := hx5.keeps k6
  have hB' : Sees s6 1 b (sto l ++ []).length (ofBytes (sto l ++ [])) := by rw [List.append_nil]; exact hB.sees
  simp (config := { maxSteps := 1000000, implicitDefEqProofs := false }) (disch := omega) only [allW, allR, oneOf, evalAll, partsA, optA, Nat.reduceLT, Nat.reduceLeDiff, Nat.reduceEqDiff, Nat.reduceAdd, ↓reduceIte, undef, hn, h0, hx6.lenA Try.underlying24]
  refine (blocksZ_any (lib := libN) rfl rfl rfl rfl rfl rfl rfl rfl rfl rfl s6 b l (sto l) [] (.inr rfl) hB' (by omega) (by decide) (l.length : Nat) (by omega)).mono ?_
  rintro _ s7 ⟨o3, rfl, hO3, -, k7⟩
  have hx7 := hx6.keeps k7
  have n2 := k2.next
  have n3 := k3.next
  have n4 := k4.next
  have n5 := k5.next
  have n6 := k6.next
  have n7 := k7.next
  have k37 : Stay s3.next s3 s7 := ((k4.trans (k5.weaken n4)).trans (k6.weaken (by omega))).trans (k7.weaken (by omega))
  have k57 : Stay s5.next s5 s7 := k6.trans (k7.weaken n6)
  have hZ7 := hZ3.keeps k37
  have hO17 := hO1.keeps k37
  have hO27 := hO2.keeps k57
  simp (config := { maxSteps := 1000000, implicitDefEqProofs := false }) (disch := omega) only [allW, allR, oneOf, evalAll, partsA, optA, Nat.reduceLT, Nat.reduceLeDiff, Nat.reduceEqDiff, Nat.reduceAdd, ↓reduceIte, undef, hn, h0, ext0F, ext1F, ext2F, decide_true, hZ7.sees.lenA Try.underlying24]
  refine (same_any (lib := libN) rfl s7 o1 x l l hO17.sees hx7 (by omega) (by omega)).mono ?_
  rintro _ s7 ⟨rfl, rfl⟩
  simp (config := { maxSteps := 1000000, implicitDefEqProofs := false }) (disch := omega) only [allW, allR, oneOf, evalAll, partsA, optA, Nat.reduceLT, Nat.reduceLeDiff, Nat.reduceEqDiff, Nat.reduceAdd, ↓reduceIte, undef, hn, h0, decide_true]
  refine (fixed_any (lib := libN) rfl rfl rfl rfl rfl rfl rfl rfl rfl rfl s7 x l hx7 (by omega)).mono ?_
  rintro c s8 ⟨hC, -, k8⟩
  have hx8 := hx7.keeps k8
  simp (config := { maxSteps := 1000000, implicitDefEqProofs := false }) (disch := omega) only [allW, allR, oneOf, evalAll, partsA, optA, Nat.reduceLT, Nat.reduceLeDiff, Nat.reduceEqDiff, Nat.reduceAdd, ↓reduceIte, undef, hn, h0, decide_true, hC.sees.lenA Try.underlying24]
  refine (same_any (lib := libN) rfl s8 o2 x l l (hO27.keeps k8).sees hx8 (by omega) (by omega)).mono ?_
  rintro _ s8 ⟨rfl, rfl⟩
  have e5 : (((sto l).length : Nat) : Int) = (l.length : Int) + 5 := by omega
  simp (config := { maxSteps := 1000000, implicitDefEqProofs := false }) (disch := omega) only [allW, allR, oneOf, evalAll, partsA, optA, Nat.reduceLT, Nat.reduceLeDiff, Nat.reduceEqDiff, Nat.reduceAdd, ↓reduceIte, undef, hn, h0, decide_true, hx8.lenA Try.underlying24, wrapI, eq_true e5]
  refine (same_any (lib := libN) rfl s8 o3 x l l (hO3.keeps k8).sees hx8 (by omega) (by omega)).mono ?_
  rintro _ s8 ⟨rfl, rfl⟩
  have e11 : (((zlb l).length : Nat) : Int) ≤ (l.length : Int) + 11 := by omega
  simp (config := { maxSteps := 1000000, implicitDefEqProofs := false }) (disch := omega) only [allW, allR, wfn_ret, wfn_normal, oneOf, evalAll, partsA, optA, Nat.reduceLT, Nat.reduceLeDiff, Nat.reduceEqDiff, Nat.reduceAdd, ↓reduceIte, undef, hn, h0, decide_true, hx8.lenA Try.underlying24, (hZ7.keeps k8).sees.lenA Try.underlying24, wrapI, eq_true e11, Try.results7]
  rw [hQQ]

theorem own : ownKnob Try.prog.godebug = none := by kernel_rfl
theorem sound : progOk Try.prog libN = true := by kernel_rfl
theorem laid : laidOutB Try.prog = true := by kernel_rfl
theorem read : ∀ t ∈ Try.f7.params.toList, Try.prog.readableRec t = true ∧ t < Try.prog.types.size := by
  have : (Try.f7.params.toList.all fun t => Try.prog.readableRec t && decide (t < Try.prog.types.size)) = true := by kernel_rfl
  intro t ht
  simpa using List.all_eq_true.mp this t ht
theorem cellsu8 : Try.prog.cellsOf 5 = 1 := by kernel_rfl
set_option maxRecDepth 100000 in
theorem lifted (os : Os) (started : os.Started) (H : Type) (enc : TypeId × Value → H) :
    ReturnsInHanded {} Try.checked os 7 .any (Rows.deflateBackSpec.pre6 enc Try.prog Try.f7 Rows.deflateBackRow.domain false) (Rows.deflateBackSpec.post enc Try.prog Try.f7 false true false false) := by
  refine returnsInHanded_of_change (C := Try.checked) own started (by kernel_rfl) Try.func7
    (ChangeSpec.witness6 (enc := enc) (C := Try.checked) false ⟨#[], #[.slice none 0 0], []⟩ 8 (by kernel_rfl) (by kernel_rfl) (by kernel_rfl) (by kernel_rfl)) ?_
  intro W base args ds gs before hval hW hcnd _
  obtain ⟨p, q, hA, _, _, _, _⟩ := id hW
  have hA : DataW.TrodAll enc Try.prog W 0 (fun _ => true) true Try.f7.params.toList args.toList ds p := hA
  rw [Try.params7] at hA
  obtain ⟨v0, d0, rfl, rfl, h0⟩ := trodAll_one hA
  have hv0 : Value.okWide Try.prog W .any base 24 v0 := hval 0 _ _ (by rw [Try.params7]; rfl) rfl
  obtain ⟨S0, x0, l0, hj0, hx0⟩ := (Begun.start W).bytes Try.underlying24 Try.underlying5 cellsu8 hv0 h0
  have hcalls := Runs.callsL libFr (libOk _) sound rfl hj0.begun (law S0.s x0 l0 hj0.begun.sr.wf (by rw [hj0.next]; rfl) hx0) (args' := #[v0]) (VRL.cons hj0.vr VRL.nil)
  refine hcalls.mono fun e W' ⟨he, hb⟩ => ?_
  subst he
  exact law_post laid read rfl Try.underlying4 rfl (fun L hL => by match L, hL with | [a0], _ => rfl) hW hb

theorem over : Rows.deflateBackRow.holds Try.pinned (OpenSpec.ofChange Rows.deflateBackSpec) :=
  OpenClaim.holds_of_wide 7 Try.f7 rfl rfl rfl rfl rfl rfl rfl ⟨rfl, rfl, rfl, rfl, rfl⟩ rfl rfl rfl rfl rfl (by kernel_rfl) Try.func7 (by kernel_rfl)
    (of_decide_eq_true (by kernel_rfl)) (by unfold Func.isWrapper; first | (rw [if_pos (by decide +kernel)]; kernel_rfl) | (rw [if_neg (by decide +kernel)]; exact ⟨rfl, rfl⟩))
    (fun os started H enc _ => lifted os started H enc)

/-- THE STATEMENT. -/
theorem proved : Rows.DeflateBackSaid := over
#print axioms proved
end Go.Proofs.Ytdebapkgofddiaa.deflateBack
