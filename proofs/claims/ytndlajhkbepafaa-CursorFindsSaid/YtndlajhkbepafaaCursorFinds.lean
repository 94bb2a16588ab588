/-
  The statement CursorFinds: any bytes, any text: the first place from anywhere on, and the last: the law returns true.
  Conditions: none.
-/
import Derived.Test.YtndlajhkbepafaaRows
import Derived.Test.YtndlajhkbepafaaStart
import Derived.Test.YtndlajhkbepafaaCurR
import Derived.Test.YtndlajhkbepafaaCurK
import Derived.ChangeMaps5
set_option linter.unusedSimpArgs false
set_option linter.unusedVariables false
set_option maxRecDepth 100000
namespace Go.Proofs.Ytndlajhkbepafaa.cursorFinds
open Go.ChangeShapes Go.WideShapes Go.ChangeAt Go.RowKit Go.Cl Go.Cl.Fi

theorem awake1 : answersTrue (acall Try.prog libI 100000 8 [] ⟨.nil, 1⟩) = true := by kernel_rfl
set_option maxRecDepth 100000 in
set_option maxHeartbeats 8000000 in
theorem law (s : ASt) (x : Value) (l : List UInt8) (n1 : ByteArray) (n2 : Int) (hw : WF s) (hk : s.next = 1) (hx : Sees s 1 x l.length (ofBytes l)) (_ : n1.size ≤ maxLen) (_ : (Lit.int .i64 n2).wf = true) :
    Runs Try.prog libI 5 [x, .string n1, .int .i64 n2] s fun v _ => v = .bool true := by
  obtain ⟨QQ, hQQ⟩ : ∃ QQ : Value → ASt → Prop, QQ = fun v _ => v = .bool true := ⟨_, rfl⟩
  rw [← hQQ]
  obtain ⟨b, rfl⟩ : ∃ b : List UInt8, n1 = ⟨b.toArray⟩ := ⟨n1.data.toList, by cases n1; simp⟩
  refine Runs.enter 35 Try.func5 rfl rfl rfl rfl ?_
  intro f hn hf
  have h0 : f.get 0 = x := hf 0
  have h1 : f.get 1 = .string ⟨b.toArray⟩ := hf 1
  have h2 : f.get 2 = .int .i64 n2 := hf 2
  clear hf
  simp (config := { maxSteps := 1000000, implicitDefEqProofs := false }) (disch := omega) only [allW, allR, oneOf, evalAll, partsA, optA, Nat.reduceLT, Nat.reduceLeDiff, Nat.reduceEqDiff, Nat.reduceAdd, ↓reduceIte, hn, h0, h1, h2]
  refine (Runs.closed libFrI awake1 hk hw).mono ?_
  rintro _ s1 ⟨rfl, k1, _⟩
  have hx1 := hx.keeps k1
  by_cases c1 : (l.length : Int) > 1000
  · simp (config := { maxSteps := 1000000, implicitDefEqProofs := false }) (disch := omega) only [allW, allR, wfn_ret, wfn_normal, oneOf, evalAll, partsA, optA, Nat.reduceLT, Nat.reduceLeDiff, Nat.reduceEqDiff, Nat.reduceAdd, ↓reduceIte, hn, h0, h1, h2, Bool.not_true, hx1.lenA Try.underlying22, eq_true c1, decide_true, Try.results5]
    rw [hQQ]
  by_cases c2 : (b.length : Int) > 100
  · simp (config := { maxSteps := 1000000, implicitDefEqProofs := false }) (disch := omega) only [allW, allR, wfn_ret, wfn_normal, oneOf, evalAll, partsA, optA, Nat.reduceLT, Nat.reduceLeDiff, Nat.reduceEqDiff, Nat.reduceAdd, ↓reduceIte, hn, h0, h1, h2, Bool.not_true, hx1.lenA Try.underlying22, str_len Try.underlying9, eq_false c1, eq_true c2, decide_true, decide_false, Try.results5]
    rw [hQQ]
  simp (config := { maxSteps := 1000000, implicitDefEqProofs := false }) (disch := omega) only [allW, allR, oneOf, evalAll, partsA, optA, Nat.reduceLT, Nat.reduceLeDiff, Nat.reduceEqDiff, Nat.reduceAdd, ↓reduceIte, hn, h0, h1, h2, Bool.not_true, hx1.lenA Try.underlying22, str_len Try.underlying9, eq_false c1, eq_false c2, decide_false]
  refine (find_any (lib := libI) rfl rfl s1 x l b n2 hx1 (by omega) (by omega)).mono ?_
  rintro _ s2 ⟨rfl, k2⟩
  have hx2 := hx1.keeps k2
  simp (config := { maxSteps := 1000000, implicitDefEqProofs := false }) (disch := omega) only [allW, allR, oneOf, evalAll, partsA, optA, Nat.reduceLT, Nat.reduceLeDiff, Nat.reduceEqDiff, Nat.reduceAdd, ↓reduceIte, hn, h0, h1, h2]
  refine (rfind_any (lib := libI) rfl rfl s2 x l b n2 hx2 (by omega) (by omega)).mono ?_
  rintro _ s3 ⟨rfl, rfl⟩
  simp (config := { maxSteps := 1000000, implicitDefEqProofs := false }) (disch := omega) only [allW, allR, oneOf, evalAll, partsA, optA, Nat.reduceLT, Nat.reduceLeDiff, Nat.reduceEqDiff, Nat.reduceAdd, ↓reduceIte, hn, h0, h1, h2, decide_true]
  refine (last_any (lib := libI) rfl rfl rfl rfl rfl rfl s3 x l b hx2 (by omega) (by omega)).mono ?_
  rintro _ s4 ⟨rfl, k4⟩
  have hx4 := hx2.keeps k4
  simp (config := { maxSteps := 1000000, implicitDefEqProofs := false }) (disch := omega) only [allW, allR, oneOf, evalAll, partsA, optA, Nat.reduceLT, Nat.reduceLeDiff, Nat.reduceEqDiff, Nat.reduceAdd, ↓reduceIte, hn, h0, h1, h2, decide_true]
  refine (rlast_any (lib := libI) rfl rfl s4 x l b hx4 (by omega) (by omega)).mono ?_
  rintro _ s5 ⟨rfl, rfl⟩
  simp (config := { maxSteps := 1000000, implicitDefEqProofs := false }) (disch := omega) only [allW, allR, wfn_ret, wfn_normal, oneOf, evalAll, partsA, optA, Nat.reduceLT, Nat.reduceLeDiff, Nat.reduceEqDiff, Nat.reduceAdd, ↓reduceIte, hn, h0, h1, h2, decide_true, Try.results5]
  rw [hQQ]

theorem own : ownKnob Try.prog.godebug = none := by kernel_rfl
theorem sound : progOk Try.prog libI = true := by kernel_rfl
theorem laid : laidOutB Try.prog = true := by kernel_rfl
theorem read : ∀ t ∈ Try.f5.params.toList, Try.prog.readableRec t = true ∧ t < Try.prog.types.size := by
  have : (Try.f5.params.toList.all fun t => Try.prog.readableRec t && decide (t < Try.prog.types.size)) = true := by kernel_rfl
  intro t ht
  simpa using List.all_eq_true.mp this t ht
theorem cellsu8 : Try.prog.cellsOf 5 = 1 := by kernel_rfl
set_option maxRecDepth 100000 in
theorem lifted (os : Os) (started : os.Started) (H : Type) (enc : TypeId × Value → H) :
    ReturnsInHanded {} Try.checked os 5 .any (Rows.cursorFindsSpec.pre6 enc Try.prog Try.f5 Rows.cursorFindsRow.domain false) (Rows.cursorFindsSpec.post enc Try.prog Try.f5 false true false false) := by
  refine returnsInHanded_of_change_shaped (C := Try.checked) own started (by kernel_rfl) Try.func5
    (ChangeSpec.witness6 (enc := enc) (C := Try.checked) false ⟨#[], #[.slice none 0 0, .string ⟨#[]⟩, .int .i64 0], []⟩ 8 (by kernel_rfl) (by kernel_rfl) (by kernel_rfl) (by kernel_rfl)) ?_
  intro W base args ds gs before hval hW hcnd _ hsh _
  obtain ⟨p, q, hA, _, _, _, _⟩ := id hW
  have hA : DataW.TrodAll enc Try.prog W 0 (fun _ => true) true Try.f5.params.toList args.toList ds p := hA
  rw [Try.params5] at hA
  obtain ⟨v0, v1, v2, d0, d1, d2, p0, p1, p2, rfl, rfl, rfl, h0, h1, h2⟩ := trodAll_three hA
  have hv0 : Value.okWide Try.prog W .any base 22 v0 := hval 0 _ _ (by rw [Try.params5]; rfl) rfl
  have hv1 : Value.okWide Try.prog W .any base 9 v1 := hval 1 _ _ (by rw [Try.params5]; rfl) rfl
  have hv2 : Value.okWide Try.prog W .any base 3 v2 := hval 2 _ _ (by rw [Try.params5]; rfl) rfl
  obtain ⟨S0, x0, l0, hj0, hx0⟩ := (Begun.start W).bytes Try.underlying22 Try.underlying5 cellsu8 hv0 h0
  obtain ⟨n1, rfl, _, _, hz1⟩ := Go.ChangeMaps.open_string Try.underlying9 hv1 h1
  obtain ⟨n2, rfl, _, _, hz2⟩ := open_int Try.underlying3 hv2 h2
  have hcalls := Runs.callsP staysI libFrI libOkI sound rfl (preI hsh) hj0.begun (law S0.s x0 l0 n1 n2 hj0.begun.sr.wf (by rw [hj0.next]; rfl) hx0 hz1 hz2) (args' := #[v0, .string n1, .int .i64 n2]) (VRL.cons hj0.vr (VRL.cons (.string _) (VRL.cons (.int _ _) VRL.nil)))
  refine hcalls.mono fun e W' ⟨he, hb⟩ => ?_
  subst he
  exact law_post laid read rfl Try.underlying4 rfl (fun L hL => by match L, hL with | [a0, a1, a2], _ => rfl) hW hb

theorem over : Rows.cursorFindsRow.holds Try.pinned (OpenSpec.ofChange Rows.cursorFindsSpec) :=
  OpenClaim.holds_of_wide 5 Try.f5 rfl rfl rfl rfl rfl rfl rfl ⟨rfl, rfl, rfl, rfl, rfl⟩ rfl rfl rfl rfl rfl (by kernel_rfl) Try.func5 (by kernel_rfl)
    (of_decide_eq_true (by kernel_rfl)) (by unfold Func.isWrapper; first | (rw [if_pos (by decide +kernel)]; kernel_rfl) | (rw [if_neg (by decide +kernel)]; exact ⟨rfl, rfl⟩))
    (fun os started H enc _ => lifted os started H enc)

/-- THE STATEMENT. -/
theorem proved : Rows.CursorFindsSaid := over
#print axioms proved
end Go.Proofs.Ytndlajhkbepafaa.cursorFinds
