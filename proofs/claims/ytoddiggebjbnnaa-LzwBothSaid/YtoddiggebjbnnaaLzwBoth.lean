/-
  The statement LzwBoth: whatever bytes and whatever bound, codes are read and written by the program as by the reference: the law returns true.
  Conditions: none.
-/
import Derived.Test.YtoddiggebjbnnaaRows
import Derived.Test.YtoddiggebjbnnaaStart
import Derived.Test.YtoddiggebjbnnaaLzwO
import Derived.Test.YtoddiggebjbnnaaLzwZ
import Derived.Test.YtoddiggebjbnnaaLzwJ
set_option linter.unusedSimpArgs false
set_option linter.unusedVariables false
namespace Go.Cl.Lz
theorem Short.empty {m : Nat} {T : List (List UInt8)} {L out : List UInt8} (h : Short m T L out) : Short (m + 1) (grow T L []) [] (out ++ []) := by
  have hm : (m + 1) * (m + 1) = m * m + m + m + 1 := by rw [Nat.add_mul, Nat.mul_add]; omega
  refine ⟨fun r hr => ?_, by simp, by have := h.out; rw [List.append_nil, hm]; omega⟩
  unfold grow at hr
  split at hr
  · rcases List.mem_append.mp hr with hr | hr
    · have := h.rows r hr; omega
    · rw [List.mem_singleton] at hr; subst hr
      have := h.last
      simp only [List.take_nil, List.append_nil]; omega
  · have := h.rows r hr; omega
theorem dec_len (b : List UInt8) (hb : b.length ≤ 5000) (most : Nat) : ∀ (k p m : Nat) (T : List (List UInt8)) (L out : List UInt8), Short m T L out → 9 * m ≤ p → p ≤ 8 * b.length → (dec b most k p T L out).2.length ≤ 20000000 := by
  have hmm : ∀ (m : Nat) (T : List (List UInt8)) (L out : List UInt8), Short m T L out → m ≤ 4444 → out.length ≤ 20000000 := by
    intro m T L out h h2
    have h1 := h.out
    have h3 : m * m ≤ 4444 * 4444 := Nat.mul_le_mul h2 h2
    omega
  intro k
  induction k with
  | zero => intro p m T L out h hm hp; exact hmm m T L out h (by omega)
  | succ k ih =>
    intro p m T L out h hm hp
    have hw := width_le (258 + T.length)
    by_cases c1 : 8 * b.length < p + width (258 + T.length)
    · rw [dec_short c1]; simp
    · by_cases k7 : hbits b p (width (258 + T.length)) = 257
      · rw [dec_end c1 k7]; exact hmm m T L out h (by omega)
      · by_cases k6 : hbits b p (width (258 + T.length)) = 256
        · rw [dec_clear c1 k6]
          exact ih _ m _ _ _ ⟨fun r h => by simp at h, by simp, h.out⟩ (by omega) (by omega)
        · rw [dec_row c1 rfl k7 k6]
          cases hr : rowOf T L (hbits b p (width (258 + T.length))) with
          | none => simp
          | some x =>
            simp only
            split
            · simp
            · refine ih _ (m + 1) _ _ _ ?_ (by omega) (by omega)
              rcases h.row hr with e | e
              · exact e.1
              · rw [e]; exact h.empty
theorem unlzw_len (b : List UInt8) (hb : b.length ≤ 5000) (most : Nat) : (unlzw b most).2.length ≤ 20000000 :=
  dec_len b hb most _ 0 0 [] [] [] ⟨fun r h => by simp at h, by simp, by simp⟩ (by omega) (by omega)
end Go.Cl.Lz
namespace Go.Proofs.Ytoddiggebjbnnaa.lzwBoth
open Go.ChangeShapes Go.WideShapes Go.ChangeAt Go.RowKit Go.Cl Go.Cl.Lz

theorem awake1 : answersTrue (acall Try.prog [] 100000 8 [] ⟨.nil, 1⟩) = true := by kernel_rfl

set_option maxRecDepth 100000 in
set_option maxHeartbeats 4000000 in
theorem law (s : ASt) (x : Value) (l : List UInt8) (most : Int) (hw : WF s) (hk : s.next = 1) (hx : Sees s 1 x l.length (ofBytes l)) (_ : (Lit.int .i64 most).wf = true) :
    Runs Try.prog [] 4 [x, .int .i64 most] s fun v _ => v = .bool true := by
  refine Runs.enter 41 Try.func4 rfl rfl rfl rfl ?_
  intro f hn hf
  have h0 : f.get 0 = x := hf 0
  have h1 : f.get 1 = .int .i64 most := hf 1
  clear hf
  simp (config := { maxSteps := 1000000, implicitDefEqProofs := false }) (disch := omega) only [wcode_region, wcode_seq, wthen_normal, wops_nil, wops_cons, wwant_true, wstep_val, wstep_call, aop_assign, aop_call_value, wanted_none, evalA_bool, evalA_func, evalAll, vOf_some, List.nil_append, Nat.reduceLT, ↓reduceIte, hn]
  refine (Runs.closed LibFr.nil awake1 hk hw).mono ?_
  rintro _ s1 ⟨rfl, hst1, _⟩
  have hx1 := hx.keeps hst1
  by_cases c1 : 800 < l.length
  · have c1' : (800 : Int) < l.length := by omega
    simp (config := { maxSteps := 1000000, implicitDefEqProofs := false }) (disch := omega) only [wcode_skip, wcode_region, wcode_seq, wthen_normal, wthen_ret, wcode_cond, wcond_bool, wif_true, wif_false, wcode_ret, wops_nil, wops_cons, wwant_true, wstep_val, wcall_some, wfn_ret, wres_some, resultsA_nil, resultsA_tmp, oneOf, aop_move, aop_assign, aop_binOp, aop_unOp, aop_call_builtin, wanted_none, get_put, n_put, evalA_tmp, evalA_bool, evalA_int, evalAll, vOf_some, builtin_len, bin_gtr, un_not, Nat.reduceLT, Nat.reduceEqDiff, ↓reduceIte, decide_true, Bool.not_true, eq_self, hn, h0, hx1.lenA Try.underlying23, eq_true c1', Try.results4]
  have c1' : ¬ (800 : Int) < l.length := by omega
  have hul := unlzw_len l (by omega) most.toNat
  have hM : (if most < 0 then 0 else most) = ((most.toNat : Nat) : Int) := by split <;> omega
  simp (config := { maxSteps := 1000000, implicitDefEqProofs := false }) (disch := omega) only [wcode_skip, wcode_region, wcode_seq, wthen_normal, wcode_cond, wcond_bool, wif_false, wops_nil, wops_cons, wwant_true, wstep_val, wstep_call, wcall_some, aop_move, aop_binOp, aop_unOp, aop_call_value, aop_call_builtin, wanted_none, get_put, n_put, evalA_tmp, evalA_int, evalA_func, evalAll, vOf_some, builtin_len, bin_gtr, un_not, List.cons_append, List.nil_append, Nat.reduceLT, Nat.reduceEqDiff, ↓reduceIte, decide_false, Bool.not_true, eq_self, hn, h0, h1, hx1.lenA Try.underlying23, eq_false c1']
  refine (decode_any rfl rfl rfl rfl rfl rfl s1 x l most hx1 (by omega) (.inr (by omega))).mono ?_
  generalize hR : unlzw l most.toNat = R at hul
  rintro _ s2 ⟨B, rfl, hB, hBF, hst2⟩
  have hx2 := hx1.keeps hst2
  simp (config := { maxSteps := 1000000, implicitDefEqProofs := false }) (disch := omega) only [wcode_region, wcode_seq, wthen_normal, wops_nil, wops_cons, wwant_true, wstep_val, wstep_call, wcall_some, aop_move, aop_assign, aop_extract, aop_call_value, wanted_none, get_put, n_put, evalA_tmp, evalA_func, evalAll, vOf_some, List.cons_append, List.nil_append, Nat.reduceLT, Nat.reduceEqDiff, ↓reduceIte, eq_self, hn, h0, h1, dxtr0, dxtr1]
  refine (rdecode_any rfl rfl rfl rfl rfl rfl rfl s2 x l most most.toNat hM hx2 (by omega)).mono ?_
  rw [hR]
  rintro _ s3 ⟨B', rfl, hB', hBF', hst3⟩
  have hx3 := hx2.keeps hst3
  have hB3 := hB.keeps hst3
  simp (config := { maxSteps := 1000000, implicitDefEqProofs := false }) (disch := omega) only [wcode_region, wcode_seq, wthen_normal, wops_nil, wops_cons, wwant_true, wstep_val, wstep_call, wcall_some, aop_move, aop_assign, aop_binOp, aop_extract, aop_call_value, wanted_none, wanted_some, yieldA_eq, yieldOf_cons, get_put, n_put, evalA_tmp, evalA_func, evalAll, vOf_some, bin_eql, List.drop_zero, List.drop_succ_cons, List.cons_append, List.nil_append, Nat.reduceLT, Nat.reduceEqDiff, ↓reduceIte, decide_true, beq_self_eq_true, eq_self, hn, dxtr0, dxtr1]
  refine (same_any rfl s3 B B' _ _ hB3.sees hB'.sees (by omega) (by omega)).mono ?_
  rintro _ s3 ⟨rfl, rfl⟩
  simp (config := { maxSteps := 1000000, implicitDefEqProofs := false }) (disch := omega) only [wops_cons, wwant_true, wstep_val, wstep_call, wcall_some, aop_move, aop_pick, aop_call_value, wanted_none, wanted_some, yieldA_eq, yieldOf_cons, get_put, n_put, evalA_tmp, evalA_bool, evalA_func, evalAll, vOf_some, List.drop_zero, List.drop_succ_cons, List.cons_append, List.nil_append, Nat.reduceLT, Nat.reduceEqDiff, ↓reduceIte, decide_true, beq_self_eq_true, eq_self, hn, h0]
  refine (encode_any rfl rfl rfl rfl rfl rfl rfl rfl s3 x l hx3 (by omega)).mono ?_
  rintro E s4 ⟨hE, hEF, hst4⟩
  have hx4 := hx3.keeps hst4
  have hel : (lzw l).length ≤ 2406 := by have h1 := lzw_length l; have h2 := alls_len l; omega
  simp (config := { maxSteps := 1000000, implicitDefEqProofs := false }) (disch := omega) only [wops_cons, wwant_true, wstep_val, wstep_call, wcall_some, aop_move, aop_call_value, wanted_some, yieldA_eq, yieldOf_cons, get_put, n_put, evalA_tmp, evalA_func, evalAll, vOf_some, List.drop_zero, List.drop_succ_cons, List.cons_append, List.nil_append, Nat.reduceLT, Nat.reduceEqDiff, ↓reduceIte, beq_self_eq_true, eq_self, hn, h0]
  refine (rlzw_any rfl rfl rfl rfl s4 x l hx4 (by omega)).mono ?_
  rintro E' s5 ⟨hE', hEF', hst5⟩
  have hE5 := hE.keeps hst5
  simp (config := { maxSteps := 1000000, implicitDefEqProofs := false }) (disch := omega) only [wops_cons, wwant_true, wstep_call, wcall_some, aop_call_value, wanted_some, yieldA_eq, yieldOf_cons, get_put, n_put, evalA_tmp, evalA_func, evalAll, List.drop_zero, List.drop_succ_cons, List.cons_append, List.nil_append, Nat.reduceLT, Nat.reduceEqDiff, ↓reduceIte, beq_self_eq_true, eq_self, hn]
  refine (same_any rfl s5 E E' _ _ hE5.sees hE'.sees (by omega) (by omega)).mono ?_
  rintro _ s6 ⟨rfl, rfl⟩
  simp (config := { maxSteps := 1000000, implicitDefEqProofs := false }) (disch := omega) only [wthen_normal, wcode_ret, wops_nil, wops_cons, wwant_true, wstep_val, wcall_some, wfn_ret, wres_some, resultsA_nil, resultsA_tmp, oneOf, aop_assign, aop_pick, wanted_none, get_put, n_put, evalA_tmp, evalA_bool, vOf_some, Nat.reduceLT, Nat.reduceEqDiff, ↓reduceIte, decide_true, eq_self, hn, Try.results4]

theorem own : ownKnob Try.prog.godebug = none := by kernel_rfl
theorem sound : progOk Try.prog [] = true := by kernel_rfl
theorem laid : laidOutB Try.prog = true := by kernel_rfl
theorem read : ∀ t ∈ Try.f4.params.toList, Try.prog.readableRec t = true ∧ t < Try.prog.types.size := by
  have : (Try.f4.params.toList.all fun t => Try.prog.readableRec t && decide (t < Try.prog.types.size)) = true := by kernel_rfl
  intro t ht
  simpa using List.all_eq_true.mp this t ht
theorem cellsu8 : Try.prog.cellsOf 5 = 1 := by kernel_rfl
set_option maxRecDepth 100000 in
theorem lifted (os : Os) (started : os.Started) (H : Type) (enc : TypeId × Value → H) :
    ReturnsInHanded {} Try.checked os 4 .any (Rows.lzwBothSpec.pre6 enc Try.prog Try.f4 Rows.lzwBothRow.domain false) (Rows.lzwBothSpec.post enc Try.prog Try.f4 false true false false) := by
  refine returnsInHanded_of_change (C := Try.checked) own started (by kernel_rfl) Try.func4
    (ChangeSpec.witness6 (enc := enc) (C := Try.checked) false ⟨#[], #[.slice none 0 0, .int .i64 0], []⟩ 8 (by kernel_rfl) (by kernel_rfl) (by kernel_rfl) (by kernel_rfl)) ?_
  intro W base args ds gs before hval hW hcnd _
  obtain ⟨p, q, hA, _, _, _, _⟩ := id hW
  have hA : DataW.TrodAll enc Try.prog W 0 (fun _ => true) true Try.f4.params.toList args.toList ds p := hA
  rw [Try.params4] at hA
  obtain ⟨v0, v1, d0, d1, p0, p1, rfl, rfl, rfl, h0, h1⟩ := trodAll_two hA
  have hv0 : Value.okWide Try.prog W .any base 23 v0 := hval 0 _ _ (by rw [Try.params4]; rfl) rfl
  have hv1 : Value.okWide Try.prog W .any base 3 v1 := hval 1 _ _ (by rw [Try.params4]; rfl) rfl
  obtain ⟨S0, x0, l0, hj0, hx0⟩ := (Begun.start W).bytes Try.underlying23 Try.underlying5 cellsu8 hv0 h0
  obtain ⟨n1, rfl, _, _, hz1⟩ := open_int Try.underlying3 hv1 h1
  have hcalls := Runs.calls sound hj0.begun (law S0.s x0 l0 n1 hj0.begun.sr.wf (by rw [hj0.next]; rfl) hx0 hz1) (args' := #[v0, .int .i64 n1]) (VRL.cons hj0.vr (VRL.cons (.int _ _) VRL.nil))
  refine hcalls.mono fun e W' ⟨he, hb⟩ => ?_
  subst he
  exact law_post laid read rfl Try.underlying4 rfl (fun L hL => by match L, hL with | [a0, a1], _ => rfl) hW hb

theorem over : Rows.lzwBothRow.holds Try.pinned (OpenSpec.ofChange Rows.lzwBothSpec) :=
  OpenClaim.holds_of_wide 4 Try.f4 rfl rfl rfl rfl rfl rfl rfl ⟨rfl, rfl, rfl, rfl, rfl⟩ rfl rfl rfl rfl rfl (by kernel_rfl) Try.func4 (by kernel_rfl)
    (of_decide_eq_true (by kernel_rfl)) (by unfold Func.isWrapper; first | (rw [if_pos (by decide +kernel)]; kernel_rfl) | (rw [if_neg (by decide +kernel)]; exact ⟨rfl, rfl⟩))
    (fun os started H enc _ => lifted os started H enc)

/-- THE STATEMENT. -/
theorem proved : Rows.LzwBothSaid := over
#print axioms proved
end Go.Proofs.Ytoddiggebjbnnaa.lzwBoth
