/-
  The statement CosMay, where what is handed in is of bulk at most 1048576: any object: whether it may be, how deep it is, what it names: the law returns true.
  Conditions: those of the given statement CosMayUptoSaid.
-/
import Derived.Test.YtdhdhbkikhedlaaRows
import Derived.Test.YtdhdhbkikhedlaaCosU
import Derived.Test.YtdhdhbkikhedlaaCosX
import Derived.Test.YtdhdhbkikhedlaaCosR
import Derived.Test.YtdhdhbkikhedlaaDep
import Derived.Test.YtdhdhbkikhedlaaBulk
import Derived.Test.YtdhdhbkikhedlaaObjL
import Derived.Deep.CondSized
set_option linter.unusedSimpArgs false
set_option linter.unusedVariables false
set_option maxRecDepth 100000
namespace Go.Cl
theorem cTakeS {M : List Int} {i : Nat} (h : i < M.length) : M.take (i + 1) = M.take i ++ [M[i]] := by
  rw [List.take_add_one, List.getElem?_eq_getElem h]; rfl
theorem cIntsV_getD {M : List Int} {k : Nat} (h : k < M.length) : (intsV M).getD k undef = .int .i64 M[k] := by
  simp [intsV, List.getD, List.getElem?_eq_getElem h]
end Go.Cl
namespace Go.Proofs.Ytdhdhbkikhedlaa.cosMay
open Go.ChangeShapes Go.WideShapes Go.ChangeAt Go.RowKit Go.Cl Go.Lib
set_option maxHeartbeats 4000000 in
theorem cints_any {lib : Prims} (hl : lib.at 35 = none) (s : ASt) (x y : Value) (M N : List Int) (hx : Sees s 1 x M.length (intsV M)) (hy : Sees s 1 y N.length (intsV N)) (hM : M.length ≤ 1000000000) :
    Runs Try.prog lib 35 [x, y] s (Bools s (decide (M = N))) := by
  refine Runs.enter 26 Try.func35 rfl hl rfl rfl ?_
  intro f hn hf
  have h0 : f.get 0 = x := hf 0
  have h1 : f.get 1 = y := hf 1
  clear hf
  by_cases hlen : M.length = N.length
  rotate_left
  · have d0 : ¬ (M.length : Int) = (N.length : Int) := by omega
    simp (config := { maxSteps := 1000000, implicitDefEqProofs := false }) (disch := omega) only [allW, allR, oneOf, evalAll, partsA, optA, Nat.reduceLT, Nat.reduceLeDiff, Nat.reduceEqDiff, Nat.reduceAdd, ↓reduceIte, allW, allR, wfn_ret, wfn_normal, oneOf, evalAll, partsA, optA, Nat.reduceLT, Nat.reduceLeDiff, Nat.reduceEqDiff, Nat.reduceAdd, ↓reduceIte, hn, h0, h1, hx.lenA Try.underlying48, hy.lenA Try.underlying48, eq_false d0, not_false_eq_true, decide_true, Try.results35]
    exact ⟨by rw [decide_eq_false (fun e => hlen (by rw [e]))], Stay.refl _ _⟩
  have d0 : (M.length : Int) = (N.length : Int) := by omega
  simp (config := { maxSteps := 1000000, implicitDefEqProofs := false }) (disch := omega) only [allW, allR, oneOf, evalAll, partsA, optA, Nat.reduceLT, Nat.reduceLeDiff, Nat.reduceEqDiff, Nat.reduceAdd, ↓reduceIte, hn, h0, h1, hx.lenA Try.underlying48, hy.lenA Try.underlying48, d0, not_true_eq_false, decide_false]
  refine Comes.loopOut (fun z f t => ∃ i : Nat, z = M.length - i ∧ i ≤ M.length ∧ M.take i = N.take i ∧ Stay s.next s t ∧ f.n = 26 ∧ f.get 0 = x ∧ f.get 1 = y ∧ f.get 5 = .int .i64 (i : Nat))
    (fun z f t => (z = .ret ∧ M ≠ N ∧ Stay s.next s t ∧ f.n = 26 ∧ f.get 4 = .bool false) ∨ (z = .exit 0 ∧ M = N ∧ Stay s.next s t ∧ f.n = 26))
    ⟨0, rfl, by omega, by simp, Stay.refl _ _, by simp only [get_put, n_put, ↓reduceIte, Nat.reduceEqDiff, hn], by simp only [get_put, n_put, ↓reduceIte, Nat.reduceEqDiff, h0], by simp only [get_put, n_put, ↓reduceIte, Nat.reduceEqDiff, h1], by simp only [get_put, n_put, ↓reduceIte, Nat.reduceEqDiff]; rfl⟩ ?_ ?_
  · clear hn h0 h1 f
    rintro Q hQ z f t ⟨i, rfl, hi, hP, hst, hn, h0, h1, h5⟩
    have hxt := hx.keeps hst
    have hyt := hy.keeps hst
    by_cases hlt : i < M.length
    rotate_left
    · obtain rfl : i = M.length := by omega
      have d1 : ¬ ((M.length : Nat) : Int) < ((M.length : Nat) : Int) := by omega
      rw [List.take_length, hlen, List.take_length] at hP
      simp (config := { maxSteps := 1000000, implicitDefEqProofs := false }) (disch := omega) only [allW, allR, oneOf, evalAll, partsA, optA, Nat.reduceLT, Nat.reduceLeDiff, Nat.reduceEqDiff, Nat.reduceAdd, ↓reduceIte, hn, h0, h1, h5, hxt.lenA Try.underlying48, eq_false d1]
      exact hQ _ _ _ (.inr ⟨rfl, hP, hst, by simp only [get_put, n_put, ↓reduceIte, Nat.reduceEqDiff, hn]⟩)
    have hlt2 : i < N.length := by omega
    have d1 : (i : Int) < (M.length : Int) := by omega
    have hix := hxt.indexAddr (P := Try.prog) (k := .i64) (x := (i : Int)) Try.underlying48 szInt (by omega) (by omega)
    have hiy := hyt.indexAddr (P := Try.prog) (k := .i64) (x := (i : Int)) Try.underlying48 szInt (by omega) (by omega)
    rw [Int.toNat_natCast] at hix hiy
    have hli := hxt.load1 (P := Try.prog) agInt hlt
    have hlj := hyt.load1 (P := Try.prog) agInt hlt2
    rw [cIntsV_getD hlt] at hli
    rw [cIntsV_getD hlt2] at hlj
    by_cases he : M[i] = N[i]
    · simp (config := { maxSteps := 1000000, implicitDefEqProofs := false }) (disch := omega) only [allW, allR, oneOf, evalAll, partsA, optA, Nat.reduceLT, Nat.reduceLeDiff, Nat.reduceEqDiff, Nat.reduceAdd, ↓reduceIte, hn, h0, h1, h5, hxt.lenA Try.underlying48, eq_true d1, hix, hiy, hli, hlj, he, hxt.self, hyt.self, valEq_int, valEq_elemPtr, wrapI, not_true_eq_false, decide_false]
      exact wround_next (M.length - (i + 1)) (by omega) ⟨i + 1, rfl, by omega, by rw [cTakeS hlt, cTakeS hlt2, hP, he], hst, by simp only [get_put, n_put, ↓reduceIte, Nat.reduceEqDiff, hn], by simp only [get_put, n_put, ↓reduceIte, Nat.reduceEqDiff, h0], by simp only [get_put, n_put, ↓reduceIte, Nat.reduceEqDiff, h1], by simp only [get_put, n_put, ↓reduceIte, Nat.reduceEqDiff]; rfl⟩
    · simp (config := { maxSteps := 1000000, implicitDefEqProofs := false }) (disch := omega) only [allW, allR, oneOf, evalAll, partsA, optA, Nat.reduceLT, Nat.reduceLeDiff, Nat.reduceEqDiff, Nat.reduceAdd, ↓reduceIte, hn, h0, h1, h5, hxt.lenA Try.underlying48, eq_true d1, hix, hiy, hli, hlj, eq_false he, hxt.self, hyt.self, valEq_int, valEq_elemPtr, not_false_eq_true, decide_true]
      exact hQ _ _ _ (.inl ⟨rfl, fun e => he (by subst e; rfl), hst, by simp only [get_put, n_put, ↓reduceIte, Nat.reduceEqDiff, hn], by simp only [get_put, n_put, ↓reduceIte, Nat.reduceEqDiff]⟩)
  clear hn h0 h1 f
  rintro z f t (⟨rfl, hm, hst, hn, h4⟩ | ⟨rfl, hm, hst, hn⟩)
  · simp (config := { maxSteps := 1000000, implicitDefEqProofs := false }) (disch := omega) only [allW, allR, wfn_ret, wfn_normal, oneOf, evalAll, partsA, optA, Nat.reduceLT, Nat.reduceLeDiff, Nat.reduceEqDiff, Nat.reduceAdd, ↓reduceIte, hn, h4, Try.results35]
    exact ⟨by rw [decide_eq_false hm], hst⟩
  · simp (config := { maxSteps := 1000000, implicitDefEqProofs := false }) (disch := omega) only [allW, allR, wfn_ret, wfn_normal, oneOf, evalAll, partsA, optA, Nat.reduceLT, Nat.reduceLeDiff, Nat.reduceEqDiff, Nat.reduceAdd, ↓reduceIte, hn, Try.results35]
    exact ⟨by rw [decide_eq_true hm], hst⟩
theorem libM : LibM libN := by constructor <;> rfl
set_option maxRecDepth 100000 in
set_option maxHeartbeats 8000000 in
theorem law (s : ASt) (ca : List Value) (a : O) (ha : OIs (fun _ => True) s ca a) (fa : Fit a) (hr : (refsO a).length ≤ 1048576) (hd : depO a ≤ 1048576) :
    Runs Try.prog libN 7 [.agg ca.toArray] s fun v _ => v = .bool true := by
  obtain ⟨QQ, hQQ⟩ : ∃ QQ : Value → ASt → Prop, QQ = fun v _ => v = .bool true := ⟨_, rfl⟩
  rw [← hQQ]
  have la := ha.len
  refine Runs.enter 27 Try.func7 rfl rfl rfl rfl ?_
  intro f hn hf
  have h0 : f.get 0 = .agg ca.toArray := hf 0
  clear hf
  simp (config := { maxSteps := 1000000, implicitDefEqProofs := false }) (disch := omega) only [allW, allR, oneOf, evalAll, partsA, optA, Nat.reduceLT, Nat.reduceLeDiff, Nat.reduceEqDiff, Nat.reduceAdd, ↓reduceIte, hn, h0]
  refine wstep_newPtr ?_
  intro s1 ht1 hst1 hnx1
  have ht1 : Thing s1 s.next ca := ht1
  have ha1 := ha.keeps hst1
  simp (config := { maxSteps := 1000000, implicitDefEqProofs := false }) (disch := omega) only [allW, allR, oneOf, evalAll, partsA, optA, Nat.reduceLT, Nat.reduceLeDiff, Nat.reduceEqDiff, Nat.reduceAdd, ↓reduceIte, hn, h0, la]
  refine (awake_any rfl libC s1).mono ?_
  rintro _ s2 ⟨rfl, h2⟩
  have xa : ∀ t, Stay s1.next s1 t → loadA Try.prog t 26 (.pointer (some ⟨s.next, 0, some 6⟩)) = some (.agg ca.toArray) := fun t h => Thing.loadO (ht1.keeps h) la
  simp (config := { maxSteps := 1000000, implicitDefEqProofs := false }) (disch := omega) only [allW, allR, oneOf, evalAll, partsA, optA, Nat.reduceLT, Nat.reduceLeDiff, Nat.reduceEqDiff, Nat.reduceAdd, ↓reduceIte, hn, h0, Bool.not_true, xa s2 h2]
  refine (room_any rfl 60 (by decide) _ a (Nat.le_refl _) _ s2 _ 40 (ha1.keeps h2) fa (by decide) (by decide)).mono ?_
  rintro _ s3 ⟨⟨t3, rfl, sa⟩, h3⟩
  have h13 := h2.trans (h3.weaken h2.next)
  cases t3 with
  | false =>
    simp (config := { maxSteps := 1000000, implicitDefEqProofs := false }) (disch := omega) only [allW, allR, wfn_ret, wfn_normal, oneOf, evalAll, partsA, optA, Nat.reduceLT, Nat.reduceLeDiff, Nat.reduceEqDiff, Nat.reduceAdd, ↓reduceIte, hn, h0, Bool.not_false, Try.results7]
    rw [hQQ]
  | true =>
  have sa := (sa rfl).1
  have n1 := hst1.next
  have n13 := h13.next
  simp (config := { maxSteps := 1000000, implicitDefEqProofs := false }) (disch := omega) only [allW, allR, oneOf, evalAll, partsA, optA, Nat.reduceLT, Nat.reduceLeDiff, Nat.reduceEqDiff, Nat.reduceAdd, ↓reduceIte, hn, h0, Bool.not_true]
  obtain ⟨A, hA⟩ : ∃ A : Nat → Bool, A = fun j => decide (j < s3.next) := ⟨_, rfl⟩
  have hAl : ∀ j, A j = true → j < s3.next := by
    intro j h
    rw [hA] at h
    exact of_decide_eq_true h
  have hAo : ∀ j, j < s3.next → A j = true := fun j h => by rw [hA]; exact decide_eq_true h
  refine LB.Drawn.looseK A hAl 7 0 (by kernel_rfl) (by kernel_rfl) ?_
  have hsp := Stay.spare s3 0
  have hnT : (spare s3 0).next = s3.next + 0 := spare_next _ _
  have hl1 : ∀ k, LA.lowV A (some (.pointer (some ⟨s.next, k, some 6⟩))) = true := fun k => LA.lowV_ptr (A := A) (i := s.next) (hAo _ (by omega))
  have wa : valEq (.agg ca.toArray) (.agg ca.toArray) = true := ha.self
  have wB : ∀ b, valEq (.bool b) (.bool b) = true := fun b => by cases b <;> rfl
  have za : ∀ t, Stay s3.next s3 t → loadA Try.prog t 26 (.pointer (some ⟨s.next, 0, some 6⟩)) = some (.agg ca.toArray) := fun t h => xa t (h13.trans (h.weaken h13.next))
  have oa : ∀ t, Stay s3.next s3 t → OIs (fun _ => True) t ca a := fun t h => ha1.keeps (h13.trans (h.weaken h13.next))
  simp (config := { maxSteps := 1000000, implicitDefEqProofs := false }) (disch := omega) only [allW, allR, allL, allB, Nat.sub_self, Nat.add_one_sub_one, Nat.reduceSub, oneOf, evalAll, partsA, optA, Nat.reduceLT, Nat.reduceLeDiff, Nat.reduceEqDiff, Nat.reduceAdd, ↓reduceIte, hn, h0, hl1, za _ hsp, wa, wB]
  refine (mayTop_any libM rfl a _ _ _ (oa _ hsp) fa).mono ?_
  rintro _ t1 ⟨⟨u1, rfl, e1⟩, k1⟩
  have k01 := hsp.trans (k1.weaken hsp.next)
  refine ⟨fun _ => LA.Stay.toA hAl (k1.weaken (by omega)), ?_⟩
  simp (config := { maxSteps := 1000000, implicitDefEqProofs := false }) (disch := omega) only [allW, allR, allL, allB, Nat.sub_self, Nat.add_one_sub_one, Nat.reduceSub, oneOf, evalAll, partsA, optA, Nat.reduceLT, Nat.reduceLeDiff, Nat.reduceEqDiff, Nat.reduceAdd, ↓reduceIte, hn, h0, hl1, za _ k01, wa, wB]
  refine (rmayTop_any rfl rfl rfl rfl rfl rfl a _ _ _ (oa _ k01) fa).mono ?_
  rintro _ t2 ⟨⟨u2, rfl, e2⟩, k2⟩
  have k02 := k01.trans (k2.weaken k01.next)
  obtain rfl : u1 = u2 := Bool.eq_iff_iff.2 (e1.trans e2.symm)
  refine ⟨fun _ => LA.Stay.toA hAl (k2.weaken (by have := k01.next; omega)), ?_⟩
  simp (config := { maxSteps := 1000000, implicitDefEqProofs := false }) (disch := omega) only [allW, allR, allL, allB, Nat.sub_self, Nat.add_one_sub_one, Nat.reduceSub, oneOf, evalAll, partsA, optA, Nat.reduceLT, Nat.reduceLeDiff, Nat.reduceEqDiff, Nat.reduceAdd, ↓reduceIte, hn, h0, hl1, za _ k02, wa, wB, eql_bool Try.underlying4, decide_true]
  refine (depth_any rfl rfl rfl _ a (Nat.le_refl _) _ _ _ (oa _ k02) sa (by omega)).mono ?_
  rintro _ t3 ⟨rfl, k3⟩
  have k03 := k02.trans (k3.weaken k02.next)
  refine ⟨fun _ => LA.Stay.toA hAl (k3.weaken (by have := k02.next; omega)), ?_⟩
  simp (config := { maxSteps := 1000000, implicitDefEqProofs := false }) (disch := omega) only [allW, allR, allL, allB, Nat.sub_self, Nat.add_one_sub_one, Nat.reduceSub, oneOf, evalAll, partsA, optA, Nat.reduceLT, Nat.reduceLeDiff, Nat.reduceEqDiff, Nat.reduceAdd, ↓reduceIte, hn, h0, hl1, za _ k03, wa, wB, valEq_int, eql_bool Try.underlying4, decide_true]
  refine (rdepth_any rfl _ a (Nat.le_refl _) _ _ _ (oa _ k03) sa (by omega)).mono ?_
  rintro _ t4 ⟨rfl, k4⟩
  have k04 := k03.trans (k4.weaken k03.next)
  refine ⟨fun _ => LA.Stay.toA hAl (k4.weaken (by have := k03.next; omega)), ?_⟩
  simp (config := { maxSteps := 1000000, implicitDefEqProofs := false }) (disch := omega) only [allW, allR, allL, allB, Nat.sub_self, Nat.add_one_sub_one, Nat.reduceSub, oneOf, evalAll, partsA, optA, Nat.reduceLT, Nat.reduceLeDiff, Nat.reduceEqDiff, Nat.reduceAdd, ↓reduceIte, hn, h0, hl1, za _ k04, wa, wB, valEq_int, eql_bool Try.underlying4, decide_true]
  refine (refs_any rfl rfl rfl _ a (Nat.le_refl _) _ _ _ (oa _ k04) sa (by omega)).mono ?_
  rintro v5 t5 ⟨hv5, hF5, k5⟩
  have k05 := k04.trans (k5.weaken k04.next)
  refine ⟨fun _ => LA.Stay.toA hAl (k5.weaken (by have := k04.next; omega)), ?_⟩
  simp (config := { maxSteps := 1000000, implicitDefEqProofs := false }) (disch := omega) only [allW, allR, allL, allB, Nat.sub_self, Nat.add_one_sub_one, Nat.reduceSub, oneOf, evalAll, partsA, optA, Nat.reduceLT, Nat.reduceLeDiff, Nat.reduceEqDiff, Nat.reduceAdd, ↓reduceIte, hn, h0, hl1, za _ k05, wa, wB, hv5.self, valEq_int, eql_bool Try.underlying4, decide_true]
  refine (rrefs_any rfl _ a (Nat.le_refl _) _ _ _ (oa _ k05) sa (by omega)).mono ?_
  rintro v6 t6 ⟨hv6, hF6, k6⟩
  have k06 := k05.trans (k6.weaken k05.next)
  refine ⟨fun _ => LA.Stay.toA hAl (k6.weaken (by have := k05.next; omega)), ?_⟩
  have hv5' := hv5.keeps k6
  refine (cints_any rfl _ _ _ (refsO a) (refsO a) hv5'.sees hv6.sees (by omega)).mono ?_
  rintro _ t7 ⟨rfl, k7⟩
  refine ⟨fun _ => LA.Stay.toA hAl (k7.weaken (by have := k06.next; omega)), ?_⟩
  simp (config := { maxSteps := 1000000, implicitDefEqProofs := false }) (disch := omega) only [allW, allR, allL, allB, Nat.sub_self, Nat.add_one_sub_one, Nat.reduceSub, oneOf, evalAll, partsA, optA, Nat.reduceLT, Nat.reduceLeDiff, Nat.reduceEqDiff, Nat.reduceAdd, ↓reduceIte, allW, allR, oneOf, evalAll, partsA, optA, Nat.reduceLT, Nat.reduceLeDiff, Nat.reduceEqDiff, Nat.reduceAdd, ↓reduceIte, hn, h0, wB, decide_true]
  simp (config := { maxSteps := 1000000, implicitDefEqProofs := false }) (disch := omega) only [allW, allR, wfn_ret, wfn_normal, oneOf, evalAll, partsA, optA, Nat.reduceLT, Nat.reduceLeDiff, Nat.reduceEqDiff, Nat.reduceAdd, ↓reduceIte, hn, Try.results7]
  rw [hQQ]
theorem own : ownKnob Try.prog.godebug = none := by kernel_rfl
theorem sound : progOk Try.prog libN = true := by kernel_rfl
theorem laid : laidOutB Try.prog = true := by kernel_rfl
theorem read : ∀ t ∈ Try.f7.params.toList, Try.prog.readableRec t = true ∧ t < Try.prog.types.size := by
  have : (Try.f7.params.toList.all fun t => Try.prog.readableRec t && decide (t < Try.prog.types.size)) = true := by kernel_rfl
  intro t ht
  simpa using List.all_eq_true.mp this t ht
set_option maxRecDepth 100000 in
theorem lifted (os : Os) (started : os.Started) (H : Type) (enc : TypeId × Value → H) (F : Stop.Interp) :
    ReturnsInHanded {} Try.checked os 7 .any ((Rows.OpenSpec.upto Rows.cosMaySpec).pre6 enc Try.prog Try.f7 Rows.cosMayUptoRow.domain false) (((Rows.OpenSpec.upto Rows.cosMaySpec).at F).post enc Try.prog Try.f7 false true false false) := by
  refine returnsInHanded_of_cond_sized (C := Try.checked) (s := Rows.OpenSpec.upto Rows.cosMaySpec) (k := Rows.uptoSmall) rfl own started (by kernel_rfl) Try.func7
    (OpenSpec.witness (enc := enc) (C := Try.checked) (s := Rows.OpenSpec.upto Rows.cosMaySpec) (k := Rows.uptoSmall) rfl false ⟨#[], #[.agg #[.int .i64 0, .int .i64 0, .slice none 0 0, .slice none 0 0, .slice none 0 0]], []⟩ 8 (by kernel_rfl) (by kernel_rfl) (by kernel_rfl)
      (x := ([.agg [.lit (.int .i64 0), .lit (.int .i64 0), .nil, .nil, .nil]], [], [])) (by kernel_rfl) rfl (by kernel_rfl)) ?_
  intro W base args ds gs before hval hW hcnd hk hsz _
  obtain ⟨p, q, hA, hV, _, _, _⟩ := id hW
  have hA : DataW.TrodAll enc Try.prog W 0 (fun _ => true) true Try.f7.params.toList args.toList ds p := hA
  obtain ⟨rfl, rfl⟩ := trodVars_none hV
  rw [Try.params7] at hA
  obtain ⟨v0, d0, rfl, rfl, h0⟩ := trodAll_one hA
  have hv0 : Value.okWide Try.prog W .any base 26 v0 := hval 0 _ _ (by rw [Try.params7]; rfl) rfl
  have hw0 : Wt Try.prog 26 d0 := fun n hn => by simpa using List.all_eq_true.1 hsz n (DataW.weights_mem_each (j := 0) (t := 26) (d := d0) (by rw [Try.params7]; rfl) rfl n hn)
  obtain ⟨S0, c0, o0, hg0, hr0, ho0, hf0, hq0, hp0⟩ := arg_objW (Begun.start W) hv0 h0 hw0 hk
  have hcalls := Runs.callsL libFr (libOk _) sound rfl hg0.begun (law S0.s c0 o0 ho0 hf0 hq0 hp0) (args' := #[v0]) (VRL.cons hr0 VRL.nil)
  refine hcalls.mono fun e W' ⟨he, hb⟩ => ?_
  subst he
  exact law_post laid read rfl Try.underlying4 rfl (fun L hL => by match L, hL with | [a0], _ => rfl) hW hb
theorem over : Rows.cosMayUptoRow.holds Try.pinned (Rows.OpenSpec.upto Rows.cosMaySpec) :=
  OpenClaim.holds_of_cond 7 Try.f7 rfl rfl rfl rfl rfl rfl rfl ⟨rfl, rfl, rfl, rfl, rfl⟩ rfl rfl rfl rfl rfl (by kernel_rfl) Try.func7 (by kernel_rfl)
    (of_decide_eq_true (by kernel_rfl)) (by unfold Func.isWrapper; first | (rw [if_pos (by decide +kernel)]; kernel_rfl) | (rw [if_neg (by decide +kernel)]; exact ⟨rfl, rfl⟩))
    (fun os started H enc _ F => lifted os started H enc F)
theorem proved : Rows.CosMayUptoSaid := over
#print axioms proved
end Go.Proofs.Ytdhdhbkikhedlaa.cosMay
