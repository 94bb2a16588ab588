/-
  The statement CosSame: two objects that may be are the same, or not; one is the same as its copy; the copy is its own: the law returns true.
  Conditions: none.
-/
import Derived.Test.YtdhdhbkikhedlaaRows
import Derived.Test.YtdhdhbkikhedlaaCosU
import Derived.Test.YtdhdhbkikhedlaaObjL
import Derived.Test.YtdhdhbkikhedlaaCosE
import Derived.Test.YtdhdhbkikhedlaaCosR
import Derived.Test.YtdhdhbkikhedlaaCosM
import Derived.Test.YtdhdhbkikhedlaaCosS
import Derived.Test.YtdhdhbkikhedlaaBigP
set_option linter.unusedSimpArgs false
set_option linter.unusedVariables false
namespace Go.Cl
theorem ofBytes_set (b : List UInt8) (i : Nat) (u : UInt8) : (ofBytes b).set i (.int .u8 (u.toNat : Int)) = ofBytes (b.set i u) := by
  unfold ofBytes; rw [List.map_set]
end Go.Cl
namespace Go.Proofs.Ytdhdhbkikhedlaa.cosSame
open Go.ChangeShapes Go.WideShapes Go.ChangeAt Go.RowKit Go.Cl Go.Lib
set_option maxRecDepth 100000 in
set_option maxHeartbeats 8000000 in
theorem law (s : ASt) (ca : List Value) (a : O) (ha : OIs (fun _ => True) s ca a) (fa : Fit a) (cb : List Value) (b : O) (hb : OIs (fun _ => True) s cb b) (fb : Fit b) :
    Runs Try.prog libN 5 [.agg ca.toArray, .agg cb.toArray] s fun v _ => v = .bool true := by
  obtain ⟨QQ, hQQ⟩ : ∃ QQ : Value → ASt → Prop, QQ = fun v _ => v = .bool true := ⟨_, rfl⟩
  rw [← hQQ]
  have la := ha.len
  have lb := hb.len
  refine Runs.enter 103 Try.func5 rfl rfl rfl rfl ?_
  intro f hn hf
  have h0 : f.get 0 = .agg ca.toArray := hf 0
  have h1 : f.get 1 = .agg cb.toArray := hf 1
  clear hf
  simp (config := { maxSteps := 1000000, implicitDefEqProofs := false }) (disch := omega) only [allW, allR, oneOf, evalAll, partsA, optA, Nat.reduceLT, Nat.reduceLeDiff, Nat.reduceEqDiff, Nat.reduceAdd, ↓reduceIte, hn, h0, h1]
  refine wstep_newPtr ?_
  intro s1 ht1 hst1 hnx1
  simp (config := { maxSteps := 1000000, implicitDefEqProofs := false }) (disch := omega) only [allW, allR, oneOf, evalAll, partsA, optA, Nat.reduceLT, Nat.reduceLeDiff, Nat.reduceEqDiff, Nat.reduceAdd, ↓reduceIte, hn, h0, h1, la]
  refine wstep_newPtr ?_
  intro s2 ht2 hst2 hnx2
  have hs2 : Stay s.next s s2 := hst1.trans (hst2.weaken (by omega))
  have ht12 := ht1.keeps hst2
  have ha2 := ha.keeps hs2
  have hb2 := hb.keeps hs2
  simp (config := { maxSteps := 1000000, implicitDefEqProofs := false }) (disch := omega) only [allW, allR, oneOf, evalAll, partsA, optA, Nat.reduceLT, Nat.reduceLeDiff, Nat.reduceEqDiff, Nat.reduceAdd, ↓reduceIte, hn, h0, h1, lb]
  refine (awake_any rfl libC s2).mono ?_
  rintro _ s3 ⟨rfl, h3⟩
  have xa : ∀ t, Stay s2.next s2 t → loadA Try.prog t 26 (.pointer (some ⟨s.next, 0, some 6⟩)) = some (.agg ca.toArray) := fun t h => Thing.loadO (ht12.keeps h) la
  have xb : ∀ t, Stay s2.next s2 t → loadA Try.prog t 26 (.pointer (some ⟨s1.next, 0, some 6⟩)) = some (.agg cb.toArray) := fun t h => Thing.loadO (ht2.keeps h) lb
  simp (config := { maxSteps := 1000000, implicitDefEqProofs := false }) (disch := omega) only [allW, allR, oneOf, evalAll, partsA, optA, Nat.reduceLT, Nat.reduceLeDiff, Nat.reduceEqDiff, Nat.reduceAdd, ↓reduceIte, hn, h0, h1, xa s3 h3]
  refine (rmayTop_any rfl rfl rfl rfl rfl rfl a _ s3 _ (ha2.keeps h3) fa).mono ?_
  rintro _ s4 ⟨⟨t1, rfl, _⟩, h4⟩
  have h24 := h3.trans (h4.weaken h3.next)
  cases t1 with
  | false =>
    simp (config := { maxSteps := 1000000, implicitDefEqProofs := false }) (disch := omega) only [allW, allR, wfn_ret, wfn_normal, oneOf, evalAll, partsA, optA, Nat.reduceLT, Nat.reduceLeDiff, Nat.reduceEqDiff, Nat.reduceAdd, ↓reduceIte, hn, h0, h1, Try.results5]
    rw [hQQ]
  | true =>
  simp (config := { maxSteps := 1000000, implicitDefEqProofs := false }) (disch := omega) only [allW, allR, oneOf, evalAll, partsA, optA, Nat.reduceLT, Nat.reduceLeDiff, Nat.reduceEqDiff, Nat.reduceAdd, ↓reduceIte, hn, h0, h1, xb s4 h24]
  refine (rmayTop_any rfl rfl rfl rfl rfl rfl b _ s4 _ (hb2.keeps h24) fb).mono ?_
  rintro _ s5 ⟨⟨t2, rfl, _⟩, h5⟩
  have h25 := h24.trans (h5.weaken h24.next)
  cases t2 with
  | false =>
    simp (config := { maxSteps := 1000000, implicitDefEqProofs := false }) (disch := omega) only [allW, allR, wfn_ret, wfn_normal, oneOf, evalAll, partsA, optA, Nat.reduceLT, Nat.reduceLeDiff, Nat.reduceEqDiff, Nat.reduceAdd, ↓reduceIte, hn, h0, h1, Try.results5]
    rw [hQQ]
  | true =>
  simp (config := { maxSteps := 1000000, implicitDefEqProofs := false }) (disch := omega) only [allW, allR, oneOf, evalAll, partsA, optA, Nat.reduceLT, Nat.reduceLeDiff, Nat.reduceEqDiff, Nat.reduceAdd, ↓reduceIte, hn, h0, h1, xa s5 h25]
  refine (room_any rfl 60 (by decide) _ a (Nat.le_refl _) _ s5 _ 8 (ha2.keeps h25) fa (by decide) (by decide)).mono ?_
  rintro _ s6 ⟨⟨t3, rfl, sa⟩, h6⟩
  have h26 := h25.trans (h6.weaken h25.next)
  cases t3 with
  | false =>
    simp (config := { maxSteps := 1000000, implicitDefEqProofs := false }) (disch := omega) only [allW, allR, wfn_ret, wfn_normal, oneOf, evalAll, partsA, optA, Nat.reduceLT, Nat.reduceLeDiff, Nat.reduceEqDiff, Nat.reduceAdd, ↓reduceIte, hn, h0, h1, Try.results5]
    rw [hQQ]
  | true =>
  simp (config := { maxSteps := 1000000, implicitDefEqProofs := false }) (disch := omega) only [allW, allR, oneOf, evalAll, partsA, optA, Nat.reduceLT, Nat.reduceLeDiff, Nat.reduceEqDiff, Nat.reduceAdd, ↓reduceIte, hn, h0, h1, xb s6 h26]
  refine (room_any rfl 60 (by decide) _ b (Nat.le_refl _) _ s6 _ 8 (hb2.keeps h26) fb (by decide) (by decide)).mono ?_
  rintro _ s7 ⟨⟨t4, rfl, sb⟩, h7⟩
  have h27 := h26.trans (h7.weaken h26.next)
  cases t4 with
  | false =>
    simp (config := { maxSteps := 1000000, implicitDefEqProofs := false }) (disch := omega) only [allW, allR, wfn_ret, wfn_normal, oneOf, evalAll, partsA, optA, Nat.reduceLT, Nat.reduceLeDiff, Nat.reduceEqDiff, Nat.reduceAdd, ↓reduceIte, hn, h0, h1, Try.results5]
    rw [hQQ]
  | true =>
  have sa := (sa rfl).1
  have sb := (sb rfl).1
  simp (config := { maxSteps := 1000000, implicitDefEqProofs := false }) (disch := omega) only [allW, allR, oneOf, evalAll, partsA, optA, Nat.reduceLT, Nat.reduceLeDiff, Nat.reduceEqDiff, Nat.reduceAdd, ↓reduceIte, hn, h0, h1, xa s7 h27]
  refine (copyO rfl rfl _ a (Nat.le_refl _) _ s7 _ (ha2.keeps h27) sa).mono ?_
  intro v s8 hc8
  obtain ⟨bv, lv, dv, LC, DC, rfl, hob, hol, hod, Fb, Fl, Fd, nbl, nbd, nld, hrl, hrd, h8⟩ := hc8
  have h28 := h27.trans (h8.weaken h27.next)
  refine wcall_reframe (fun f => f.n = 103 ∧ f.get 2 = .pointer (some ⟨s.next, 0, some 6⟩) ∧ f.get 3 = .pointer (some ⟨s1.next, 0, some 6⟩)) ⟨by simp only [get_put, n_put, ↓reduceIte, Nat.reduceEqDiff, hn], by first | simp only [get_put, n_put, ↓reduceIte, Nat.reduceEqDiff, h2] | simp only [get_put, n_put, ↓reduceIte, Nat.reduceEqDiff], by first | simp only [get_put, n_put, ↓reduceIte, Nat.reduceEqDiff, h3] | simp only [get_put, n_put, ↓reduceIte, Nat.reduceEqDiff]⟩ ?_
  rintro f ⟨hn, h2, h3⟩
  simp (config := { maxSteps := 1000000, implicitDefEqProofs := false }) (disch := omega) only [allW, allR, oneOf, evalAll, partsA, optA, Nat.reduceLT, Nat.reduceLeDiff, Nat.reduceEqDiff, Nat.reduceAdd, ↓reduceIte, hn, h2, h3, zO, plO]
  refine wstep_newPtr ?_
  intro s9 ht9 h9 hnx9
  have hd6 : noneC.length + 1 = 6 := rfl
  have okc : [Value.int .i64 a.kind, .int .i64 a.num, bv, lv, dv].all okCell = true := by
    have o1 := hob.sees.okCell
    have o2 := hol.sees.okCell
    have o3 := hod.sees.okCell
    simp only [List.all_cons, List.all_nil, o1, o2, o3]; rfl
  simp (config := { maxSteps := 1000000, implicitDefEqProofs := false }) (disch := omega) only [allW, allR, oneOf, evalAll, partsA, optA, Nat.reduceLT, Nat.reduceLeDiff, Nat.reduceEqDiff, Nat.reduceAdd, ↓reduceIte, hn, h2, h3, hd6]
  refine wstep_storeAll szO (by decide) ht9 rfl rfl rfl okc ?_
  intro s10 ht10 hnx10 hot10
  have ht10 : Thing s10 s8.next [.int .i64 a.kind, .int .i64 a.num, bv, lv, dv] := ht10
  have h810 : Stay s8.next s8 s10 := h9.trans ⟨by omega, fun j hj => hot10 j (by omega)⟩
  have h210 : Stay s2.next s2 s10 := h28.trans (h810.weaken h28.next)
  have n8 := h8.next
  have n28 := h28.next
  have n27 := h27.next
  have n810 := h810.next
  have hlt10 := ht10.lt
  have hcO : OIs (fun j => s7.next ≤ j) s8 [.int .i64 a.kind, .int .i64 a.num, bv, lv, dv] a := by
    cases a with
    | mk k n b l d => exact OIs.whole hob.sees hol.sees hod.sees (Foot.fresh Fb) (Foot.fresh Fl) (Foot.fresh Fd) (hrl.mono rowedO fun j h => h.1) (hrd.mono rowedE fun j h => h.1)
  simp (config := { maxSteps := 1000000, implicitDefEqProofs := false }) (disch := omega) only [allW, allR, oneOf, evalAll, partsA, optA, Nat.reduceLT, Nat.reduceLeDiff, Nat.reduceEqDiff, Nat.reduceAdd, ↓reduceIte, hn, h2, h3]
  obtain ⟨A, hA⟩ : ∃ A : Nat → Bool, A = fun j => decide (j < s10.next) := ⟨_, rfl⟩
  have hAl : ∀ j, A j = true → j < s10.next := by
    intro j h
    rw [hA] at h
    exact of_decide_eq_true h
  have hAo : ∀ j, j < s10.next → A j = true := fun j h => by rw [hA]; exact decide_eq_true h
  refine LB.Drawn.looseK A hAl 6 0 (by kernel_rfl) (by kernel_rfl) ?_
  have hsp := Stay.spare s10 0
  have hnT : (spare s10 0).next = s10.next + 0 := spare_next _ _
  have hl2 : ∀ k, LA.lowV A (some (.pointer (some ⟨s.next, k, some 6⟩))) = true := fun k => LA.lowV_ptr (A := A) (i := s.next) (hAo _ (by have := hst1.next; have := hst2.next; omega))
  have hl3 : ∀ k, LA.lowV A (some (.pointer (some ⟨s1.next, k, some 6⟩))) = true := fun k => LA.lowV_ptr (A := A) (i := s1.next) (hAo _ (by have := hst2.next; omega))
  have hl5 : ∀ k, LA.lowV A (some (.pointer (some ⟨s8.next, k, some 6⟩))) = true := fun k => LA.lowV_ptr (A := A) (i := s8.next) (hAo _ (by omega))
  have q10 : Stay s10.next s10 (spare s10 0) := hsp
  have wa : valEq (.agg ca.toArray) (.agg ca.toArray) = true := ha.self
  have wb : valEq (.agg cb.toArray) (.agg cb.toArray) = true := hb.self
  have wc : valEq (.agg #[.int .i64 a.kind, .int .i64 a.num, bv, lv, dv]) (.agg #[.int .i64 a.kind, .int .i64 a.num, bv, lv, dv]) = true := hcO.self
  have wB : ∀ b, valEq (.bool b) (.bool b) = true := fun b => by cases b <;> rfl
  have xc : ∀ t, Stay s10.next s10 t → loadA Try.prog t 26 (.pointer (some ⟨s8.next, 0, some 6⟩)) = some (.agg #[.int .i64 a.kind, .int .i64 a.num, bv, lv, dv]) := fun t h => Thing.loadO (ht10.keeps h) rfl
  have oa : ∀ t, Stay s10.next s10 t → OIs (fun _ => True) t ca a := fun t h => ha2.keeps (h210.trans (h.weaken h210.next))
  have ob : ∀ t, Stay s10.next s10 t → OIs (fun _ => True) t cb b := fun t h => hb2.keeps (h210.trans (h.weaken h210.next))
  have oc : ∀ t, Stay s10.next s10 t → OIs (fun j => s7.next ≤ j) t [.int .i64 a.kind, .int .i64 a.num, bv, lv, dv] a := fun t h => hcO.keeps (h810.trans (h.weaken n810))
  have za : ∀ t, Stay s10.next s10 t → loadA Try.prog t 26 (.pointer (some ⟨s.next, 0, some 6⟩)) = some (.agg ca.toArray) := fun t h => xa t (h210.trans (h.weaken h210.next))
  have zb : ∀ t, Stay s10.next s10 t → loadA Try.prog t 26 (.pointer (some ⟨s1.next, 0, some 6⟩)) = some (.agg cb.toArray) := fun t h => xb t (h210.trans (h.weaken h210.next))
  simp (config := { maxSteps := 1000000, implicitDefEqProofs := false }) (disch := omega) only [allW, allR, allL, allB, Nat.sub_self, Nat.add_one_sub_one, Nat.reduceSub, oneOf, evalAll, partsA, optA, Nat.reduceLT, Nat.reduceLeDiff, Nat.reduceEqDiff, Nat.reduceAdd, ↓reduceIte, hn, h2, h3, hl2, hl3, hl5, za _ q10, xc _ q10, wa, wb, wc, wB]
  refine (rsame_any rfl rfl _ a a (Nat.le_refl _) _ _ _ _ _ (oa _ q10) (oc _ q10) sa sa).mono ?_
  rintro _ t1 ⟨⟨u1, rfl, e1⟩, k1⟩
  have k01 := q10.trans (k1.weaken q10.next)
  obtain rfl : u1 = true := e1.2 (SameO.self a)
  refine ⟨fun _ => LA.Stay.toA hAl (k1.weaken (by omega)), ?_⟩
  simp (config := { maxSteps := 1000000, implicitDefEqProofs := false }) (disch := omega) only [allW, allR, allL, allB, Nat.sub_self, Nat.add_one_sub_one, Nat.reduceSub, oneOf, evalAll, partsA, optA, Nat.reduceLT, Nat.reduceLeDiff, Nat.reduceEqDiff, Nat.reduceAdd, ↓reduceIte, hn, h2, h3, hl2, hl3, hl5, za _ k01, xc _ k01, wa, wb, wc, wB]
  refine (csame_any rfl rfl rfl rfl rfl _ a a (Nat.le_refl _) _ _ _ _ _ (oa _ k01) (oc _ k01) sa sa).mono ?_
  rintro _ t2 ⟨⟨u2, rfl, e2⟩, k2⟩
  have k02 := k01.trans (k2.weaken k01.next)
  obtain rfl : u2 = true := e2.2 (SameO.self a)
  refine ⟨fun _ => LA.Stay.toA hAl (k2.weaken (by have := k01.next; omega)), ?_⟩
  simp (config := { maxSteps := 1000000, implicitDefEqProofs := false }) (disch := omega) only [allW, allR, allL, allB, Nat.sub_self, Nat.add_one_sub_one, Nat.reduceSub, oneOf, evalAll, partsA, optA, Nat.reduceLT, Nat.reduceLeDiff, Nat.reduceEqDiff, Nat.reduceAdd, ↓reduceIte, hn, h2, h3, hl2, hl3, hl5, za _ k02, zb _ k02, xc _ k02, wa, wb, wc, wB, neq_bool Try.underlying4, Bool.not_true, Bool.not_false]
  refine (csame_any rfl rfl rfl rfl rfl _ a b (Nat.le_refl _) _ _ _ _ _ (oa _ k02) (ob _ k02) sa sb).mono ?_
  rintro _ t3 ⟨⟨u3, rfl, e3⟩, k3⟩
  have k03 := k02.trans (k3.weaken k02.next)
  skip
  refine ⟨fun _ => LA.Stay.toA hAl (k3.weaken (by have := k02.next; omega)), ?_⟩
  simp (config := { maxSteps := 1000000, implicitDefEqProofs := false }) (disch := omega) only [allW, allR, allL, allB, Nat.sub_self, Nat.add_one_sub_one, Nat.reduceSub, oneOf, evalAll, partsA, optA, Nat.reduceLT, Nat.reduceLeDiff, Nat.reduceEqDiff, Nat.reduceAdd, ↓reduceIte, hn, h2, h3, hl2, hl3, hl5, za _ k03, zb _ k03, xc _ k03, wa, wb, wc, wB, neq_bool Try.underlying4, Bool.not_true, Bool.not_false]
  refine (rsame_any rfl rfl _ a b (Nat.le_refl _) _ _ _ _ _ (oa _ k03) (ob _ k03) sa sb).mono ?_
  rintro _ t4 ⟨⟨u4, rfl, e4⟩, k4⟩
  have k04 := k03.trans (k4.weaken k03.next)
  obtain rfl : u3 = u4 := Bool.eq_iff_iff.2 (e3.trans e4.symm)
  refine ⟨fun _ => LA.Stay.toA hAl (k4.weaken (by have := k03.next; omega)), ?_⟩
  simp (config := { maxSteps := 1000000, implicitDefEqProofs := false }) (disch := omega) only [allW, allR, allL, allB, Nat.sub_self, Nat.add_one_sub_one, Nat.reduceSub, oneOf, evalAll, partsA, optA, Nat.reduceLT, Nat.reduceLeDiff, Nat.reduceEqDiff, Nat.reduceAdd, ↓reduceIte, hn, h2, h3, hl2, hl3, hl5, za _ k04, zb _ k04, xc _ k04, wa, wb, wc, wB, neq_bool Try.underlying4, Bool.not_true, Bool.not_false]
  refine (csame_any rfl rfl rfl rfl rfl _ b a (Nat.le_refl _) _ _ _ _ _ (ob _ k04) (oa _ k04) sb sa).mono ?_
  rintro _ t5 ⟨⟨u5, rfl, e5⟩, k5⟩
  have k05 := k04.trans (k5.weaken k04.next)
  skip
  refine ⟨fun _ => LA.Stay.toA hAl (k5.weaken (by have := k04.next; omega)), ?_⟩
  simp (config := { maxSteps := 1000000, implicitDefEqProofs := false }) (disch := omega) only [allW, allR, allL, allB, Nat.sub_self, Nat.add_one_sub_one, Nat.reduceSub, oneOf, evalAll, partsA, optA, Nat.reduceLT, Nat.reduceLeDiff, Nat.reduceEqDiff, Nat.reduceAdd, ↓reduceIte, hn, h2, h3, hl2, hl3, hl5, za _ k05, zb _ k05, xc _ k05, wa, wb, wc, wB, neq_bool Try.underlying4, Bool.not_true, Bool.not_false]
  refine (csame_any rfl rfl rfl rfl rfl _ a b (Nat.le_refl _) _ _ _ _ _ (oa _ k05) (ob _ k05) sa sb).mono ?_
  rintro _ t6 ⟨⟨u6, rfl, e6⟩, k6⟩
  have k06 := k05.trans (k6.weaken k05.next)
  obtain rfl : u5 = u6 := Bool.eq_iff_iff.2 ((e5.trans ⟨SameO.symm, SameO.symm⟩).trans e6.symm)
  refine ⟨fun _ => LA.Stay.toA hAl (k6.weaken (by have := k05.next; omega)), ?_⟩
  simp (config := { maxSteps := 1000000, implicitDefEqProofs := false }) (disch := omega) only [allW, allR, allL, allB, Nat.sub_self, Nat.add_one_sub_one, Nat.reduceSub, oneOf, evalAll, partsA, optA, Nat.reduceLT, Nat.reduceLeDiff, Nat.reduceEqDiff, Nat.reduceAdd, ↓reduceIte, hn, h2, h3, hl2, hl3, hl5, za _ k06, zb _ k06, xc _ k06, wa, wb, wc, wB, neq_bool Try.underlying4, Bool.not_true, Bool.not_false]
  have n06 := k06.next
  refine (rcopyO rfl rfl _ a (Nat.le_refl _) _ t6 _ (oa _ k06) sa).mono ?_
  rintro _ t7 ⟨cw, rfl, ow, k7⟩
  have lw := ow.len
  have k07 := k06.trans (k7.weaken n06)
  refine wcall_reframe (fun f => f.n = 103 ∧ f.get 2 = .pointer (some ⟨s.next, 0, some 6⟩) ∧ f.get 5 = .pointer (some ⟨s8.next, 0, some 6⟩)) ⟨by simp only [get_put, n_put, ↓reduceIte, Nat.reduceEqDiff, hn], by first | simp only [get_put, n_put, ↓reduceIte, Nat.reduceEqDiff, h2] | simp only [get_put, n_put, ↓reduceIte, Nat.reduceEqDiff], by first | simp only [get_put, n_put, ↓reduceIte, Nat.reduceEqDiff, h5] | simp only [get_put, n_put, ↓reduceIte, Nat.reduceEqDiff]⟩ ?_
  rintro f ⟨hn, h2, h5⟩
  simp (config := { maxSteps := 1000000, implicitDefEqProofs := false }) (disch := omega) only [allW, allR, oneOf, evalAll, partsA, optA, Nat.reduceLT, Nat.reduceLeDiff, Nat.reduceEqDiff, Nat.reduceAdd, ↓reduceIte, hn, h2, h5, zO, plO]
  refine wstep_newPtr ?_
  intro t8 ht8 k8 hnx8
  simp (config := { maxSteps := 1000000, implicitDefEqProofs := false }) (disch := omega) only [allW, allR, oneOf, evalAll, partsA, optA, Nat.reduceLT, Nat.reduceLeDiff, Nat.reduceEqDiff, Nat.reduceAdd, ↓reduceIte, hn, h2, h5, hd6]
  refine wstep_storeAll szO (by decide) ht8 rfl rfl lw ow.ok ?_
  intro t9 ht9' hnx9' hot9'
  have ht9' : Thing t9 t7.next cw := ht9'
  have n7 := k7.next
  have k79 : Stay t7.next t7 t9 := k8.trans ⟨by omega, fun j hj => hot9' j (by omega)⟩
  have k09 : Stay s10.next s10 t9 := k07.trans (k79.weaken k07.next)
  have n07 := k07.next
  obtain ⟨CC, hCC⟩ : ∃ CC, CC = [Value.int .i64 a.kind, .int .i64 a.num, bv, lv, dv] := ⟨_, rfl⟩
  have c29 : Stay s2.next s2 t9 := h210.trans (k09.weaken h210.next)
  have i1 := hst1.next
  have i2 := hst2.next
  have i27 := h27.next
  have bI : ∀ j, idOf bv = some j → s7.next ≤ j ∧ j < s8.next := fun j hj => ⟨Fb j hj, hob.idlt j hj⟩
  have lI : ∀ j, idOf lv = some j → s7.next ≤ j ∧ j < s8.next := fun j hj => ⟨Fl j hj, hol.idlt j hj⟩
  have dI : ∀ j, idOf dv = some j → s7.next ≤ j ∧ j < s8.next := fun j hj => ⟨Fd j hj, hod.idlt j hj⟩
  obtain ⟨PP, hPP⟩ : ∃ PP : ASt → Prop, PP = fun t => Thing t s.next ca ∧ Thing t s8.next CC ∧ Thing t t7.next cw ∧ OIs (fun j => True ∧ j < s.next) t ca a ∧ OIs (fun j => t6.next ≤ j) t cw a := ⟨_, rfl⟩
  have hP9 : PP t9 := by
    rw [hPP]
    exact ⟨ht12.keeps c29, by rw [hCC]; exact ht10.keeps k09, ht9', ha.lows.keeps (hs2.trans (c29.weaken hs2.next)), ow.keeps k79⟩
  have hPt : ∀ (u : Value) (t t' : ASt), (∀ j, idOf u = some j → s7.next ≤ j ∧ j < s8.next) → PP t → Turns u t t' → PP t' := by
    intro u t t' hu hp ht
    rw [hPP] at hp ⊢
    obtain ⟨p1, p2, p3, p4, p5⟩ := hp
    exact ⟨p1.turns ht (fun e => by have := hu _ e; omega), p2.turns ht (fun e => by have := hu _ e; omega), p3.turns ht (fun e => by have := hu _ e; omega), p4.turns ht (fun j hj e => by have := hu _ e; have := hj.2; omega), p5.turns ht (fun j hj e => by have := hu _ e; have hj : t6.next ≤ j := hj; omega)⟩
  have c89 : Stay s8.next s8 t9 := h810.trans (k09.weaken n810)
  have hob9 := hob.keeps c89
  have hol9 := hol.keeps c89
  have hod9 := hod.keeps c89
  have hCt : ∀ t, PP t → loadA Try.prog t 22 (.pointer (some ⟨s8.next, 2, some 6⟩)) = some bv ∧ loadA Try.prog t 23 (.pointer (some ⟨s8.next, 3, some 6⟩)) = some lv ∧ loadA Try.prog t 24 (.pointer (some ⟨s8.next, 4, some 6⟩)) = some dv := by
    intro t hp
    rw [hPP] at hp
    have p2 := hp.2.1
    rw [hCC] at p2
    exact ⟨p2.load agSl (off := 2) (c := 6) rfl (by simp), p2.load agLs (off := 3) (c := 6) rfl (by simp), p2.load agDs (off := 4) (c := 6) rfl (by simp)⟩
  have hfin : ∀ t, PP t → OIs (fun j => True ∧ j < s.next) t ca a ∧ OIs (fun j => t6.next ≤ j) t cw a ∧ loadA Try.prog t 26 (.pointer (some ⟨s.next, 0, some 6⟩)) = some (.agg ca.toArray) ∧ loadA Try.prog t 26 (.pointer (some ⟨t7.next, 0, some 6⟩)) = some (.agg cw.toArray) := by
    intro t hp
    rw [hPP] at hp
    exact ⟨hp.2.2.2.1, hp.2.2.2.2, Thing.loadO hp.1 la, Thing.loadO hp.2.2.1 lw⟩
  have hbn : a.bytes.length ≤ 100000 ∧ a.items.length ≤ 100000 ∧ a.ents.length ≤ 100000 := by
    cases sa; exact ⟨by assumption, by assumption, by assumption⟩
  obtain ⟨hbn, hln, hdn⟩ := hbn
  simp (config := { maxSteps := 1000000, implicitDefEqProofs := false }) (disch := omega) only [allW, allR, oneOf, evalAll, partsA, optA, Nat.reduceLT, Nat.reduceLeDiff, Nat.reduceEqDiff, Nat.reduceAdd, ↓reduceIte, hn, h2, h5]
  clear k1 k2 k3 k4 k5 k6 k01 k02 k03 k04 k05 e1 e2 e3 e4 e5 e6 hPP
  refine Comes.loopOut (fun z f t => ∃ (i : Nat) (B : List UInt8), z = a.bytes.length - i ∧ i ≤ a.bytes.length ∧ B.length = a.bytes.length ∧ Own t 1 bv a.bytes.length (ofBytes B) ∧ Own t 5 lv a.items.length LC ∧ Own t 6 dv a.ents.length DC ∧ PP t ∧ f.n = 103 ∧ f.get 2 = .pointer (some ⟨s.next, 0, some 6⟩) ∧ f.get 5 = .pointer (some ⟨s8.next, 0, some 6⟩) ∧ f.get 6 = .pointer (some ⟨t7.next, 0, some 6⟩) ∧ f.get 7 = .int .i64 (i : Nat))
    (fun z f t => z = .exit 0 ∧ Own t 5 lv a.items.length LC ∧ Own t 6 dv a.ents.length DC ∧ PP t ∧ f.n = 103 ∧ f.get 2 = .pointer (some ⟨s.next, 0, some 6⟩) ∧ f.get 5 = .pointer (some ⟨s8.next, 0, some 6⟩) ∧ f.get 6 = .pointer (some ⟨t7.next, 0, some 6⟩))
    ⟨0, a.bytes, rfl, by omega, rfl, hob9, hol9, hod9, hP9, by simp only [get_put, n_put, ↓reduceIte, Nat.reduceEqDiff, hn], by simp only [get_put, n_put, ↓reduceIte, Nat.reduceEqDiff, h2], by simp only [get_put, n_put, ↓reduceIte, Nat.reduceEqDiff, h5], by simp only [get_put, n_put, ↓reduceIte, Nat.reduceEqDiff], by simp only [get_put, n_put, ↓reduceIte, Nat.reduceEqDiff]; rfl⟩ ?_ ?_
  · clear hn h2 h5 f
    rintro Q hQ z f t ⟨i, B, rfl, hi, hB, p1, p2, p3, hp, hn, h2, h5, h6, h7⟩
    obtain ⟨x2, -, -⟩ := hCt t hp
    by_cases hlt : i < a.bytes.length
    rotate_left
    · obtain rfl : i = a.bytes.length := by omega
      have d1 : ¬ ((a.bytes.length : Nat) : Int) < ((a.bytes.length : Nat) : Int) := by omega
      simp (config := { maxSteps := 1000000, implicitDefEqProofs := false }) (disch := omega) only [allW, allR, oneOf, evalAll, partsA, optA, Nat.reduceLT, Nat.reduceLeDiff, Nat.reduceEqDiff, Nat.reduceAdd, ↓reduceIte, hn, h2, h5, h6, h7, of2, x2, p1.sees.lenA Try.underlying22, eq_false d1]
      exact hQ _ _ _ ⟨rfl, p2, p3, hp, by simp only [get_put, n_put, ↓reduceIte, Nat.reduceEqDiff, hn], by simp only [get_put, n_put, ↓reduceIte, Nat.reduceEqDiff, h2], by simp only [get_put, n_put, ↓reduceIte, Nat.reduceEqDiff, h5], by simp only [get_put, n_put, ↓reduceIte, Nat.reduceEqDiff, h6]⟩
    have d1 : (i : Int) < (a.bytes.length : Int) := by omega
    have hix := p1.sees.indexAddr (P := Try.prog) (k := .i64) (x := (i : Int)) Try.underlying22 szU8 (by omega) (by omega)
    rw [Int.toNat_natCast] at hix
    have hld := p1.sees.load1 (P := Try.prog) agU8 hlt
    have hBi : (ofBytes B).getD i undef = .int .u8 ((B[i]'(by omega)).toNat : Int) := by
      rw [List.getD_eq_getElem?_getD]; simp [ofBytes, List.getElem?_eq_getElem (show i < B.length by omega)]
    rw [hBi] at hld
    have hw8 : IntKind.u8.wrap (((B[i]'(by omega)).toNat : Int) + 1) = ((UInt8.ofNat ((B[i]'(by omega)).toNat + 1)).toNat : Int) := by
      rw [← u8_of]; rfl
    simp (config := { maxSteps := 1000000, implicitDefEqProofs := false }) (disch := omega) only [allW, allR, oneOf, evalAll, partsA, optA, Nat.reduceLT, Nat.reduceLeDiff, Nat.reduceEqDiff, Nat.reduceAdd, ↓reduceIte, hn, h2, h5, h6, h7, of2, x2, p1.sees.lenA Try.underlying22, eq_true d1, hix, hld, hw8]
    refine wstep_storeElem szU8 p1 hlt rfl ?_
    intro t' q1 hu
    simp (config := { maxSteps := 1000000, implicitDefEqProofs := false }) (disch := omega) only [allW, allR, oneOf, evalAll, partsA, optA, Nat.reduceLT, Nat.reduceLeDiff, Nat.reduceEqDiff, Nat.reduceAdd, ↓reduceIte, hn, h2, h5, h6, h7, wrapI]
    exact wround_next (a.bytes.length - (i + 1)) (by omega) ⟨i + 1, B.set i (UInt8.ofNat ((B[i]'(by omega)).toNat + 1)), rfl, by omega, by rw [List.length_set]; exact hB, by rw [← ofBytes_set]; exact q1, p2.turns hu (fun j hj e => nbl j e hj), p3.turns hu (fun j hj e => nbd j e hj), hPt _ _ _ bI hp hu, by simp only [get_put, n_put, ↓reduceIte, Nat.reduceEqDiff, hn], by simp only [get_put, n_put, ↓reduceIte, Nat.reduceEqDiff, h2], by simp only [get_put, n_put, ↓reduceIte, Nat.reduceEqDiff, h5], by simp only [get_put, n_put, ↓reduceIte, Nat.reduceEqDiff, h6], by simp only [get_put, n_put, ↓reduceIte, Nat.reduceEqDiff]; rfl⟩
  clear hn h2 h5 f
  rintro z f t ⟨rfl, p2, p3, hp, hn, h2, h5, h6⟩
  clear hP9 hob9 hol9 hod9
  simp (config := { maxSteps := 1000000, implicitDefEqProofs := false }) (disch := omega) only [allW, allR, oneOf, evalAll, partsA, optA, Nat.reduceLT, Nat.reduceLeDiff, Nat.reduceEqDiff, Nat.reduceAdd, ↓reduceIte, hn, h2, h5, h6]
  refine Comes.loopOut (fun z f t => ∃ (i : Nat) (L : List Value), z = a.items.length - i ∧ i ≤ a.items.length ∧ Own t 5 lv a.items.length L ∧ Own t 6 dv a.ents.length DC ∧ PP t ∧ f.n = 103 ∧ f.get 2 = .pointer (some ⟨s.next, 0, some 6⟩) ∧ f.get 5 = .pointer (some ⟨s8.next, 0, some 6⟩) ∧ f.get 6 = .pointer (some ⟨t7.next, 0, some 6⟩) ∧ f.get 8 = .int .i64 (i : Nat))
    (fun z f t => z = .exit 2 ∧ Own t 6 dv a.ents.length DC ∧ PP t ∧ f.n = 103 ∧ f.get 2 = .pointer (some ⟨s.next, 0, some 6⟩) ∧ f.get 5 = .pointer (some ⟨s8.next, 0, some 6⟩) ∧ f.get 6 = .pointer (some ⟨t7.next, 0, some 6⟩))
    ⟨0, LC, rfl, by omega, p2, p3, hp, by simp only [get_put, n_put, ↓reduceIte, Nat.reduceEqDiff, hn], by simp only [get_put, n_put, ↓reduceIte, Nat.reduceEqDiff, h2], by simp only [get_put, n_put, ↓reduceIte, Nat.reduceEqDiff, h5], by simp only [get_put, n_put, ↓reduceIte, Nat.reduceEqDiff, h6], by simp only [get_put, n_put, ↓reduceIte, Nat.reduceEqDiff]; rfl⟩ ?_ ?_
  · clear hn h2 h5 h6 f p2 p3 hp
    rintro Q hQ z f t ⟨i, L, rfl, hi, p2, p3, hp, hn, h2, h5, h6, h8'⟩
    obtain ⟨-, x2, -⟩ := hCt t hp
    by_cases hlt : i < a.items.length
    rotate_left
    · obtain rfl : i = a.items.length := by omega
      have d1 : ¬ ((a.items.length : Nat) : Int) < ((a.items.length : Nat) : Int) := by omega
      simp (config := { maxSteps := 1000000, implicitDefEqProofs := false }) (disch := omega) only [allW, allR, oneOf, evalAll, partsA, optA, Nat.reduceLT, Nat.reduceLeDiff, Nat.reduceEqDiff, Nat.reduceAdd, ↓reduceIte, hn, h2, h5, h6, h8', of3, x2, p2.sees.lenA Try.underlying23, eq_false d1]
      exact hQ _ _ _ ⟨rfl, p3, hp, by simp only [get_put, n_put, ↓reduceIte, Nat.reduceEqDiff, hn], by simp only [get_put, n_put, ↓reduceIte, Nat.reduceEqDiff, h2], by simp only [get_put, n_put, ↓reduceIte, Nat.reduceEqDiff, h5], by simp only [get_put, n_put, ↓reduceIte, Nat.reduceEqDiff, h6]⟩
    have d1 : (i : Int) < (a.items.length : Int) := by omega
    have hix := p2.sees.indexAddr (P := Try.prog) (k := .i64) (x := (i : Int)) Try.underlying23 szO (by omega) (by omega)
    rw [Int.toNat_natCast] at hix
    simp (config := { maxSteps := 1000000, implicitDefEqProofs := false }) (disch := omega) only [allW, allR, oneOf, evalAll, partsA, optA, Nat.reduceLT, Nat.reduceLeDiff, Nat.reduceEqDiff, Nat.reduceAdd, ↓reduceIte, hn, h2, h5, h6, h8', of3, x2, p2.sees.lenA Try.underlying23, eq_true d1, hix, bO0]
    refine wstep_storeAgg szO (by decide) p2 hlt rfl rfl ?_
    intro t' q2 hu
    simp (config := { maxSteps := 1000000, implicitDefEqProofs := false }) (disch := omega) only [allW, allR, oneOf, evalAll, partsA, optA, Nat.reduceLT, Nat.reduceLeDiff, Nat.reduceEqDiff, Nat.reduceAdd, ↓reduceIte, hn, h2, h5, h6, h8', wrapI]
    exact wround_next (a.items.length - (i + 1)) (by omega) ⟨i + 1, _, rfl, by omega, q2, p3.turns hu (fun j hj e => nld j e hj), hPt _ _ _ lI hp hu, by simp only [get_put, n_put, ↓reduceIte, Nat.reduceEqDiff, hn], by simp only [get_put, n_put, ↓reduceIte, Nat.reduceEqDiff, h2], by simp only [get_put, n_put, ↓reduceIte, Nat.reduceEqDiff, h5], by simp only [get_put, n_put, ↓reduceIte, Nat.reduceEqDiff, h6], by simp only [get_put, n_put, ↓reduceIte, Nat.reduceEqDiff]; rfl⟩
  clear hn h2 h5 h6 f p2 p3 hp
  rintro z f t ⟨rfl, p3, hp, hn, h2, h5, h6⟩
  simp (config := { maxSteps := 1000000, implicitDefEqProofs := false }) (disch := omega) only [allW, allR, oneOf, evalAll, partsA, optA, Nat.reduceLT, Nat.reduceLeDiff, Nat.reduceEqDiff, Nat.reduceAdd, ↓reduceIte, hn, h2, h5, h6]
  refine Comes.loopOut (fun z f t => ∃ (i : Nat) (L : List Value), z = a.ents.length - i ∧ i ≤ a.ents.length ∧ Own t 6 dv a.ents.length L ∧ PP t ∧ f.n = 103 ∧ f.get 2 = .pointer (some ⟨s.next, 0, some 6⟩) ∧ f.get 5 = .pointer (some ⟨s8.next, 0, some 6⟩) ∧ f.get 6 = .pointer (some ⟨t7.next, 0, some 6⟩) ∧ f.get 9 = .int .i64 (i : Nat))
    (fun z f t => z = .exit 4 ∧ PP t ∧ f.n = 103 ∧ f.get 2 = .pointer (some ⟨s.next, 0, some 6⟩) ∧ f.get 5 = .pointer (some ⟨s8.next, 0, some 6⟩) ∧ f.get 6 = .pointer (some ⟨t7.next, 0, some 6⟩))
    ⟨0, DC, rfl, by omega, p3, hp, by simp only [get_put, n_put, ↓reduceIte, Nat.reduceEqDiff, hn], by simp only [get_put, n_put, ↓reduceIte, Nat.reduceEqDiff, h2], by simp only [get_put, n_put, ↓reduceIte, Nat.reduceEqDiff, h5], by simp only [get_put, n_put, ↓reduceIte, Nat.reduceEqDiff, h6], by simp only [get_put, n_put, ↓reduceIte, Nat.reduceEqDiff]; rfl⟩ ?_ ?_
  · clear hn h2 h5 h6 f p3 hp
    rintro Q hQ z f t ⟨i, L, rfl, hi, p3, hp, hn, h2, h5, h6, h9'⟩
    obtain ⟨-, -, x2⟩ := hCt t hp
    by_cases hlt : i < a.ents.length
    rotate_left
    · obtain rfl : i = a.ents.length := by omega
      have d1 : ¬ ((a.ents.length : Nat) : Int) < ((a.ents.length : Nat) : Int) := by omega
      simp (config := { maxSteps := 1000000, implicitDefEqProofs := false }) (disch := omega) only [allW, allR, oneOf, evalAll, partsA, optA, Nat.reduceLT, Nat.reduceLeDiff, Nat.reduceEqDiff, Nat.reduceAdd, ↓reduceIte, hn, h2, h5, h6, h9', of4, x2, p3.sees.lenA Try.underlying24, eq_false d1]
      exact hQ _ _ _ ⟨rfl, hp, by simp only [get_put, n_put, ↓reduceIte, Nat.reduceEqDiff, hn], by simp only [get_put, n_put, ↓reduceIte, Nat.reduceEqDiff, h2], by simp only [get_put, n_put, ↓reduceIte, Nat.reduceEqDiff, h5], by simp only [get_put, n_put, ↓reduceIte, Nat.reduceEqDiff, h6]⟩
    have d1 : (i : Int) < (a.ents.length : Int) := by omega
    have hix := p3.sees.indexAddr (P := Try.prog) (k := .i64) (x := (i : Int)) Try.underlying24 szE (by omega) (by omega)
    rw [Int.toNat_natCast] at hix
    have bE00 : buildA Try.prog 32 [] = some (.agg noneE.toArray) := by kernel_rfl
    simp (config := { maxSteps := 1000000, implicitDefEqProofs := false }) (disch := omega) only [allW, allR, oneOf, evalAll, partsA, optA, Nat.reduceLT, Nat.reduceLeDiff, Nat.reduceEqDiff, Nat.reduceAdd, ↓reduceIte, hn, h2, h5, h6, h9', of4, x2, p3.sees.lenA Try.underlying24, eq_true d1, hix, bE00]
    refine wstep_storeAgg szE (by decide) p3 hlt rfl rfl ?_
    intro t' q3 hu
    simp (config := { maxSteps := 1000000, implicitDefEqProofs := false }) (disch := omega) only [allW, allR, oneOf, evalAll, partsA, optA, Nat.reduceLT, Nat.reduceLeDiff, Nat.reduceEqDiff, Nat.reduceAdd, ↓reduceIte, hn, h2, h5, h6, h9', wrapI]
    exact wround_next (a.ents.length - (i + 1)) (by omega) ⟨i + 1, _, rfl, by omega, q3, hPt _ _ _ dI hp hu, by simp only [get_put, n_put, ↓reduceIte, Nat.reduceEqDiff, hn], by simp only [get_put, n_put, ↓reduceIte, Nat.reduceEqDiff, h2], by simp only [get_put, n_put, ↓reduceIte, Nat.reduceEqDiff, h5], by simp only [get_put, n_put, ↓reduceIte, Nat.reduceEqDiff, h6], by simp only [get_put, n_put, ↓reduceIte, Nat.reduceEqDiff]; rfl⟩
  clear hn h2 h5 h6 f p3 hp
  rintro z f t ⟨rfl, hp, hn, h2, h5, h6⟩
  obtain ⟨oa', ow', l2, l6⟩ := hfin t hp
  simp (config := { maxSteps := 1000000, implicitDefEqProofs := false }) (disch := omega) only [allW, allR, oneOf, evalAll, partsA, optA, Nat.reduceLT, Nat.reduceLeDiff, Nat.reduceEqDiff, Nat.reduceAdd, ↓reduceIte, hn, h2, h5, h6, l2, l6]
  refine (rsame_any rfl rfl _ a a (Nat.le_refl _) _ _ _ _ _ oa' ow' sa sa).mono ?_
  rintro _ t' ⟨⟨u, rfl, e⟩, -⟩
  obtain rfl : u = true := e.2 (SameO.self a)
  simp (config := { maxSteps := 1000000, implicitDefEqProofs := false }) (disch := omega) only [allW, allR, wfn_ret, wfn_normal, oneOf, evalAll, partsA, optA, Nat.reduceLT, Nat.reduceLeDiff, Nat.reduceEqDiff, Nat.reduceAdd, ↓reduceIte, hn, h2, h5, h6, Try.results5]
  rw [hQQ]

theorem own : ownKnob Try.prog.godebug = none := by kernel_rfl
theorem sound : progOk Try.prog libN = true := by kernel_rfl
theorem laid : laidOutB Try.prog = true := by kernel_rfl
theorem read : ∀ t ∈ Try.f5.params.toList, Try.prog.readableRec t = true ∧ t < Try.prog.types.size := by
  have : (Try.f5.params.toList.all fun t => Try.prog.readableRec t && decide (t < Try.prog.types.size)) = true := by kernel_rfl
  intro t ht
  simpa using List.all_eq_true.mp this t ht
set_option maxRecDepth 100000 in
theorem lifted (os : Os) (started : os.Started) (H : Type) (enc : TypeId × Value → H) :
    ReturnsInHanded {} Try.checked os 5 .any (Rows.cosSameSpec.pre6 enc Try.prog Try.f5 Rows.cosSameRow.domain false) (Rows.cosSameSpec.post enc Try.prog Try.f5 false true false false) := by
  refine returnsInHanded_of_change_sized (C := Try.checked) own started (by kernel_rfl) Try.func5
    (ChangeSpec.witness6 (enc := enc) (C := Try.checked) false ⟨#[], #[.agg #[.int .i64 0, .int .i64 0, .slice none 0 0, .slice none 0 0, .slice none 0 0], .agg #[.int .i64 0, .int .i64 0, .slice none 0 0, .slice none 0 0, .slice none 0 0]], []⟩ 8 (by kernel_rfl) (by kernel_rfl) (by kernel_rfl) (by kernel_rfl)) ?_
  intro W base args ds gs before hval hW hcnd hsz _
  obtain ⟨p, q, hA, _, _, _, _⟩ := id hW
  have hA : DataW.TrodAll enc Try.prog W 0 (fun _ => true) true Try.f5.params.toList args.toList ds p := hA
  rw [Try.params5] at hA
  obtain ⟨v0, v1, d0, d1, p0, p1, rfl, rfl, rfl, h0, h1⟩ := trodAll_two hA
  have hv0 : Value.okWide Try.prog W .any base 26 v0 := hval 0 _ _ (by rw [Try.params5]; rfl) rfl
  have hw0 : Wt Try.prog 26 d0 := fun n hn => by simpa using List.all_eq_true.1 hsz n (DataW.weights_mem_each (j := 0) (t := 26) (d := d0) (by rw [Try.params5]; rfl) rfl n hn)
  have hv1 : Value.okWide Try.prog W .any base 26 v1 := hval 1 _ _ (by rw [Try.params5]; rfl) rfl
  have hw1 : Wt Try.prog 26 d1 := fun n hn => by simpa using List.all_eq_true.1 hsz n (DataW.weights_mem_each (j := 1) (t := 26) (d := d1) (by rw [Try.params5]; rfl) rfl n hn)
  obtain ⟨S0, c0, o0, hg0, hr0, ho0, hf0⟩ := arg_obj (Begun.start W) hv0 h0 hw0
  obtain ⟨S1, c1, o1, hg1, hr1, ho1, hf1⟩ := arg_obj hg0.begun hv1 h1 hw1
  have hcalls := Runs.callsL libFr (libOk _) sound rfl hg1.begun (law S1.s c0 o0 (ho0.keeps hg1.stay) hf0 c1 o1 ho1 hf1) (args' := #[v0, v1]) (VRL.cons (hr0.mono hg1.ext) (VRL.cons hr1 VRL.nil))
  refine hcalls.mono fun e W' ⟨he, hb⟩ => ?_
  subst he
  exact law_post laid read rfl Try.underlying4 rfl (fun L hL => by match L, hL with | [a0, a1], _ => rfl) hW hb

theorem over : Rows.cosSameRow.holds Try.pinned (OpenSpec.ofChange Rows.cosSameSpec) :=
  OpenClaim.holds_of_wide 5 Try.f5 rfl rfl rfl rfl rfl rfl rfl ⟨rfl, rfl, rfl, rfl, rfl⟩ rfl rfl rfl rfl rfl (by kernel_rfl) Try.func5 (by kernel_rfl)
    (of_decide_eq_true (by kernel_rfl)) (by unfold Func.isWrapper; first | (rw [if_pos (by decide +kernel)]; kernel_rfl) | (rw [if_neg (by decide +kernel)]; exact ⟨rfl, rfl⟩))
    (fun os started H enc _ => lifted os started H enc)

/-- THE STATEMENT. -/
theorem proved : Rows.CosSameSaid := over
#print axioms proved
end Go.Proofs.Ytdhdhbkikhedlaa.cosSame
