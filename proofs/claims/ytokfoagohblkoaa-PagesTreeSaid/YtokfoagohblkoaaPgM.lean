import Derived.Test.YtokfoagohblkoaaPgI
set_option linter.unusedSimpArgs false
set_option linter.unusedVariables false
set_option maxRecDepth 100000
namespace Go.Cl
theorem rows_wto {w m : Nat} {lv lv' : Value} {s s' : ASt} {L : List PgO} {lc : List Value} (h : ORows PgIs 20 (FreeW w m lv) s L lc) (k : WTo w m lv lv' s s') : ORows PgIs 20 (FreeW w m lv') s' L lc :=
  ORows.mono rowedP (rows_calm (ORows.below rowedP h) (k.calm.mono fun j _ h => h.1)) fun j h => k.free h.2 h.1
section
variable {X X' : Value → List Value} {z : Value} {s s' t t2 t3 : ASt} {w : Nat} {D : Dc} {mv : Value} {tc : List Value} {iv : Value} {ic : List Value} {m : Nat} {lv lv' : Value} {W : WkO}
theorem PwIs.push {lc new : List Value} {p : PgO} (h : PwIs X z t w D mv tc iv ic m lv W) (hR : ORows PgIs 20 (FreeW w m lv) t W.pages lc) (hp : PgIs (FreeW w m lv) t new p) (hsp : Small p.res ∧ Small p.obj) (h2 : Own t2 20 lv' (W.pages.length + 1) (lc ++ new)) (ht : Turns lv t t2) (hor : idOf lv' = idOf lv ∨ ∃ i, idOf lv' = some i ∧ t.next ≤ i)
    (h3 : Thing t3 w (X lv')) (hn : t3.next = t2.next) (ho : ∀ j, j ≠ w → t3.heap.get j = t2.heap.get j) : PwIs X z t3 w D mv tc iv ic m lv' ⟨W.seen, W.pages ++ [p]⟩ ∧ WTo w m lv lv' t t3 := by
  have hwlt := h.thing.lt
  obtain ⟨T, hM, hS⟩ := h.met
  have hto : WTo w m lv lv' t t3 := ⟨⟨by rw [hn]; exact ht.next, fun j hj hF => (ho j hF.1).trans (ht.get j hj hF.2.2)⟩, hor⟩
  have hlw : idOf lv' ≠ some w := fun e => by
    rcases hor with h1 | ⟨i, h1, h2⟩
    · exact h.lw (by rw [← h1]; exact e)
    · rw [h1] at e; injection e with e; omega
  have hlm : idOf lv' ≠ some m := fun e => by
    have := hM.lt
    rcases hor with h1 | ⟨i, h1, h2⟩
    · exact h.lm (by rw [← h1]; exact e)
    · rw [h1] at e; injection e with e; omega
  refine ⟨⟨h.doc.wto hto, h3, ⟨T, (hM.turns ht h.lm).ofPut hn ho h.wm, hS⟩, ⟨lc ++ new, ?_, ?_⟩, ?_, h.wm, hlw, hlm⟩, hto⟩
  · show Own t3 20 lv' (W.pages ++ [p]).length (lc ++ new)
    rw [List.length_append, List.length_singleton]
    exact Own.ofPut hn ho h2 hlw
  · exact rows_wto (hR.snoc hp.len hp) hto
  · intro q hq
    rcases List.mem_append.1 hq with hq | hq
    · exact h.small q hq
    · obtain rfl : q = p := by simpa using hq
      exact hsp
end
def pageD (D : List (Int × O)) (n : Int) (o mine : O) (w : WkO) : WkO × Nat :=
  match leafD D n o mine with
  | none => (w, 4)
  | some p => if w.pages.length ≥ 1000 then (w, 7) else (⟨w.seen, w.pages ++ [p]⟩, 0)
theorem pw_over {D : Dc} {mv iv lv lv' : Value} {tc : List Value} {m : Nat} (hl : tc.length = 5) : over (pwC D mv tc iv m lv) 10 [lv'] = pwC D mv tc iv m lv' := by
  obtain ⟨a, b, c, d, e, rfl⟩ := five hl
  rfl
theorem pwC_len {D : Dc} {mv iv lv : Value} {tc : List Value} {m : Nat} (hl : tc.length = 5) : (pwC D mv tc iv m lv).length = 11 := by
  obtain ⟨a, b, c, d, e, rfl⟩ := five hl
  rfl
end Go.Cl
namespace Go.Proofs.Ytokfoagohblkoaa
open Go.Cl Go.Lib
theorem szPg : sizeB Try.prog 57 = some 20 := by kernel_rfl
theorem byPg : bytesB Try.prog 57 = some 256 := by kernel_rfl
def nonePg : List Value := lfC Z4 Z4 0 noneC ++ (.int .i64 0 :: noneC)
theorem zPg : zeroB Try.prog 57 = some (.agg nonePg.toArray) := by kernel_rfl
theorem plPg : plainV (.agg nonePg.toArray) = true := by kernel_rfl
theorem fourteen {l : List Value} (h : l.length = 14) : ∃ a1 a2 a3 a4 a5 a6 a7 a8 a9 a10 a11 a12 a13 a14, l = [a1, a2, a3, a4, a5, a6, a7, a8, a9, a10, a11, a12, a13, a14] := by
  match l, h with
  | [a1, a2, a3, a4, a5, a6, a7, a8, a9, a10, a11, a12, a13, a14], _ => exact ⟨a1, a2, a3, a4, a5, a6, a7, a8, a9, a10, a11, a12, a13, a14, rfl⟩
theorem bPg {l oc : List Value} (n : Int) (hl : l.length = 14) (ho : oc.length = 5) : buildA Try.prog 57 [(0, .agg l.toArray), (1, .int .i64 n), (2, .agg oc.toArray)] = some (.agg (l ++ (.int .i64 n :: oc)).toArray) := by
  obtain ⟨a1, a2, a3, a4, a5, a6, a7, a8, a9, a10, a11, a12, a13, a14, rfl⟩ := fourteen hl
  obtain ⟨a, b, c, d, e, rfl⟩ := five ho
  kernel_rfl
section
variable {t : ASt} {i : Nat} {D : Dc} {mv iv lv : Value} {tc : List Value} {m : Nat}
theorem pw_map (h : Thing t i (pwC D mv tc iv m lv)) (hl : tc.length = 5) : loadA Try.prog t 76 (.pointer (some ⟨i, 9, some 12⟩)) = some (.map (some m)) := by
  rw [h.load (P := Try.prog) agMq (off := 9) (c := 12) (by rw [pwC_len hl]) (by rw [pwC_len hl]; omega)]
  obtain ⟨a, b, c, d, e, rfl⟩ := five hl
  rfl
theorem pw_pages (h : Thing t i (pwC D mv tc iv m lv)) (hl : tc.length = 5) : loadA Try.prog t 23 (.pointer (some ⟨i, 10, some 12⟩)) = some lv := by
  rw [h.load (P := Try.prog) agPs (off := 10) (c := 12) (by rw [pwC_len hl]) (by rw [pwC_len hl]; omega)]
  obtain ⟨a, b, c, d, e, rfl⟩ := five hl
  rfl
end
def StepR (X : Value → List Value) (z : Value) (s : ASt) (w : Nat) (D : Dc) (mv : Value) (tc : List Value) (iv : Value) (ic : List Value) (m : Nat) (lv : Value) (r : WkO × Nat) (v : Value) (s' : ASt) : Prop :=
  v = .int .i64 (r.2 : Nat) ∧ ∃ lv', PwIs X z s' w D mv tc iv ic m lv' r.1 ∧ WTo w m lv lv' s s'
set_option maxHeartbeats 8000000 in
theorem page_any (z : Value) (s : ASt) (w : Nat) (D : Dc) (mv : Value) (tc : List Value) (iv : Value) (ic : List Value) (m : Nat) (lv : Value) (W : WkO) (hW : PwIs (pwC D mv tc iv m) z s w D mv tc iv ic m lv W) (hs : SmallD D) (n : Int) (cs : List Value) (o : O) (ho : OIs (FreeW w m lv) s cs o) (hso : Small o) (G : Nat → Prop) (ca : List Value) (mine : O) (ha : OIs G s ca mine) (hsa : Small mine) :
    Runs Try.prog libN 47 [.pointer (some ⟨w, 0, some 12⟩), .int .i64 n, .agg cs.toArray, .agg ca.toArray] s (StepR (pwC D mv tc iv m) z s w D mv tc iv ic m lv (pageD D.items n o mine W)) := by
  have htl := hW.doc.trailer.len
  have hol := ho.len
  have hal := ha.len
  refine Runs.enter 40 Try.func47 rfl rfl rfl rfl ?_
  intro f hn hf
  have h0 : f.get 0 = .pointer (some ⟨w, 0, some 12⟩) := hf 0
  have h1 : f.get 1 = .int .i64 n := hf 1
  have h2 : f.get 2 = .agg cs.toArray := hf 2
  have h3 : f.get 3 = .agg ca.toArray := hf 3
  clear hf
  simp (config := { maxSteps := 1000000, implicitDefEqProofs := false }) (disch := omega) only [allW, allR, oneOf, evalAll, partsA, optA, Nat.reduceLT, Nat.reduceLeDiff, Nat.reduceEqDiff, Nat.reduceAdd, ↓reduceIte, hn, h0, h1, h2, h3]
  refine wstep_newPtr ?_
  intro s1 ht1 hst1 hnx1
  have ht1 : Thing s1 s.next cs := ht1
  simp (config := { maxSteps := 1000000, implicitDefEqProofs := false }) (disch := omega) only [allW, allR, oneOf, evalAll, partsA, optA, Nat.reduceLT, Nat.reduceLeDiff, Nat.reduceEqDiff, Nat.reduceAdd, ↓reduceIte, hn, h0, h1, h2, h3, hol]
  refine wstep_newPtr ?_
  intro s2 ht2 hst2 hnx2
  have ht2 : Thing s2 s1.next ca := ht2
  have n1 := hst1.next
  have n2 := hst2.next
  have hs2 : Stay s.next s s2 := hst1.trans (hst2.weaken n1)
  have hW2 := hW.keeps hs2
  simp (config := { maxSteps := 1000000, implicitDefEqProofs := false }) (disch := omega) only [allW, allR, oneOf, evalAll, partsA, optA, Nat.reduceLT, Nat.reduceLeDiff, Nat.reduceEqDiff, Nat.reduceAdd, ↓reduceIte, hn, h0, h1, h2, h3, hal, Thing.loadO ht2 hal]
  refine (leaf_any _ _ s2 w D mv tc iv ic m lv hW2.doc hs hW2.thing ca mine (ha.keeps hs2) hsa).mono ?_
  rintro _ s3 ⟨rc, rfl, hrc, k3⟩
  have n3 := k3.next
  have hrl := hrc.len
  have hLl : (lfC (lfM D.items mine) (lfK D.items mine) (lfT D.items mine) rc).length = 14 := lfC_len boxD_len lfK_len hrl
  have hLs := lfC_self (m := lfM D.items mine) (c := lfK D.items mine) (r := lfT D.items mine) hrc.self
  have hLo := lfC_ok (m := lfM D.items mine) (c := lfK D.items mine) (r := lfT D.items mine) hrc.ok
  have eL := leafD_eq D.items n o mine
  obtain ⟨L, hL⟩ : ∃ L, L = lfC (lfM D.items mine) (lfK D.items mine) (lfT D.items mine) rc := ⟨_, rfl⟩
  rw [← hL] at hLl hLs hLo ⊢
  simp (config := { maxSteps := 1000000, implicitDefEqProofs := false }) (disch := omega) only [allW, allR, oneOf, evalAll, partsA, optA, Nat.reduceLT, Nat.reduceLeDiff, Nat.reduceEqDiff, Nat.reduceAdd, ↓reduceIte, hn, h0, h1, h2, h3, ext0, ext1, zLf, plLf]
  refine wstep_newPtr ?_
  intro s4 ht4 hst4 hnx4
  have hd15 : (lfC Z4 Z4 0 noneC).length + 1 = 15 := rfl
  simp (config := { maxSteps := 1000000, implicitDefEqProofs := false }) (disch := omega) only [allW, allR, oneOf, evalAll, partsA, optA, Nat.reduceLT, Nat.reduceLeDiff, Nat.reduceEqDiff, Nat.reduceAdd, ↓reduceIte, hn, h0, h1, h2, h3, hd15]
  refine wstep_storeAll szLf (by decide) ht4 rfl rfl hLl hLo ?_
  intro s5 ht5 nt5 et5
  have ht5 : Thing s5 s3.next L := ht5
  have k35 : Stay s3.next s3 s5 := hst4.trans ⟨by omega, fun j hj => et5 j (by omega)⟩
  have n35 := k35.next
  have k25 : Stay s2.next s2 s5 := k3.trans (k35.weaken n3)
  have ks5 : Stay s.next s s5 := hs2.trans (k25.weaken (by omega))
  have hW5 := hW.keeps ks5
  have hrc5 : OIs (fun j => s2.next ≤ j ∧ j < s3.next) s5 rc (lfR D.items mine) := (hrc.lows.keeps hst4).ofPut nt5 et5 (by omega)
  cases hok : lfOk D.items mine
  · have e : pageD D.items n o mine W = (W, 4) := by unfold pageD; rw [eL, hok]; rfl
    rw [e]
    simp (config := { maxSteps := 1000000, implicitDefEqProofs := false }) (disch := omega) only [allW, allR, oneOf, evalAll, partsA, optA, Nat.reduceLT, Nat.reduceLeDiff, Nat.reduceEqDiff, Nat.reduceAdd, ↓reduceIte, allW, allR, wfn_ret, wfn_normal, oneOf, evalAll, partsA, optA, Nat.reduceLT, Nat.reduceLeDiff, Nat.reduceEqDiff, Nat.reduceAdd, ↓reduceIte, hn, h0, h1, h2, h3, Try.results47]
    exact ⟨rfl, lv, hW5, WTo.ofStay ks5⟩
  rw [hok, if_pos rfl] at eL
  obtain ⟨lc, hO5, hR5⟩ := hW5.pages
  by_cases hlen : W.pages.length ≥ 1000
  · have e : pageD D.items n o mine W = (W, 7) := by unfold pageD; rw [eL]; simp only; rw [if_pos hlen]
    rw [e]
    have d1 : ((W.pages.length : Nat) : Int) ≥ 1000 := by omega
    simp (config := { maxSteps := 1000000, implicitDefEqProofs := false }) (disch := omega) only [allW, allR, oneOf, evalAll, partsA, optA, Nat.reduceLT, Nat.reduceLeDiff, Nat.reduceEqDiff, Nat.reduceAdd, ↓reduceIte, allW, allR, wfn_ret, wfn_normal, oneOf, evalAll, partsA, optA, Nat.reduceLT, Nat.reduceLeDiff, Nat.reduceEqDiff, Nat.reduceAdd, ↓reduceIte, hn, h0, h1, h2, h3, pw2, pw_pages hW5.thing htl, hO5.sees.lenA Try.underlying23, eq_true d1, Try.results47]
    exact ⟨rfl, lv, hW5, WTo.ofStay ks5⟩
  obtain ⟨p, hp⟩ : ∃ p : PgO, p = ⟨lfM D.items mine, lfK D.items mine, lfT D.items mine, lfR D.items mine, n, o⟩ := ⟨_, rfl⟩
  rw [← hp] at eL
  have e : pageD D.items n o mine W = (⟨W.seen, W.pages ++ [p]⟩, 0) := by unfold pageD; rw [eL]; simp only; rw [if_neg hlen]
  rw [e]
  have d1 : ¬ ((W.pages.length : Nat) : Int) ≥ 1000 := by omega
  simp (config := { maxSteps := 1000000, implicitDefEqProofs := false }) (disch := omega) only [allW, allR, oneOf, evalAll, partsA, optA, Nat.reduceLT, Nat.reduceLeDiff, Nat.reduceEqDiff, Nat.reduceAdd, ↓reduceIte, hn, h0, h1, h2, h3, pw2, pw_pages hW5.thing htl, hO5.sees.lenA Try.underlying23, eq_false d1]
  obtain ⟨B, hB⟩ : ∃ B : Nat → Bool, B = fun j => decide (j < s5.next) := ⟨_, rfl⟩
  have hBl : ∀ j, B j = true → j < s5.next := by
    intro j h
    rw [hB] at h
    exact of_decide_eq_true h
  have hBo : ∀ j, j < s5.next → B j = true := fun j h => by rw [hB]; exact decide_eq_true h
  refine LB.Drawn.looseK B hBl 0 1 (by kernel_rfl) (by kernel_rfl) ?_
  have hsq := Stay.spare s5 1
  have hnq : (spare s5 1).next = s5.next + 1 := spare_next _ _
  have ht15 := ht1.keeps ((hst2.trans (k25.weaken n2)))
  have ml1 : ∀ k, LA.lowV B (some (.pointer (some ⟨w, k, some 12⟩))) = true := fun k => LA.lowV_ptr (A := B) (i := w) (hBo _ hW5.thing.lt)
  have ml2 : ∀ k, LA.lowV B (some (.pointer (some ⟨s.next, k, some 6⟩))) = true := fun k => LA.lowV_ptr (A := B) (i := s.next) (hBo _ ht15.lt)
  have ml3 : ∀ k, LA.lowV B (some (.pointer (some ⟨s3.next, k, some 15⟩))) = true := fun k => LA.lowV_ptr (A := B) (i := s3.next) (hBo _ ht5.lt)
  have lLf : loadA Try.prog (spare s5 1) 55 (.pointer (some ⟨s3.next, 0, some 15⟩)) = some (.agg L.toArray) := Thing.loadAll agLf (by rw [hLl]; exact szLf) (ht5.keeps hsq) (by rw [hLl])
  have ho5 := ho.lows.keeps ks5
  obtain ⟨PC, hPC⟩ : ∃ PC, PC = L ++ (.int .i64 n :: cs) := ⟨_, rfl⟩
  have hPCl : PC.length = 20 := by rw [hPC, List.length_append, List.length_cons, hLl, hol]
  have hPCok : PC.all okCell = true := by rw [hPC, List.all_append, List.all_cons, hLo, ho.ok]; rfl
  have hPCs : valEq (.agg PC.toArray) (.agg PC.toArray) = true := by
    show valEqL PC PC = true
    rw [hPC]
    have h1 : valEqL L L = true := hLs
    have h2 : valEqL cs cs = true := ho.self
    refine valEqL_self (fun v hv => ?_)
    simp only [List.mem_cons, List.mem_append] at hv
    rcases hv with hv | rfl | hv
    · exact valEqL_all h1 v hv
    · simp [valEq1]
    · exact valEqL_all h2 v hv
  have hb := bPg n hLl hol
  rw [← hPC] at hb
  simp (config := { maxSteps := 1000000, implicitDefEqProofs := false }) (disch := omega) only [allW, allR, allL, allB, Nat.sub_self, Nat.add_one_sub_one, Nat.reduceSub, oneOf, evalAll, partsA, optA, Nat.reduceLT, Nat.reduceLeDiff, Nat.reduceEqDiff, Nat.reduceAdd, ↓reduceIte, hn, h0, h1, h2, h3, pw2, pw_pages (hW5.thing.keeps hsq) htl, lLf, Thing.loadO (ht15.keeps hsq) hol, ml1, ml2, ml3, hO5.sees.self, hLs, ho5.self, hb, hPCs, valEq_int, buildAgg1 (cs := PC.toArray) Try.underlying23 szPg zPg plPg rfl hPCl (by decide)]
  refine LB.smake_newSlice (base := s5.next) hPCl (by omega) (Nat.le_refl _) ?_
  intro bs s6 hbs hid k6 hnx6 hot6
  have k56 : Stay s5.next s5 s6 := hsq.trans k6
  have n56 := k56.next
  have hW6 := hW5.keeps k56
  have hO6 := hO5.keeps k56
  simp (config := { maxSteps := 1000000, implicitDefEqProofs := false }) (disch := omega) only [allW, allR, allL, allB, Nat.sub_self, Nat.add_one_sub_one, Nat.reduceSub, oneOf, evalAll, partsA, optA, Nat.reduceLT, Nat.reduceLeDiff, Nat.reduceEqDiff, Nat.reduceAdd, ↓reduceIte, hn, h0, h1, h2, h3]
  refine LB.sstep_append Try.underlying23 Try.underlying23 (.inl ⟨_, rfl⟩) szPg byPg zPg rfl hO6 hbs.sees.src hPCl (by decide) hPCok (by omega) (by omega) (base := 0) (fun _ _ => Nat.zero_le _) (Nat.zero_le _) (fun h => absurd rfl h) (fun j hj => by have := hBl j hj; omega) ?_
  intro lv' s7 hO7 _ hut hor
  have hlw : idOf lv ≠ some w := hW.lw
  simp (config := { maxSteps := 1000000, implicitDefEqProofs := false }) (disch := omega) only [allW, allR, allL, allB, Nat.sub_self, Nat.add_one_sub_one, Nat.reduceSub, oneOf, evalAll, partsA, optA, Nat.reduceLT, Nat.reduceLeDiff, Nat.reduceEqDiff, Nat.reduceAdd, ↓reduceIte, hn, h0, h1, h2, h3, pw2]
  refine LB.sstep_storeN szPs (by decide) (hW6.thing.turns hut hlw) (off := 10) (c := 12) (by rw [pwC_len htl]) (vs := [lv']) hO7.sees.cell1 rfl (by rw [pwC_len htl]; exact Nat.le_refl _) (by simp [hO7.sees.okCell]) (fun h => absurd rfl h) ?_
  intro s8 ht8 nt8 et8
  rw [pw_over htl] at ht8
  have hwlt := hW.thing.lt
  have hwm : m < s.next := by obtain ⟨T, hT, _⟩ := hW.met; exact hT.lt
  have hwl : ∀ i, idOf lv = some i → i < s.next := by obtain ⟨lc0, hO, _⟩ := hW.pages; exact hO.idLt
  have hfree : ∀ j, s.next ≤ j → FreeW w m lv j := fun j hj => ⟨by omega, by omega, fun e => by have := hwl j e; omega⟩
  have hpg : PgIs (FreeW w m lv) s6 PC p := by
    refine ⟨rc, cs, ?_, by rw [hp]; exact boxD_len, by rw [hp]; exact lfK_len, ?_, ?_⟩
    · rw [hPC, hL, hp]; simp [lfC]
    · rw [hp]; exact (hrc5.keeps k56).mono (fun j hj => hfree j (by omega))
    · rw [hp]; exact (ho5.keeps k56).mono (fun j hj => hj.1)
  obtain ⟨q1, q2⟩ := PwIs.push hW6 (ORows.keeps rowedP hR5 k56) hpg (by rw [hp]; exact ⟨resD_small hs.items (getO_small mine kRes hsa), hso⟩) hO7 hut hor ht8 nt8 et8
  simp (config := { maxSteps := 1000000, implicitDefEqProofs := false }) (disch := omega) only [allW, allR, allL, allB, Nat.sub_self, Nat.add_one_sub_one, Nat.reduceSub, oneOf, evalAll, partsA, optA, Nat.reduceLT, Nat.reduceLeDiff, Nat.reduceEqDiff, Nat.reduceAdd, ↓reduceIte, allW, allR, oneOf, evalAll, partsA, optA, Nat.reduceLT, Nat.reduceLeDiff, Nat.reduceEqDiff, Nat.reduceAdd, ↓reduceIte, allW, allR, wfn_ret, wfn_normal, oneOf, evalAll, partsA, optA, Nat.reduceLT, Nat.reduceLeDiff, Nat.reduceEqDiff, Nat.reduceAdd, ↓reduceIte, hn, h0, h1, h2, h3, Try.results47]
  exact ⟨rfl, lv', q1, (WTo.ofStay (ks5.trans (k56.weaken (by have := ks5.next; omega)))).trans q2⟩
end Go.Proofs.Ytokfoagohblkoaa
set_option linter.unusedSimpArgs false
set_option linter.unusedVariables false
set_option maxRecDepth 100000
namespace Go.Cl
theorem nodeD_succ (D : List (Int × O)) (k : Nat) (n : Int) (above : O) (w : WkO) : nodeD D (k + 1) n above w =
    if n ∈ w.seen then (w, 9)
    else if w.seen.length + 1 > 4000 then (⟨n :: w.seen, w.pages⟩, 7)
    else if (findD D n).2 = false ∨ (findD D n).1.kind ≠ 7 then (⟨n :: w.seen, w.pages⟩, 4)
    else if isN (getO (findD D n).1 kType) kPage = true then pageD D n (findD D n).1 (heirO (findD D n).1 above) ⟨n :: w.seen, w.pages⟩
    else if isN (getO (findD D n).1 kType) kPages = false ∨ (pathD D (findD D n).1 [kKids]).kind ≠ 6 then (⟨n :: w.seen, w.pages⟩, 4)
    else kidsD (nodeD D k) (heirO (findD D n).1 above) (pathD D (findD D n).1 [kKids]).items ⟨n :: w.seen, w.pages⟩ := by
  rw [nodeD]
  unfold pageD
  rfl
theorem pageD_seen (D : List (Int × O)) (n : Int) (o mine : O) (w : WkO) : (pageD D n o mine w).1.seen = w.seen := by
  unfold pageD
  split
  · rfl
  · split <;> rfl
theorem kidsD_seen {step : Int → O → WkO → WkO × Nat} {mine : O} (h : ∀ n w, w.seen.length ≤ 4000 → w.seen.length ≤ (step n mine w).1.seen.length ∧ ((step n mine w).2 = 0 → (step n mine w).1.seen.length ≤ 4000)) :
    ∀ (l : List O) (w : WkO), w.seen.length ≤ 4000 → w.seen.length ≤ (kidsD step mine l w).1.seen.length ∧ ((kidsD step mine l w).2 = 0 → (kidsD step mine l w).1.seen.length ≤ 4000)
  | [], w, hw => ⟨Nat.le_refl _, fun _ => hw⟩
  | x :: r, w, hw => by
    unfold kidsD
    split
    · exact ⟨Nat.le_refl _, fun e => by simp at e⟩
    · obtain ⟨h1, h2⟩ := h x.num w hw
      split
      · exact ⟨h1, h2⟩
      · rename_i e
        have e : (step x.num mine w).2 = 0 := by simpa using e
        obtain ⟨h3, h4⟩ := kidsD_seen h r _ (h2 e)
        exact ⟨Nat.le_trans h1 h3, h4⟩
theorem nodeD_seen (D : List (Int × O)) : ∀ (k : Nat) (n : Int) (above : O) (w : WkO), w.seen.length ≤ 4000 → w.seen.length ≤ (nodeD D k n above w).1.seen.length ∧ ((nodeD D k n above w).2 = 0 → (nodeD D k n above w).1.seen.length ≤ 4000)
  | 0, n, above, w, hw => ⟨Nat.le_refl _, fun _ => hw⟩
  | k + 1, n, above, w, hw => by
    rw [nodeD_succ]
    split
    · exact ⟨Nat.le_refl _, fun _ => hw⟩
    split
    · exact ⟨by simp, fun e => by simp at e⟩
    split
    · exact ⟨by simp, fun e => by simp at e⟩
    split
    · rw [pageD_seen]; exact ⟨by simp, fun _ => by simp; omega⟩
    split
    · exact ⟨by simp, fun e => by simp at e⟩
    · obtain ⟨h1, h2⟩ := kidsD_seen (step := nodeD D k) (mine := heirO (findD D n).1 above) (fun n w h => nodeD_seen D k n _ w h) (pathD D (findD D n).1 [kKids]).items ⟨n :: w.seen, w.pages⟩ (by simp; omega)
      exact ⟨Nat.le_trans (by simp) h1, h2⟩
section
variable {X : Value → List Value} {z : Value} {s s' : ASt} {w : Nat} {D : Dc} {mv : Value} {tc : List Value} {iv : Value} {ic : List Value} {m : Nat} {lv lv' : Value} {W : WkO}
theorem PwIs.free (h : PwIs X z s w D mv tc iv ic m lv W) {j : Nat} (hj : s.next ≤ j) : FreeW w m lv j := by
  have h1 := h.thing.lt
  obtain ⟨T, hT, _⟩ := h.met
  have h2 := hT.lt
  obtain ⟨lc, hO, _⟩ := h.pages
  exact ⟨by omega, by omega, fun e => by have := hO.idLt j e; omega⟩
theorem Sees.wto {z : Nat} {v : Value} {n : Nat} {l : List Value} (h : Sees s z v n l) (hf : Foot (FreeW w m lv) v) (k : WTo w m lv lv' s s') : Sees s' z v n l ∧ Foot (FreeW w m lv') v :=
  ⟨h.calm hf k.calm, (Foot.below h hf).mono fun j hj => k.free hj.2 hj.1⟩
theorem rowsO_wto {L : List O} {lc : List Value} (h : ORows OIs 5 (FreeW w m lv) s L lc) (k : WTo w m lv lv' s s') : ORows OIs 5 (FreeW w m lv') s' L lc := ⟨h.len, fun i hi => (h.row i hi).wto k⟩
end
end Go.Cl
namespace Go.Proofs.Ytokfoagohblkoaa
open Go.Cl Go.Lib
theorem szU0 : sizeB Try.prog 99 = some 0 := by kernel_rfl
theorem zU0 : zeroB Try.prog 99 = some (.agg #[]) := by kernel_rfl
theorem plU0 : plainV (.agg #[]) = true := rfl
theorem bU0 : buildA Try.prog 99 [] = some (.agg #[]) := by kernel_rfl
theorem uMq : Try.prog.underlying 76 = some (.map 3 99) := Try.underlying76
theorem uIntP : Try.prog.underlying 3 = some (.int .i64) := Try.underlying3
theorem store0 {P : Program} {e : TypeId} (h : sizeB P e = some 0) (s : ASt) (i o c : Nat) : storeA P s e (.pointer (some ⟨i, o, some c⟩)) (.agg #[]) = some s := by
  unfold storeA; rw [h]; rfl
theorem buildKid (s : ASt) : buildSliceA Try.prog s 109 1 [(0, .string ⟨#[75, 105, 100, 115]⟩)] = newSlice s (strs [kKids]) 1 1 :=
  buildV1 Try.underlying109 szStr zStrP rfl ⟨_, rfl⟩ rfl
theorem find_anyP (F : Nat → Prop) (s : ASt) (D : Dc) (mv : Value) (tc : List Value) (iv : Value) (ic : List Value) (hD : DocIs F s mv tc iv ic D) (hs : SmallD D) (n : Int) : Runs Try.prog libN 40 [.agg (docC D mv tc iv).toArray, .int .i64 n] s (FindR s (findD D.items n)) := find_any rfl rfl rfl rfl rfl F s D mv tc iv ic hD hs n
theorem path_anyP (F : Nat → Prop) (s : ASt) (D : Dc) (mv : Value) (tc : List Value) (iv : Value) (ic : List Value) (hD : DocIs F s mv tc iv ic D) (hs : SmallD D) (G : Nat → Prop) (cs : List Value) (o : O) (ho : OIs G s cs o) (hso : Small o) (x : Value) (K : List (List UInt8)) (hx : Sees s 1 x K.length (strs K)) (hK : K.length ≤ 1000) :
    Runs Try.prog libN 44 [.agg (docC D mv tc iv).toArray, .agg cs.toArray, x] s (NewO s (pathD D.items (resD D.items o) K)) := path_any rfl rfl rfl rfl rfl rfl rfl rfl rfl rfl F s D mv tc iv ic hD hs G cs o ho hso x K hx hK getO_small
theorem resD_stop {D : List (Int × O)} {o : O} (h : ¬ o.kind = 9) : resD D o = o := by
  unfold resD; rw [resN_stop h 32, if_neg h]
set_option maxHeartbeats 16000000 in
theorem node_any (w : Nat) (D : Dc) (mv : Value) (tc : List Value) (iv : Value) (ic : List Value) (m : Nat) (hs : SmallD D) : ∀ (k : Nat) (s : ASt) (lv : Value) (W : WkO) (n : Int) (ca : List Value) (above : O), W.seen.length + k ≥ 4001 → W.seen.length ≤ 4000 → above.ents.length + 4 * k ≤ 40000 → Small above → OIs (FreeW w m lv) s ca above → PwIs (pwC D mv tc iv m) (.agg #[]) s w D mv tc iv ic m lv W →
    Runs Try.prog libN 26 [.pointer (some ⟨w, 0, some 12⟩), .int .i64 n, .agg ca.toArray] s (StepR (pwC D mv tc iv m) (.agg #[]) s w D mv tc iv ic m lv (nodeD D.items k n above W)) := by
  intro k
  induction k with
  | zero => intro s lv W n ca above h1 h2; omega
  | succ k ih =>
  intro s lv W n ca above hk hsn hen hsa ha hW
  have htl := hW.doc.trailer.len
  have hal := ha.len
  have hd6 : noneC.length + 1 = 6 := rfl
  refine Runs.enter 104 Try.func26 rfl rfl rfl rfl ?_
  intro f hn hf
  have h0 : f.get 0 = .pointer (some ⟨w, 0, some 12⟩) := hf 0
  have h1 : f.get 1 = .int .i64 n := hf 1
  have h2 : f.get 2 = .agg ca.toArray := hf 2
  clear hf
  simp (config := { maxSteps := 1000000, implicitDefEqProofs := false }) (disch := omega) only [allW, allR, oneOf, evalAll, partsA, optA, Nat.reduceLT, Nat.reduceLeDiff, Nat.reduceEqDiff, Nat.reduceAdd, ↓reduceIte, hn, h0, h1, h2]
  refine wstep_newPtr ?_
  intro s1 ht1 hst1 hnx1
  have ht1 : Thing s1 s.next ca := ht1
  have n1 := hst1.next
  have hW1 := hW.keeps hst1
  obtain ⟨T, hT, hS⟩ := hW1.met
  have hlk := hT.lookup uMq uIntP zU0 plU0 n
  have hlk1 : (seekJ n T).getD (.agg #[]) = .agg #[] := by rw [hS.at_]; split <;> rfl
  have hlk2 : (seekJ n T).isSome = decide (n ∈ W.seen) := by rw [hS.at_]; split <;> simp [*]
  rw [hlk1, hlk2] at hlk
  simp (config := { maxSteps := 1000000, implicitDefEqProofs := false }) (disch := omega) only [allW, allR, oneOf, evalAll, partsA, optA, Nat.reduceLT, Nat.reduceLeDiff, Nat.reduceEqDiff, Nat.reduceAdd, ↓reduceIte, undef, hn, h0, h1, h2, hal, pw1, pw_map hW1.thing htl, hlk, ext0, ext1, zU0, plU0]
  refine wstep_newPtr ?_
  intro s2 ht2 hst2 hnx2
  have hd1 : (#[] : Array Value).toList.length + 1 = 1 := rfl
  have n2 := hst2.next
  have hs2 : Stay s.next s s2 := hst1.trans (hst2.weaken n1)
  have hW2 := hW1.keeps hst2
  rw [nodeD_succ]
  by_cases c1 : n ∈ W.seen
  · rw [if_pos c1]
    simp (config := { maxSteps := 1000000, implicitDefEqProofs := false }) (disch := omega) only [allW, allR, wfn_ret, wfn_normal, oneOf, evalAll, partsA, optA, Nat.reduceLT, Nat.reduceLeDiff, Nat.reduceEqDiff, Nat.reduceAdd, ↓reduceIte, undef, hn, h0, h1, h2, c1, decide_true, store0 szU0, Try.results26]
    exact ⟨rfl, lv, hW2, WTo.ofStay hs2⟩
  rw [if_neg c1]
  have hT2 := hT.keeps hst2
  simp (config := { maxSteps := 1000000, implicitDefEqProofs := false }) (disch := omega) only [allW, allR, oneOf, evalAll, partsA, optA, Nat.reduceLT, Nat.reduceLeDiff, Nat.reduceEqDiff, Nat.reduceAdd, ↓reduceIte, undef, hn, h0, h1, h2, eq_false c1, decide_false, store0 szU0, pw1, pw_map hW2.thing htl, bU0]
  refine wstep_mapUpdateJ uMq uIntP hT2 n (.agg #[]) ?_
  intro s3 hT3 nt3 et3
  have hS3 := hS.cons c1
  have hW3 := hW2.seen hT3 hS3 nt3 et3
  have hto3 : WTo w m lv lv s s3 := (WTo.ofStay hs2).trans (WTo.ofPut nt3 et3 (.inr rfl))
  have hlen := hT3.len uMq
  rw [hS3.len] at hlen
  by_cases c2 : W.seen.length + 1 > 4000
  · rw [if_pos c2]
    have d1 : (((n :: W.seen).length : Nat) : Int) > 4000 := by rw [List.length_cons]; omega
    simp (config := { maxSteps := 1000000, implicitDefEqProofs := false }) (disch := omega) only [allW, allR, wfn_ret, wfn_normal, oneOf, evalAll, partsA, optA, Nat.reduceLT, Nat.reduceLeDiff, Nat.reduceEqDiff, Nat.reduceAdd, ↓reduceIte, undef, hn, h0, h1, h2, pw1, pw_map hW3.thing htl, hlen, eq_true d1, Try.results26]
    exact ⟨rfl, lv, hW3, hto3⟩
  rw [if_neg c2]
  have d1 : ¬ (((n :: W.seen).length : Nat) : Int) > 4000 := by rw [List.length_cons]; omega
  simp (config := { maxSteps := 1000000, implicitDefEqProofs := false }) (disch := omega) only [allW, allR, oneOf, evalAll, partsA, optA, Nat.reduceLT, Nat.reduceLeDiff, Nat.reduceEqDiff, Nat.reduceAdd, ↓reduceIte, undef, hn, h0, h1, h2, pw0, pw1, pw_map hW3.thing htl, hlen, eq_false d1, pw_doc hW3.thing htl]
  refine (find_anyP _ s3 D mv tc iv ic hW3.doc hs n).mono ?_
  rintro _ s4 ⟨c4, rfl, ho4, k4⟩
  have n4 := k4.next
  have hl4 := ho4.len
  obtain ⟨W3, hW3e⟩ : ∃ W3 : WkO, W3 = ⟨n :: W.seen, W.pages⟩ := ⟨_, rfl⟩
  rw [← hW3e] at hW3
  have hW4 := hW3.keeps k4
  obtain ⟨o, hoe⟩ : ∃ o, o = (findD D.items n).1 := ⟨_, rfl⟩
  obtain ⟨ok, hoke⟩ : ∃ ok, ok = (findD D.items n).2 := ⟨_, rfl⟩
  have hso : Small o := by rw [hoe]; exact findD_small hs.items n
  simp only [← hoe, ← hoke, ← hW3e] at ho4 ⊢
  refine wcall_reframe (fun f => f.n = 104 ∧ f.get 0 = .pointer (some ⟨w, 0, some 12⟩) ∧ f.get 1 = .int .i64 n ∧ f.get 5 = .pointer (some ⟨s.next, 0, some 6⟩)) ⟨by simp only [get_put, n_put, ↓reduceIte, Nat.reduceEqDiff, hn], by first | simp only [get_put, n_put, ↓reduceIte, Nat.reduceEqDiff, h0] | simp only [get_put, n_put, ↓reduceIte, Nat.reduceEqDiff], by first | simp only [get_put, n_put, ↓reduceIte, Nat.reduceEqDiff, h1] | simp only [get_put, n_put, ↓reduceIte, Nat.reduceEqDiff], by first | simp only [get_put, n_put, ↓reduceIte, Nat.reduceEqDiff, h5] | simp only [get_put, n_put, ↓reduceIte, Nat.reduceEqDiff]⟩ ?_
  rintro f ⟨hn, h0, h1, h5⟩
  have hs4 : WTo w m lv lv s s4 := hto3.trans (WTo.ofStay k4)
  have n03 := hto3.next
  have hslt : s.next < s2.next := by omega
  have hfs : FreeW w m lv s.next := hW.free (Nat.le_refl _)
  have ht14 : Thing s4 s.next ca := ((ht1.keeps hst2).ofPut nt3 et3 (by have := hT.lt; intro e; rw [e] at hfs; exact hfs.2.1 rfl)).keeps k4
  have ha4 := ha.wto hs4
  clear ht1 ht2 hT2 hT3 hT hS3 hS hlk hlk1 hlk2 hlen hW1 hW2 et3
  simp (config := { maxSteps := 1000000, implicitDefEqProofs := false }) (disch := omega) only [allW, allR, oneOf, evalAll, partsA, optA, Nat.reduceLT, Nat.reduceLeDiff, Nat.reduceEqDiff, Nat.reduceAdd, ↓reduceIte, hn, h0, h1, h5, ext0, ext1, zO, plO]
  refine wstep_newPtr ?_
  intro s5 ht5 hst5 hnx5
  simp (config := { maxSteps := 1000000, implicitDefEqProofs := false }) (disch := omega) only [allW, allR, oneOf, evalAll, partsA, optA, Nat.reduceLT, Nat.reduceLeDiff, Nat.reduceEqDiff, Nat.reduceAdd, ↓reduceIte, hn, h0, h1, h5, hd6]
  refine wstep_storeAll szO (by decide) ht5 rfl rfl hl4 ho4.ok ?_
  intro s6 ht6 nt6 et6
  have ht6 : Thing s6 s4.next c4 := ht6
  have k46 : Stay s4.next s4 s6 := hst5.trans ⟨by omega, fun j hj => et6 j (by omega)⟩
  have n46 := k46.next
  have ho6 : OIs (fun j => s3.next ≤ j ∧ j < s4.next) s6 c4 o := (ho4.lows.keeps hst5).ofPut nt6 et6 (by omega)
  have hW6 := hW4.keeps k46
  have ha6 := ha4.keeps k46
  have ht16 := ht14.keeps k46
  simp (config := { maxSteps := 1000000, implicitDefEqProofs := false }) (disch := omega) only [allW, allR, oneOf, evalAll, partsA, optA, Nat.reduceLT, Nat.reduceLeDiff, Nat.reduceEqDiff, Nat.reduceAdd, ↓reduceIte, hn, h0, h1, h5]
  obtain ⟨B, hB⟩ : ∃ B : Nat → Bool, B = fun j => decide (j < s6.next) := ⟨_, rfl⟩
  have hBl : ∀ j, B j = true → j < s6.next := by
    intro j h
    rw [hB] at h
    exact of_decide_eq_true h
  have hBo : ∀ j, j < s6.next → B j = true := fun j h => by rw [hB]; exact decide_eq_true h
  refine LB.Drawn.looseK B hBl 2 3 (by kernel_rfl) (by kernel_rfl) ?_
  have hsq := Stay.spare s6 3
  have hnq : (spare s6 3).next = s6.next + 3 := spare_next _ _
  have ml1 : ∀ k, LA.lowV B (some (.pointer (some ⟨w, k, some 12⟩))) = true := fun k => LA.lowV_ptr (A := B) (i := w) (hBo _ hW6.thing.lt)
  have ml2 : ∀ k, LA.lowV B (some (.pointer (some ⟨s4.next, k, some 6⟩))) = true := fun k => LA.lowV_ptr (A := B) (i := s4.next) (hBo _ ht6.lt)
  simp (config := { maxSteps := 1000000, implicitDefEqProofs := false }) (disch := omega) only [allW, allR, allL, allB, Nat.sub_self, Nat.add_one_sub_one, Nat.reduceSub, oneOf, evalAll, partsA, optA, Nat.reduceLT, Nat.reduceLeDiff, Nat.reduceEqDiff, Nat.reduceAdd, ↓reduceIte, hn, h0, h1, h5, pw0, Thing.loadO (ht6.keeps hsq) hl4, ml1, ml2, hW6.doc.self, ho6.self, buildKid]
  refine (get_anyP _ (spare s6 3) c4 o (ho6.keeps hsq) hso kType).mono ?_
  rintro _ s7 ⟨c7, rfl, ho7, k7⟩
  have n7 := k7.next
  have hl7 := ho7.len
  refine ⟨fun _ => LA.Stay.toA hBl (k7.weaken (by omega)), ?_⟩
  have k67 : Stay s6.next s6 s7 := hsq.trans (k7.weaken (by omega))
  simp (config := { maxSteps := 1000000, implicitDefEqProofs := false }) (disch := omega) only [allW, allR, allL, allB, Nat.sub_self, Nat.add_one_sub_one, Nat.reduceSub, oneOf, evalAll, partsA, optA, Nat.reduceLT, Nat.reduceLeDiff, Nat.reduceEqDiff, Nat.reduceAdd, ↓reduceIte, hn, h0, h1, h5, pw0, pw_doc (hW6.thing.keeps k67) htl, Thing.loadO (ht6.keeps k67) hl4, ml1, ml2, hW6.doc.self, ho6.self, ho7.self, buildKid]
  refine LB.smake_newSlice (base := s6.next) (by rfl) (by omega) (Nat.le_refl _) ?_
  intro kv s8 hkv hid8 k78 nx8 ot8
  have k68 : Stay s6.next s6 s8 := k67.trans k78
  have hkv : Sees s8 1 kv [kKids].length (strs [kKids]) := hkv.sees
  try simp (config := { maxSteps := 1000000, implicitDefEqProofs := false }) (disch := omega) only [allW, allR, allL, allB, Nat.sub_self, Nat.add_one_sub_one, Nat.reduceSub, oneOf, evalAll, partsA, optA, Nat.reduceLT, Nat.reduceLeDiff, Nat.reduceEqDiff, Nat.reduceAdd, ↓reduceIte, hn, h0, h1, h5]
  refine (path_anyP _ s8 D mv tc iv ic (hW6.doc.keeps k68) hs _ c4 o (ho6.keeps k68) hso kv [kKids] hkv (by decide)).mono ?_
  rintro _ s9 ⟨c9, rfl, ho9, k9⟩
  have n9 := k9.next
  have hl9 := ho9.len
  have n8 := k68.next
  refine ⟨fun _ => LA.Stay.toA hBl (k9.weaken (by omega)), ?_⟩
  have k69 : Stay s6.next s6 s9 := k68.trans (k9.weaken n8)
  simp (config := { maxSteps := 1000000, implicitDefEqProofs := false }) (disch := omega) only [allW, allR, allL, allB, Nat.sub_self, Nat.add_one_sub_one, Nat.reduceSub, oneOf, evalAll, partsA, optA, Nat.reduceLT, Nat.reduceLeDiff, Nat.reduceEqDiff, Nat.reduceAdd, ↓reduceIte, hn, h0, h1, h5, zO, plO, ho9.self]
  refine LB.smake_newPtr (by omega) ?_
  intro a1 ha1 na1 ea1
  simp (config := { maxSteps := 1000000, implicitDefEqProofs := false }) (disch := omega) only [allW, allR, allL, allB, Nat.sub_self, Nat.add_one_sub_one, Nat.reduceSub, oneOf, evalAll, partsA, optA, Nat.reduceLT, Nat.reduceLeDiff, Nat.reduceEqDiff, Nat.reduceAdd, ↓reduceIte, hn, h0, h1, h5, zO, plO]
  refine LB.smake_newPtr (by omega) ?_
  intro a2 ha2 na2 ea2
  simp (config := { maxSteps := 1000000, implicitDefEqProofs := false }) (disch := omega) only [allW, allR, allL, allB, Nat.sub_self, Nat.add_one_sub_one, Nat.reduceSub, oneOf, evalAll, partsA, optA, Nat.reduceLT, Nat.reduceLeDiff, Nat.reduceEqDiff, Nat.reduceAdd, ↓reduceIte, hn, h0, h1, h5, hd6]
  refine LB.sstep_storeAll szO (by decide) (ha1.ofPut na2 ea2 (by omega)) rfl rfl (by simpa using hl7) ho7.ok (fun h => absurd rfl h) ?_
  intro a3 ha3 na3 ea3
  have ha3 : Thing a3 (s6.next + 1) c7 := ha3
  simp (config := { maxSteps := 1000000, implicitDefEqProofs := false }) (disch := omega) only [allW, allR, allL, allB, Nat.sub_self, Nat.add_one_sub_one, Nat.reduceSub, oneOf, evalAll, partsA, optA, Nat.reduceLT, Nat.reduceLeDiff, Nat.reduceEqDiff, Nat.reduceAdd, ↓reduceIte, hn, h0, h1, h5, hd6]
  refine LB.sstep_storeAll szO (by decide) (ha2.ofPut na3 ea3 (by omega)) rfl rfl (by simpa using hl9) ho9.ok (fun h => absurd rfl h) ?_
  intro a4 ha4' na4 ea4
  have ha4' : Thing a4 (s6.next + 2) c9 := ha4'
  have htt : Thing a4 (s6.next + 1) c7 := ha3.ofPut na4 ea4 (by omega)
  have k6a : Stay s6.next s6 a4 := k69.trans ⟨by omega, fun j hj => by rw [ea4 j (by omega), ea3 j (by omega), ea2 j (by omega), ea1 j (by omega)]⟩
  have oty : OIs (fun j => s6.next ≤ j) a4 c7 (getO o kType) := ((((((((ho7.mono (G := fun j => s6.next + 3 ≤ j) (fun j (hj : _ ≤ j) => by omega)).ofPut nx8 ot8 (by omega)).keeps k9).ofPut na1 ea1 (by omega)).ofPut na2 ea2 (by omega)).ofPut na3 ea3 (by omega)).ofPut na4 ea4 (by omega))).mono (fun j (hj : _ ≤ j) => by omega)
  have okd : OIs (fun j => s6.next ≤ j) a4 c9 (pathD D.items (resD D.items o) [kKids]) := (((((ho9.mono (G := fun j => s6.next + 3 ≤ j) (fun j (hj : _ ≤ j) => by omega)).ofPut na1 ea1 (by omega)).ofPut na2 ea2 (by omega)).ofPut na3 ea3 (by omega)).ofPut na4 ea4 (by omega)).mono (fun j (hj : _ ≤ j) => by omega)
  refine LB.scall_reframe (fun f => f.n = 104 ∧ f.get 0 = .pointer (some ⟨w, 0, some 12⟩) ∧ f.get 1 = .int .i64 n ∧ f.get 5 = .pointer (some ⟨s.next, 0, some 6⟩) ∧ f.get 9 = .pointer (some ⟨s4.next, 0, some 6⟩) ∧ f.get 10 = .bool ok ∧ f.get 11 = .pointer (some ⟨s6.next + 1, 0, some 6⟩) ∧ f.get 12 = .pointer (some ⟨s6.next + 1 + 1, 0, some 6⟩)) ⟨by simp only [get_put, n_put, ↓reduceIte, Nat.reduceEqDiff, hn], by first | simp only [get_put, n_put, ↓reduceIte, Nat.reduceEqDiff, h0] | simp only [get_put, n_put, ↓reduceIte, Nat.reduceEqDiff], by first | simp only [get_put, n_put, ↓reduceIte, Nat.reduceEqDiff, h1] | simp only [get_put, n_put, ↓reduceIte, Nat.reduceEqDiff], by first | simp only [get_put, n_put, ↓reduceIte, Nat.reduceEqDiff, h5] | simp only [get_put, n_put, ↓reduceIte, Nat.reduceEqDiff], by first | simp only [get_put, n_put, ↓reduceIte, Nat.reduceEqDiff, h9] | simp only [get_put, n_put, ↓reduceIte, Nat.reduceEqDiff], by first | simp only [get_put, n_put, ↓reduceIte, Nat.reduceEqDiff, h10] | simp only [get_put, n_put, ↓reduceIte, Nat.reduceEqDiff], by first | simp only [get_put, n_put, ↓reduceIte, Nat.reduceEqDiff, h11] | simp only [get_put, n_put, ↓reduceIte, Nat.reduceEqDiff], by first | simp only [get_put, n_put, ↓reduceIte, Nat.reduceEqDiff, h12] | simp only [get_put, n_put, ↓reduceIte, Nat.reduceEqDiff]⟩ ?_
  rintro f ⟨hn, h0, h1, h5, h9, h10, h11, h12⟩
  clear ha1 ha2 ha3 ea1 ea2 ea3 ea4 na1 na2 na3 na4 ht5 ot8 et6 hkv ml1 ml2 hBo hBl hB hd6
  have hd6 : noneC.length + 1 = 6 := rfl
  have n6a := k6a.next
  have hWa := hW6.keeps k6a
  have haa := ha6.keeps k6a
  have hta := ht16.keeps k6a
  have hto := ht6.keeps k6a
  have hoa := ho6.keeps k6a
  simp (config := { maxSteps := 1000000, implicitDefEqProofs := false }) (disch := omega) only [allW, allR, allL, allB, Nat.sub_self, Nat.add_one_sub_one, Nat.reduceSub, oneOf, evalAll, partsA, optA, Nat.reduceLT, Nat.reduceLeDiff, Nat.reduceEqDiff, Nat.reduceAdd, ↓reduceIte, allW, allR, oneOf, evalAll, partsA, optA, Nat.reduceLT, Nat.reduceLeDiff, Nat.reduceEqDiff, Nat.reduceAdd, ↓reduceIte, hn, h0, h1, h5, h9, h10, h11, h12, Thing.loadO hto hl4, Thing.loadO hta hal]
  refine (heir_any _ _ a4 c4 ca o above hoa hso haa hsa (by omega)).mono ?_
  rintro _ b1 ⟨cm, rfl, hmi, kb1⟩
  have nb1 := kb1.next
  have hml := hmi.len
  obtain ⟨hsm, hml2⟩ := heirO_small (o := o) hso hsa (Nat.le_refl _) (by omega)
  obtain ⟨mine, hmine⟩ : ∃ x, x = heirO o above := ⟨_, rfl⟩
  simp only [← hmine] at hmi hsm hml2 ⊢
  simp (config := { maxSteps := 1000000, implicitDefEqProofs := false }) (disch := omega) only [allW, allR, oneOf, evalAll, partsA, optA, Nat.reduceLT, Nat.reduceLeDiff, Nat.reduceEqDiff, Nat.reduceAdd, ↓reduceIte, hn, h0, h1, h5, h9, h10, h11, h12, zO, plO]
  refine wstep_newPtr ?_
  intro b2 hb2 kb2 nb2
  simp (config := { maxSteps := 1000000, implicitDefEqProofs := false }) (disch := omega) only [allW, allR, oneOf, evalAll, partsA, optA, Nat.reduceLT, Nat.reduceLeDiff, Nat.reduceEqDiff, Nat.reduceAdd, ↓reduceIte, hn, h0, h1, h5, h9, h10, h11, h12, hd6]
  refine wstep_storeAll szO (by decide) hb2 rfl rfl hml hmi.ok ?_
  intro b3 hb3 nb3 eb3
  have hb3 : Thing b3 b1.next cm := hb3
  have kab : Stay a4.next a4 b3 := (kb1.trans (kb2.weaken nb1)).trans ⟨by omega, fun j hj => eb3 j (by omega)⟩
  have nab := kab.next
  have hWb := hWa.keeps kab
  have hob : OIs (fun j => s3.next ≤ j ∧ j < s4.next) b3 c4 o := hoa.keeps kab
  have hto3 := hto.keeps kab
  have htt3 := htt.keeps kab
  have htk3 := ha4'.keeps kab
  have oty3 := oty.keeps kab
  have okd3 := okd.keeps kab
  have hf6 : ∀ j, s6.next ≤ j → FreeW w m lv j := fun j hj => hW6.free hj
  have hmb : OIs (FreeW w m lv) b3 cm mine := (((hmi.lows).keeps kb2).ofPut nb3 eb3 (fun h => by have := h.2; omega)).mono (fun j hj => hj.1.elim (fun h => h) (fun h => hf6 j (by omega)))
  have hsb : WTo w m lv lv s b3 := (hs4.trans (WTo.ofStay k46)).trans (WTo.ofStay ((k6a).trans (kab.weaken (by omega))))
  have lk : loadA Try.prog b3 3 (.pointer (some ⟨s4.next, 0, some 6⟩)) = some (.int .i64 o.kind) := by
    rw [hto3.load (P := Try.prog) agInt (off := 0) (c := 6) (by rw [hl4]) (by omega), hob.kindC.1]
  by_cases c3 : ok = false ∨ ¬ o.kind = 7
  · have c3' : ok = false ∨ o.kind ≠ 7 := c3
    rw [if_pos c3']
    cases hok : ok
    · rw [hok] at h10
      simp (config := { maxSteps := 1000000, implicitDefEqProofs := false }) (disch := omega) only [allW, allR, wfn_ret, wfn_normal, oneOf, evalAll, partsA, optA, Nat.reduceLT, Nat.reduceLeDiff, Nat.reduceEqDiff, Nat.reduceAdd, ↓reduceIte, undef, hn, h0, h1, h9, h10, h11, h12, of0, lk, Try.results26]
      exact ⟨rfl, lv, hWb, hsb⟩
    · rw [hok] at c3 h10
      have cd7 : ¬ o.kind = 7 := by simpa using c3
      simp (config := { maxSteps := 1000000, implicitDefEqProofs := false }) (disch := omega) only [allW, allR, wfn_ret, wfn_normal, oneOf, evalAll, partsA, optA, Nat.reduceLT, Nat.reduceLeDiff, Nat.reduceEqDiff, Nat.reduceAdd, ↓reduceIte, undef, hn, h0, h1, h9, h10, h11, h12, of0, lk, eq_true cd7, decide_true, Try.results26]
      exact ⟨rfl, lv, hWb, hsb⟩
  have c3' : ¬ (ok = false ∨ o.kind ≠ 7) := c3
  rw [if_neg c3']
  have hok : ok = true := by cases ok <;> simp_all
  have cd7 : o.kind = 7 := by by_cases h : o.kind = 7; exact h; exact absurd (.inr h) c3
  rw [hok] at h10
  have hrs : resD D.items o = o := resD_stop (by rw [cd7]; decide)
  rw [hrs] at okd3
  simp (config := { maxSteps := 1000000, implicitDefEqProofs := false }) (disch := omega) only [allW, allR, oneOf, evalAll, partsA, optA, Nat.reduceLT, Nat.reduceLeDiff, Nat.reduceEqDiff, Nat.reduceAdd, ↓reduceIte, undef, hn, h0, h1, h9, h10, h11, h12, of0, lk, cd7, Thing.loadO htt3 hl7]
  refine (is_any _ b3 c7 _ oty3 kPage).mono ?_
  rintro _ b4 ⟨rfl, kb4⟩
  have nb4 := kb4.next
  have hWc := hWb.keeps kb4
  have hsc : WTo w m lv lv s b4 := hsb.trans (WTo.ofStay kb4)
  cases hp : isN (getO o kType) kPage
  rotate_left
  · rw [if_pos rfl]
    simp (config := { maxSteps := 1000000, implicitDefEqProofs := false }) (disch := omega) only [allW, allR, oneOf, evalAll, partsA, optA, Nat.reduceLT, Nat.reduceLeDiff, Nat.reduceEqDiff, Nat.reduceAdd, ↓reduceIte, undef, hn, h0, h1, h9, h10, h11, h12, Thing.loadO (hto3.keeps kb4) hl4, Thing.loadO (hb3.keeps kb4) hml]
    refine (page_any _ b4 w D mv tc iv ic m lv W3 hWc hs n c4 o ((hob.keeps kb4).mono (fun j hj => hW.free (by omega))) hso _ cm mine (hmb.keeps kb4) hsm).mono ?_
    rintro _ b5 ⟨rfl, lv', q1, q2⟩
    simp (config := { maxSteps := 1000000, implicitDefEqProofs := false }) (disch := omega) only [allW, allR, oneOf, evalAll, partsA, optA, Nat.reduceLT, Nat.reduceLeDiff, Nat.reduceEqDiff, Nat.reduceAdd, ↓reduceIte, allW, allR, wfn_ret, wfn_normal, oneOf, evalAll, partsA, optA, Nat.reduceLT, Nat.reduceLeDiff, Nat.reduceEqDiff, Nat.reduceAdd, ↓reduceIte, undef, hn, Try.results26]
    exact ⟨rfl, lv', q1, hsc.trans q2⟩
  rw [if_neg (by decide)]
  simp (config := { maxSteps := 1000000, implicitDefEqProofs := false }) (disch := omega) only [allW, allR, oneOf, evalAll, partsA, optA, Nat.reduceLT, Nat.reduceLeDiff, Nat.reduceEqDiff, Nat.reduceAdd, ↓reduceIte, undef, hn, h0, h1, h9, h10, h11, h12, Thing.loadO (htt3.keeps kb4) hl7]
  refine (is_any _ b4 c7 _ (oty3.keeps kb4) kPages).mono ?_
  rintro _ b5 ⟨rfl, kb5⟩
  have nb5 := kb5.next
  have kb35 : Stay b3.next b3 b5 := kb4.trans (kb5.weaken nb4)
  have hWd := hWc.keeps kb5
  have hsd : WTo w m lv lv s b5 := hsc.trans (WTo.ofStay kb5)
  have htk5 : Thing b5 (s6.next + 1 + 1) c9 := htk3.keeps kb35
  have okd5 := okd3.keeps kb35
  have hb5 := hb3.keeps kb35
  have hmb5 := hmb.keeps kb35
  have hsK : Small (pathD D.items o [kKids]) := resD_small hs.items (getO_small _ _ hso)
  obtain ⟨KO, hKO⟩ : ∃ KO, KO = pathD D.items o [kKids] := ⟨_, rfl⟩
  rw [← hKO] at okd5 hsK ⊢
  clear hoa hto ht6 ho6 haa hta ha6 ht16 hWa hW6 hWb hWc ho4 hW4 hW3 oty okd ha4' htt oty3 okd3 htt3 htk3 hto3 hob hb3 hmb
  cases KO with
  | mk kk kn kb kl kd =>
  obtain ⟨kbv, klv, kdv, klc, kdc, rfl, hkb, hkl, hkd, fkb, fkl, fkd, rkl, rkd⟩ := okd5.parts
  have lk9 : loadA Try.prog b5 3 (.pointer (some ⟨s6.next + 1 + 1, 0, some 6⟩)) = some (.int .i64 kk) := htk5.load agInt (off := 0) (c := 6) rfl (by simp)
  have ll9 : loadA Try.prog b5 28 (.pointer (some ⟨s6.next + 1 + 1, 3, some 6⟩)) = some klv := htk5.load agLs (off := 3) (c := 6) rfl (by simp)
  have hsl : kl.length ≤ 100000 := by cases hsK with | mk _ h _ _ _ _ => exact h
  by_cases c5 : isN (getO o kType) kPages = false ∨ ¬ kk = 6
  · have c5' : isN (getO o kType) kPages = false ∨ (O.mk kk kn kb kl kd).kind ≠ 6 := c5
    rw [if_pos c5']
    cases hq : isN (getO o kType) kPages
    · simp (config := { maxSteps := 1000000, implicitDefEqProofs := false }) (disch := omega) only [allW, allR, wfn_ret, wfn_normal, oneOf, evalAll, partsA, optA, Nat.reduceLT, Nat.reduceLeDiff, Nat.reduceEqDiff, Nat.reduceAdd, ↓reduceIte, undef, hn, h0, h1, h9, h10, h11, h12, Try.results26]
      exact ⟨rfl, lv, hWd, hsd⟩
    · rw [hq] at c5
      have cd6 : ¬ kk = 6 := by simpa using c5
      simp (config := { maxSteps := 1000000, implicitDefEqProofs := false }) (disch := omega) only [allW, allR, wfn_ret, wfn_normal, oneOf, evalAll, partsA, optA, Nat.reduceLT, Nat.reduceLeDiff, Nat.reduceEqDiff, Nat.reduceAdd, ↓reduceIte, undef, hn, h0, h1, h9, h10, h11, h12, of0, lk9, eq_true cd6, decide_true, Try.results26]
      exact ⟨rfl, lv, hWd, hsd⟩
  have c5' : ¬ (isN (getO o kType) kPages = false ∨ (O.mk kk kn kb kl kd).kind ≠ 6) := c5
  rw [if_neg c5']
  have hq : isN (getO o kType) kPages = true := by cases h : isN (getO o kType) kPages; exact absurd (.inl h) c5; rfl
  have cd6 : kk = 6 := by by_cases h : kk = 6; exact h; exact absurd (.inr h) c5
  have eit : (O.mk kk kn kb kl kd).items = kl := rfl
  rw [eit, hq]
  simp (config := { maxSteps := 1000000, implicitDefEqProofs := false }) (disch := omega) only [allW, allR, oneOf, evalAll, partsA, optA, Nat.reduceLT, Nat.reduceLeDiff, Nat.reduceEqDiff, Nat.reduceAdd, ↓reduceIte, undef, hn, h0, h1, h9, h10, h11, h12, of0, of3, lk9, cd6, ll9, hkl.lenA Try.underlying28]
  have hfW : ∀ j, s6.next ≤ j → FreeW w m lv j := fun j hj => hW.free (by omega)
  have hW3s : W3.seen.length = W.seen.length + 1 := by rw [hW3e]; rfl
  have n35 := kb35.next
  have sp := hsm
  refine Comes.loopOut (fun z f t => ∃ (i : Nat) (lv' : Value) (W' : WkO), z = kl.length - i ∧ i ≤ kl.length ∧ kidsD (nodeD D.items k) mine kl W3 = kidsD (nodeD D.items k) mine (kl.drop i) W' ∧ W'.seen.length + k ≥ 4001 ∧ W'.seen.length ≤ 4000 ∧ PwIs (pwC D mv tc iv m) (.agg #[]) t w D mv tc iv ic m lv' W' ∧ WTo w m lv lv' s t ∧ OIs (FreeW w m lv') t cm mine ∧ FreeW w m lv' b1.next ∧ Thing t b1.next cm ∧ Sees t 5 klv kl.length klc ∧ Foot (FreeW w m lv') klv ∧ ORows OIs 5 (FreeW w m lv') t kl klc ∧ f.n = 104 ∧ f.get 0 = .pointer (some ⟨w, 0, some 12⟩) ∧ f.get 13 = .pointer (some ⟨b1.next, 0, some 6⟩) ∧ f.get 86 = klv ∧ f.get 87 = .int .i64 (kl.length : Nat) ∧ f.get 88 = .int .i64 (i : Nat))
    (fun z f t => f.n = 104 ∧ ∃ lv', PwIs (pwC D mv tc iv m) (.agg #[]) t w D mv tc iv ic m lv' (kidsD (nodeD D.items k) mine kl W3).1 ∧ WTo w m lv lv' s t ∧ ((z = .exit 1 ∧ (kidsD (nodeD D.items k) mine kl W3).2 = 0) ∨ (z = .ret ∧ f.get 6 = .int .i64 ((kidsD (nodeD D.items k) mine kl W3).2 : Nat))))
    ⟨0, lv, W3, rfl, by omega, by rw [List.drop_zero], by omega, by omega, hWd, hsd, hmb5, hfW _ (by omega), hb5, hkl, fkl.mono hfW, rkl.mono rowedO hfW, by simp only [get_put, n_put, ↓reduceIte, Nat.reduceEqDiff, hn], by simp only [get_put, n_put, ↓reduceIte, Nat.reduceEqDiff, h0], by simp only [get_put, n_put, ↓reduceIte, Nat.reduceEqDiff], by simp only [get_put, n_put, ↓reduceIte, Nat.reduceEqDiff], by simp only [get_put, n_put, ↓reduceIte, Nat.reduceEqDiff], by simp only [get_put, n_put, ↓reduceIte, Nat.reduceEqDiff]; rfl⟩ ?_ ?_
  · clear hn h0 h1 h5 h9 h10 h11 h12 hkl fkl rkl hb5 hmb5 hWd f
    rintro Q hQ z f t ⟨i, lv', W', rfl, hi, hkeq, hsk, hsn', hWt, hto, hmt, hfb, hbt, hkt, fkt, rkt, hn, h0, h13, h86, h87, h88⟩
    by_cases hlt : i < kl.length
    rotate_left
    · obtain rfl : i = kl.length := by omega
      have d1 : ¬ ((kl.length : Nat) : Int) < ((kl.length : Nat) : Int) := by omega
      rw [List.drop_length] at hkeq
      have hkeq : kidsD (nodeD D.items k) mine kl W3 = (W', 0) := hkeq
      simp (config := { maxSteps := 1000000, implicitDefEqProofs := false }) (disch := omega) only [allW, allR, oneOf, evalAll, partsA, optA, Nat.reduceLT, Nat.reduceLeDiff, Nat.reduceEqDiff, Nat.reduceAdd, ↓reduceIte, hn, h0, h13, h86, h87, h88, eq_false d1]
      refine hQ _ _ _ ⟨by simp only [get_put, n_put, ↓reduceIte, Nat.reduceEqDiff, hn], lv', ?_, hto, .inl ⟨rfl, ?_⟩⟩
      · rw [hkeq]; exact hWt
      · rw [hkeq]
    have d1 : (i : Int) < (kl.length : Int) := by omega
    have hix := hkt.indexAddr (P := Try.prog) (k := .i64) (x := (i : Int)) Try.underlying28 szO (by omega) (by omega)
    rw [Int.toNat_natCast] at hix
    have hld := hkt.loadAgg (P := Try.prog) agO szO hlt
    have hoi := rkt.row i hlt
    obtain ⟨xs, hxs⟩ : ∃ xs, xs = (klc.drop (i * 5)).take 5 := ⟨_, rfl⟩
    rw [← hxs] at hld hoi
    have hxl := hoi.len
    rw [List.drop_eq_getElem_cons hlt] at hkeq
    obtain ⟨x, hx⟩ : ∃ x, x = kl[i] := ⟨_, rfl⟩
    rw [← hx] at hoi hkeq
    simp (config := { maxSteps := 1000000, implicitDefEqProofs := false }) (disch := omega) only [allW, allR, oneOf, evalAll, partsA, optA, Nat.reduceLT, Nat.reduceLeDiff, Nat.reduceEqDiff, Nat.reduceAdd, ↓reduceIte, hn, h0, h13, h86, h87, h88, eq_true d1, hix, hld, hoi.self, zO, plO]
    refine wstep_newPtr ?_
    intro t1 ht1 hst1' hnx1'
    simp (config := { maxSteps := 1000000, implicitDefEqProofs := false }) (disch := omega) only [allW, allR, oneOf, evalAll, partsA, optA, Nat.reduceLT, Nat.reduceLeDiff, Nat.reduceEqDiff, Nat.reduceAdd, ↓reduceIte, hn, h0, h13, h86, h87, h88, hd6]
    refine wstep_storeAll szO (by decide) ht1 rfl rfl hxl hoi.ok ?_
    intro t2 ht2 nt2 et2
    have ht2 : Thing t2 t.next xs := ht2
    have kt2 : Stay t.next t t2 := hst1'.trans ⟨by omega, fun j hj => et2 j (by omega)⟩
    have nt2' := kt2.next
    have hoi2 := hoi.keeps kt2
    have lkx : loadA Try.prog t2 3 (.pointer (some ⟨t.next, 0, some 6⟩)) = some (.int .i64 x.kind) := by
      rw [ht2.load (P := Try.prog) agInt (off := 0) (c := 6) (by rw [hxl]) (by omega), hoi2.kindC.1]
    have lnx : loadA Try.prog t2 2 (.pointer (some ⟨t.next, 1, some 6⟩)) = some (.int .i64 x.num) := by
      rw [ht2.load (P := Try.prog) agI64 (off := 1) (c := 6) (by rw [hxl]) (by omega), hoi2.kindC.2]
    have hto2 : WTo w m lv lv' s t2 := hto.trans (WTo.ofStay kt2)
    have hWt2 := hWt.keeps kt2
    by_cases c9 : x.kind = 9
    rotate_left
    · have e : kidsD (nodeD D.items k) mine kl W3 = (W', 4) := by rw [hkeq, kidsD, if_pos c9]
      simp (config := { maxSteps := 1000000, implicitDefEqProofs := false }) (disch := omega) only [allW, allR, oneOf, evalAll, partsA, optA, Nat.reduceLT, Nat.reduceLeDiff, Nat.reduceEqDiff, Nat.reduceAdd, ↓reduceIte, undef, hn, h0, h13, h86, h87, h88, of0, lkx, eq_true c9, decide_true, not_false_iff]
      refine hQ _ _ _ ⟨by simp only [get_put, n_put, ↓reduceIte, Nat.reduceEqDiff, hn], lv', ?_, hto2, .inr ⟨rfl, ?_⟩⟩
      · rw [e]; exact hWt2
      · rw [e]; simp only [get_put, n_put, ↓reduceIte, Nat.reduceEqDiff]; rfl
    have e : kidsD (nodeD D.items k) mine kl W3 = if (nodeD D.items k x.num mine W').2 ≠ 0 then nodeD D.items k x.num mine W' else kidsD (nodeD D.items k) mine (kl.drop (i + 1)) (nodeD D.items k x.num mine W').1 := by
      rw [hkeq, kidsD, if_neg (fun h => h c9)]
    simp (config := { maxSteps := 1000000, implicitDefEqProofs := false }) (disch := omega) only [allW, allR, oneOf, evalAll, partsA, optA, Nat.reduceLT, Nat.reduceLeDiff, Nat.reduceEqDiff, Nat.reduceAdd, ↓reduceIte, undef, hn, h0, h13, h86, h87, h88, of0, of1, lkx, lnx, c9, not_true, decide_false, Thing.loadO (hbt.keeps kt2) hml]
    refine (ih t2 lv' W' x.num cm mine hsk hsn' (by omega) sp (hmt.keeps kt2) hWt2).mono ?_
    rintro _ t3 ⟨rfl, lv2, hW2, hto23⟩
    obtain ⟨r, hr⟩ : ∃ r, r = nodeD D.items k x.num mine W' := ⟨_, rfl⟩
    have hseen := nodeD_seen D.items k x.num mine W' hsn'
    rw [← hr] at e hW2 hseen ⊢
    have hto3 : WTo w m lv lv2 s t3 := hto2.trans hto23
    have hto03 : WTo w m lv' lv2 t t3 := (WTo.ofStay kt2).trans hto23
    by_cases c0 : r.2 = 0
    rotate_left
    · have d2 : ¬ ((r.2 : Nat) : Int) = 0 := by omega
      rw [if_pos c0] at e
      simp (config := { maxSteps := 1000000, implicitDefEqProofs := false }) (disch := omega) only [allW, allR, oneOf, evalAll, partsA, optA, Nat.reduceLT, Nat.reduceLeDiff, Nat.reduceEqDiff, Nat.reduceAdd, ↓reduceIte, undef, hn, h0, h13, h86, h87, h88, eq_true d2, eq_false d2, decide_true, not_false_iff]
      refine hQ _ _ _ ⟨by simp only [get_put, n_put, ↓reduceIte, Nat.reduceEqDiff, hn], lv2, ?_, hto3, .inr ⟨rfl, ?_⟩⟩
      · rw [e]; exact hW2
      · rw [e]; simp only [get_put, n_put, ↓reduceIte, Nat.reduceEqDiff]
    rw [if_neg (fun h => h c0)] at e
    have d2 : ((r.2 : Nat) : Int) = 0 := by omega
    obtain ⟨hkt3, fkt3⟩ := hkt.wto fkt hto03
    simp (config := { maxSteps := 1000000, implicitDefEqProofs := false }) (disch := omega) only [allW, allR, oneOf, evalAll, partsA, optA, Nat.reduceLT, Nat.reduceLeDiff, Nat.reduceEqDiff, Nat.reduceAdd, ↓reduceIte, undef, hn, h0, h13, h86, h87, h88, d2, not_true, decide_false, wrapI]
    exact wround_next (kl.length - (i + 1)) (by omega) ⟨i + 1, lv2, r.1, rfl, by omega, e, by omega, hseen.2 c0, hW2, hto3, hmt.wto hto03, hto03.free hbt.lt hfb, hbt.calm hto03.calm hfb, hkt3, fkt3, rowsO_wto rkt hto03, by simp only [get_put, n_put, ↓reduceIte, Nat.reduceEqDiff, hn], by simp only [get_put, n_put, ↓reduceIte, Nat.reduceEqDiff, h0], by simp only [get_put, n_put, ↓reduceIte, Nat.reduceEqDiff, h13], by simp only [get_put, n_put, ↓reduceIte, Nat.reduceEqDiff, h86], by simp only [get_put, n_put, ↓reduceIte, Nat.reduceEqDiff, h87], by simp only [get_put, n_put, ↓reduceIte, Nat.reduceEqDiff]; rfl⟩
  clear hn h0 h1 h5 h9 h10 h11 h12 f
  rintro z f t ⟨hn, lv', q1, q2, ⟨rfl, e⟩ | ⟨rfl, h6⟩⟩
  · simp (config := { maxSteps := 1000000, implicitDefEqProofs := false }) (disch := omega) only [allW, allR, oneOf, evalAll, partsA, optA, Nat.reduceLT, Nat.reduceLeDiff, Nat.reduceEqDiff, Nat.reduceAdd, ↓reduceIte, allW, allR, wfn_ret, wfn_normal, oneOf, evalAll, partsA, optA, Nat.reduceLT, Nat.reduceLeDiff, Nat.reduceEqDiff, Nat.reduceAdd, ↓reduceIte, hn, Try.results26]
    exact ⟨by rw [e]; rfl, lv', q1, q2⟩
  · simp (config := { maxSteps := 1000000, implicitDefEqProofs := false }) (disch := omega) only [allW, allR, oneOf, evalAll, partsA, optA, Nat.reduceLT, Nat.reduceLeDiff, Nat.reduceEqDiff, Nat.reduceAdd, ↓reduceIte, allW, allR, wfn_ret, wfn_normal, oneOf, evalAll, partsA, optA, Nat.reduceLT, Nat.reduceLeDiff, Nat.reduceEqDiff, Nat.reduceAdd, ↓reduceIte, hn, h6, Try.results26]
    exact ⟨rfl, lv', q1, q2⟩
end Go.Proofs.Ytokfoagohblkoaa
set_option linter.unusedSimpArgs false
set_option linter.unusedVariables false
set_option maxRecDepth 100000
namespace Go.Cl
theorem PwIs.start {X : Value → List Value} {z : Value} {s : ASt} {w : Nat} {D : Dc} {mv : Value} {tc : List Value} {iv : Value} {ic : List Value} {m : Nat} {F : Nat → Prop} (hD : DocIs F s mv tc iv ic D) (h1 : Thing s w (X (.slice none 0 0))) (h2 : MapJ s m []) (hw : ∀ j, F j → j ≠ w ∧ j ≠ m) (hm : w ≠ m) : PwIs X z s w D mv tc iv ic m (.slice none 0 0) ⟨[], []⟩ :=
  ⟨hD.mono fun j hj => ⟨(hw j hj).1, (hw j hj).2, fun e => by cases e⟩, h1, ⟨[], h2, SeenJ.nil z⟩, ⟨[], .nil, ORows.nil⟩, (fun p hp => by cases hp), hm, (fun e => by cases e), fun e => by cases e⟩
end Go.Cl
namespace Go.Proofs.Ytokfoagohblkoaa
open Go.Cl Go.Lib
theorem bPw {D : Dc} {mv iv : Value} {tc : List Value} (hl : tc.length = 5) (a : Nat) : buildA Try.prog 78 [(0, .agg (docC D mv tc iv).toArray), (1, .map (some a))] = some (.agg (pwC D mv tc iv a (.slice none 0 0)).toArray) := by
  obtain ⟨a, b, c, d, e, rfl⟩ := five hl
  kernel_rfl
def AllR (s : ASt) (r : List PgO × Nat) (v : Value) (s' : ASt) : Prop := ∃ lv lc, v = .tuple #[lv, .int .i64 (r.2 : Nat)] ∧ Sees s' 20 lv r.1.length lc ∧ ORows PgIs 20 (fun _ => True) s' r.1 lc ∧ (∀ p ∈ r.1, Small p.res ∧ Small p.obj) ∧ r.1.length ≤ 100000 ∧ Stay s.next s s'
theorem kidsD_pages {step : Int → O → WkO → WkO × Nat} {mine : O} (h : ∀ n w, w.pages.length ≤ 1000 → (step n mine w).1.pages.length ≤ 1000) : ∀ (l : List O) (w : WkO), w.pages.length ≤ 1000 → (kidsD step mine l w).1.pages.length ≤ 1000
  | [], w, hw => hw
  | x :: r, w, hw => by
    unfold kidsD
    split
    · exact hw
    · split
      · exact h _ _ hw
      · exact kidsD_pages h r _ (h _ _ hw)
theorem nodeD_pages (D : List (Int × O)) : ∀ (k : Nat) (n : Int) (above : O) (w : WkO), w.pages.length ≤ 1000 → (nodeD D k n above w).1.pages.length ≤ 1000
  | 0, n, above, w, hw => hw
  | k + 1, n, above, w, hw => by
    rw [nodeD_succ]
    split
    · exact hw
    split
    · exact hw
    split
    · exact hw
    split
    · unfold pageD
      split
      · exact hw
      · split
        · exact hw
        · rename_i h; simp at h ⊢; omega
    split
    · exact hw
    · exact kidsD_pages (fun n w h => nodeD_pages D k n _ w h) _ _ hw
set_option maxHeartbeats 8000000 in
theorem all_any (F : Nat → Prop) (s : ASt) (D : Dc) (mv : Value) (tc : List Value) (iv : Value) (ic : List Value) (hD : DocIs F s mv tc iv ic D) (hs : SmallD D) :
    Runs Try.prog libN 8 [.agg (docC D mv tc iv).toArray] s (AllR s (pagesD D.items D.trailer)) := by
  have htl := hD.trailer.len
  have dl := db_len (D := D) (mv := mv) (iv := iv) htl
  have hd6 : noneC.length + 1 = 6 := rfl
  refine Runs.enter 39 Try.func8 rfl rfl rfl rfl ?_
  intro f hn hf
  have h0 : f.get 0 = .agg (docC D mv tc iv).toArray := hf 0
  clear hf
  simp (config := { maxSteps := 1000000, implicitDefEqProofs := false }) (disch := omega) only [allW, allR, oneOf, evalAll, partsA, optA, Nat.reduceLT, Nat.reduceLeDiff, Nat.reduceEqDiff, Nat.reduceAdd, ↓reduceIte, hn, h0]
  refine wstep_newPtr ?_
  intro s1 ht1 hst1 hnx1
  have ht1 : Thing s1 s.next (docC D mv tc iv) := ht1
  have n1 := hst1.next
  have hD1 := hD.lows.keeps hst1
  simp (config := { maxSteps := 1000000, implicitDefEqProofs := false }) (disch := omega) only [allW, allR, oneOf, evalAll, partsA, optA, Nat.reduceLT, Nat.reduceLeDiff, Nat.reduceEqDiff, Nat.reduceAdd, ↓reduceIte, hn, h0, dl]
  obtain ⟨B, hB⟩ : ∃ B : Nat → Bool, B = fun j => decide (j < s1.next) := ⟨_, rfl⟩
  have hBl : ∀ j, B j = true → j < s1.next := by
    intro j h
    rw [hB] at h
    exact of_decide_eq_true h
  have hBo : ∀ j, j < s1.next → B j = true := fun j h => by rw [hB]; exact decide_eq_true h
  refine LB.Drawn.looseK B hBl 1 1 (by kernel_rfl) (by kernel_rfl) ?_
  have hsq := Stay.spare s1 1
  have hnq : (spare s1 1).next = s1.next + 1 := spare_next _ _
  have ml1 : ∀ k, LA.lowV B (some (.pointer (some ⟨s.next, k, some 10⟩))) = true := fun k => LA.lowV_ptr (A := B) (i := s.next) (hBo _ ht1.lt)
  simp (config := { maxSteps := 1000000, implicitDefEqProofs := false }) (disch := omega) only [allW, allR, allL, allB, Nat.sub_self, Nat.add_one_sub_one, Nat.reduceSub, oneOf, evalAll, partsA, optA, Nat.reduceLT, Nat.reduceLeDiff, Nat.reduceEqDiff, Nat.reduceAdd, ↓reduceIte, hn, h0, df3, db_all (ht1.keeps hsq) htl, db_trailer (ht1.keeps hsq) htl, ml1, hD1.self, hD1.trailer.self]
  refine (get_anyP _ (spare s1 1) tc D.trailer (hD1.trailer.keeps hsq) hs.trailer kRoot).mono ?_
  rintro _ s2 ⟨c2, rfl, ho2, k2⟩
  have n2 := k2.next
  refine ⟨fun _ => LA.Stay.toA hBl (k2.weaken (by omega)), ?_⟩
  have k12 : Stay s1.next s1 s2 := hsq.trans (k2.weaken (by omega))
  try simp (config := { maxSteps := 1000000, implicitDefEqProofs := false }) (disch := omega) only [allW, allR, allL, allB, Nat.sub_self, Nat.add_one_sub_one, Nat.reduceSub, oneOf, evalAll, partsA, optA, Nat.reduceLT, Nat.reduceLeDiff, Nat.reduceEqDiff, Nat.reduceAdd, ↓reduceIte, hn, h0, ho2.self]
  refine (resolve_anyP _ s2 D mv tc iv ic (hD1.keeps k12) hs _ c2 _ ho2 (getO_small _ kRoot hs.trailer)).mono ?_
  rintro _ s3 ⟨c3, rfl, ho3, k3⟩
  have n3 := k3.next
  have hl3 := ho3.len
  refine ⟨fun h => h.elim, ?_⟩
  have k13 : Stay s1.next s1 s3 := k12.trans (k3.weaken (by omega))
  simp (config := { maxSteps := 1000000, implicitDefEqProofs := false }) (disch := omega) only [allW, allR, allL, allB, Nat.sub_self, Nat.add_one_sub_one, Nat.reduceSub, oneOf, evalAll, partsA, optA, Nat.reduceLT, Nat.reduceLeDiff, Nat.reduceEqDiff, Nat.reduceAdd, ↓reduceIte, hn, h0, zO, plO]
  refine LB.smake_newPtr (by omega) ?_
  intro s4 ht4 nt4 et4
  simp (config := { maxSteps := 1000000, implicitDefEqProofs := false }) (disch := omega) only [allW, allR, allL, allB, Nat.sub_self, Nat.add_one_sub_one, Nat.reduceSub, oneOf, evalAll, partsA, optA, Nat.reduceLT, Nat.reduceLeDiff, Nat.reduceEqDiff, Nat.reduceAdd, ↓reduceIte, hn, h0, hd6]
  refine LB.sstep_storeAll szO (by decide) ht4 rfl rfl (by simpa using hl3) ho3.ok (fun h => absurd rfl h) ?_
  intro s5 ht5 nt5 et5
  have ht5 : Thing s5 s1.next c3 := ht5
  have k15 : Stay s1.next s1 s5 := k13.trans ⟨by omega, fun j hj => by rw [et5 j (by omega), et4 j (by omega)]⟩
  have ho5 : OIs (fun j => s1.next + 1 ≤ j) s5 c3 (resD D.items (getO D.trailer kRoot)) := ((ho3.mono (G := fun j => s1.next + 1 ≤ j) (fun j (hj : _ ≤ j) => by omega)).ofPut nt4 et4 (by omega)).ofPut nt5 et5 (by omega)
  have n15 := k15.next
  have ht15 := ht1.keeps k15
  have hD5 := hD1.keeps k15
  obtain ⟨R, hR⟩ : ∃ R, R = resD D.items (getO D.trailer kRoot) := ⟨_, rfl⟩
  have hsR : Small R := by rw [hR]; exact resD_small hs.items (getO_small _ _ hs.trailer)
  have epd : pagesD D.items D.trailer = if R.kind ≠ 7 ∨ (getO R kPages).kind ≠ 9 then ([], 8) else if (nodeD D.items 4001 (getO R kPages).num (.mk 7 0 [] [] []) ⟨[], []⟩).2 ≠ 0 then ([], (nodeD D.items 4001 (getO R kPages).num (.mk 7 0 [] [] []) ⟨[], []⟩).2) else ((nodeD D.items 4001 (getO R kPages).num (.mk 7 0 [] [] []) ⟨[], []⟩).1.pages, 0) := by rw [hR]; rfl
  rw [← hR] at ho5
  rw [epd]
  simp (config := { maxSteps := 1000000, implicitDefEqProofs := false }) (disch := omega) only [allW, allR, allL, allB, Nat.sub_self, Nat.add_one_sub_one, Nat.reduceSub, oneOf, evalAll, partsA, optA, Nat.reduceLT, Nat.reduceLeDiff, Nat.reduceEqDiff, Nat.reduceAdd, ↓reduceIte, allW, allR, oneOf, evalAll, partsA, optA, Nat.reduceLT, Nat.reduceLeDiff, Nat.reduceEqDiff, Nat.reduceAdd, ↓reduceIte, hn, h0, Thing.loadO ht5 hl3]
  refine (get_anyP _ s5 c3 R ho5 hsR kPages).mono ?_
  rintro _ s6 ⟨c6, rfl, ho6, k6⟩
  have n6 := k6.next
  have hl6 := ho6.len
  simp (config := { maxSteps := 1000000, implicitDefEqProofs := false }) (disch := omega) only [allW, allR, oneOf, evalAll, partsA, optA, Nat.reduceLT, Nat.reduceLeDiff, Nat.reduceEqDiff, Nat.reduceAdd, ↓reduceIte, hn, h0, zO, plO]
  refine wstep_newPtr ?_
  intro s7 ht7 hst7 hnx7
  simp (config := { maxSteps := 1000000, implicitDefEqProofs := false }) (disch := omega) only [allW, allR, oneOf, evalAll, partsA, optA, Nat.reduceLT, Nat.reduceLeDiff, Nat.reduceEqDiff, Nat.reduceAdd, ↓reduceIte, hn, h0, hd6]
  refine wstep_storeAll szO (by decide) ht7 rfl rfl hl6 ho6.ok ?_
  intro s8 ht8 nt8 et8
  have ht8 : Thing s8 s6.next c6 := ht8
  have k58 : Stay s5.next s5 s8 := (k6.trans (hst7.weaken n6)).trans ⟨by omega, fun j hj => et8 j (by omega)⟩
  have n58 := k58.next
  have ht58 := ht5.keeps k58
  have ho58 := ho5.keeps k58
  have ho8 : OIs (fun j => s5.next ≤ j ∧ j < s6.next) s8 c6 (getO R kPages) := (ho6.lows.keeps hst7).ofPut nt8 et8 (by omega)
  have k18 : Stay s1.next s1 s8 := k15.trans (k58.weaken n15)
  have ks8 : Stay s.next s s8 := hst1.trans (k18.weaken n1)
  have lk1 : loadA Try.prog s8 3 (.pointer (some ⟨s1.next, 0, some 6⟩)) = some (.int .i64 R.kind) := by
    rw [ht58.load (P := Try.prog) agInt (off := 0) (c := 6) (by rw [hl3]) (by omega), ho58.kindC.1]
  have lk2 : loadA Try.prog s8 3 (.pointer (some ⟨s6.next, 0, some 6⟩)) = some (.int .i64 (getO R kPages).kind) := by
    rw [ht8.load (P := Try.prog) agInt (off := 0) (c := 6) (by rw [hl6]) (by omega), ho8.kindC.1]
  have ln2 : loadA Try.prog s8 2 (.pointer (some ⟨s6.next, 1, some 6⟩)) = some (.int .i64 (getO R kPages).num) := by
    rw [ht8.load (P := Try.prog) agI64 (off := 1) (c := 6) (by rw [hl6]) (by omega), ho8.kindC.2]
  by_cases c1 : R.kind = 7
  rotate_left
  · rw [if_pos (.inl c1)]
    simp (config := { maxSteps := 1000000, implicitDefEqProofs := false }) (disch := omega) only [allW, allR, wfn_ret, wfn_normal, oneOf, evalAll, partsA, optA, Nat.reduceLT, Nat.reduceLeDiff, Nat.reduceEqDiff, Nat.reduceAdd, ↓reduceIte, undef, hn, h0, of0, lk1, eq_true c1, decide_true, not_false_iff, Try.results8]
    exact ⟨_, [], rfl, .nil, ORows.nil, (fun p hp => by cases hp), by simp, ks8⟩
  by_cases c2 : (getO R kPages).kind = 9
  rotate_left
  · rw [if_pos (.inr c2)]
    simp (config := { maxSteps := 1000000, implicitDefEqProofs := false }) (disch := omega) only [allW, allR, wfn_ret, wfn_normal, oneOf, evalAll, partsA, optA, Nat.reduceLT, Nat.reduceLeDiff, Nat.reduceEqDiff, Nat.reduceAdd, ↓reduceIte, undef, hn, h0, of0, lk1, lk2, c1, not_true, decide_false, eq_true c2, decide_true, not_false_iff, Try.results8]
    exact ⟨_, [], rfl, .nil, ORows.nil, (fun p hp => by cases hp), by simp, ks8⟩
  rw [if_neg (fun h => h.elim (fun h => h c1) (fun h => h c2))]
  have ht18 := ht1.keeps k18
  obtain ⟨s9, e9, hM9, k9, nx9⟩ := newMapJ s8
  simp (config := { maxSteps := 1000000, implicitDefEqProofs := false }) (disch := omega) only [allW, allR, oneOf, evalAll, partsA, optA, Nat.reduceLT, Nat.reduceLeDiff, Nat.reduceEqDiff, Nat.reduceAdd, ↓reduceIte, undef, hn, h0, of0, lk1, lk2, c1, c2, not_true, decide_false, db_all ht18 htl, e9, bPw htl]
  refine wstep_newPtr ?_
  intro sa hta ka nxa
  have hta : Thing sa s9.next (pwC D mv tc iv s8.next (.slice none 0 0)) := hta
  have n9 := k9.next
  have na := ka.next
  have k8a : Stay s8.next s8 sa := k9.trans (ka.weaken n9)
  have ksa : Stay s.next s sa := ks8.trans (k8a.weaken (by have := ks8.next; omega))
  have hWa : PwIs (pwC D mv tc iv s8.next) (.agg #[]) sa s9.next D mv tc iv ic s8.next (.slice none 0 0) ⟨[], []⟩ :=
    PwIs.start (hD.lows.keeps ksa) hta (hM9.keeps ka) (fun j hj => by have := hj.2; have := ks8.next; omega) (by omega)
  have ht8a := ht8.keeps k8a
  have ho8a := ho8.keeps k8a
  have hd12 : (pwC D mv tc iv s8.next (.slice none 0 0)).length + 1 = 12 := by rw [pwC_len htl]
  simp (config := { maxSteps := 1000000, implicitDefEqProofs := false }) (disch := omega) only [allW, allR, oneOf, evalAll, partsA, optA, Nat.reduceLT, Nat.reduceLeDiff, Nat.reduceEqDiff, Nat.reduceAdd, ↓reduceIte, undef, hn, h0, hd12]
  obtain ⟨C, hC⟩ : ∃ B : Nat → Bool, B = fun j => decide (j < sa.next) := ⟨_, rfl⟩
  have hCl : ∀ j, C j = true → j < sa.next := by
    intro j h
    rw [hC] at h
    exact of_decide_eq_true h
  have hCo : ∀ j, j < sa.next → C j = true := fun j h => by rw [hC]; exact decide_eq_true h
  refine LB.Drawn.looseK C hCl 1 0 (by kernel_rfl) (by kernel_rfl) ?_
  have hsr := Stay.spare sa 0
  have hnr : (spare sa 0).next = sa.next + 0 := spare_next _ _
  have ml3 : ∀ k, LA.lowV C (some (.pointer (some ⟨s6.next, k, some 6⟩))) = true := fun k => LA.lowV_ptr (A := C) (i := s6.next) (hCo _ ht8a.lt)
  have ln3 : loadA Try.prog (spare sa 0) 2 (.pointer (some ⟨s6.next, 1, some 6⟩)) = some (.int .i64 (getO R kPages).num) := by
    rw [(ht8a.keeps hsr).load (P := Try.prog) agI64 (off := 1) (c := 6) (by rw [hl6]) (by omega), ho8.kindC.2]
  simp (config := { maxSteps := 1000000, implicitDefEqProofs := false }) (disch := omega) only [allW, allR, allL, allB, Nat.sub_self, Nat.add_one_sub_one, Nat.reduceSub, oneOf, evalAll, partsA, optA, Nat.reduceLT, Nat.reduceLeDiff, Nat.reduceEqDiff, Nat.reduceAdd, ↓reduceIte, hn, h0, of1, ln3, ml3, valEq_int]
  refine (dict_any libCP (fun _ => False) (spare sa 0) (.slice none 0 0) [] [] .nil ORows.nil (by simp) (fun e he => by cases he)).mono ?_
  rintro _ sb ⟨cb, rfl, hob, kb⟩
  have nb := kb.next
  refine ⟨fun _ => LA.Stay.toA hCl (kb.weaken (by omega)), ?_⟩
  have kab : Stay sa.next sa sb := hsr.trans (kb.weaken (by omega))
  have hWb := hWa.keeps kab
  have eD : O.mk 7 0 [] [] (putAll [] []) = .mk 7 0 [] [] [] := rfl
  rw [eD] at hob
  try simp (config := { maxSteps := 1000000, implicitDefEqProofs := false }) (disch := omega) only [allW, allR, allL, allB, Nat.sub_self, Nat.add_one_sub_one, Nat.reduceSub, oneOf, evalAll, partsA, optA, Nat.reduceLT, Nat.reduceLeDiff, Nat.reduceEqDiff, Nat.reduceAdd, ↓reduceIte, hn, h0, hob.self]
  refine (node_any s9.next D mv tc iv ic s8.next hs 4001 sb (.slice none 0 0) ⟨[], []⟩ (getO R kPages).num cb (.mk 7 0 [] [] []) (by simp) (by simp) (by simp [O.ents]) (Small.bare 7 0) (hob.mono fun j (hj : _ ≤ j) => hWa.free (by omega)) hWb).mono ?_
  rintro _ sc ⟨rfl, lv, hWc, htc⟩
  refine ⟨fun h => h.elim, ?_⟩
  obtain ⟨r, hr⟩ : ∃ r, r = nodeD D.items 4001 (getO R kPages).num (.mk 7 0 [] [] []) ⟨[], []⟩ := ⟨_, rfl⟩
  have hpl : r.1.pages.length ≤ 1000 := by rw [hr]; exact nodeD_pages _ _ _ _ _ (by simp)
  rw [← hr] at hWc ⊢
  have ksb : Stay s.next s sb := ksa.trans (kab.weaken (by have := ksa.next; omega))
  have ksc : Stay s.next s sc := ksb.trans ⟨htc.next, fun j hj => htc.calm.get j (by have := ksb.next; omega) ⟨by have := ks8.next; omega, by have := ks8.next; omega, fun e => by cases e⟩⟩
  by_cases c0 : r.2 = 0
  rotate_left
  · have d2 : ¬ ((r.2 : Nat) : Int) = 0 := by omega
    rw [if_pos c0]
    simp (config := { maxSteps := 1000000, implicitDefEqProofs := false }) (disch := omega) only [allW, allR, allL, allB, Nat.sub_self, Nat.add_one_sub_one, Nat.reduceSub, oneOf, evalAll, partsA, optA, Nat.reduceLT, Nat.reduceLeDiff, Nat.reduceEqDiff, Nat.reduceAdd, ↓reduceIte, allW, allR, oneOf, evalAll, partsA, optA, Nat.reduceLT, Nat.reduceLeDiff, Nat.reduceEqDiff, Nat.reduceAdd, ↓reduceIte, allW, allR, wfn_ret, wfn_normal, oneOf, evalAll, partsA, optA, Nat.reduceLT, Nat.reduceLeDiff, Nat.reduceEqDiff, Nat.reduceAdd, ↓reduceIte, undef, hn, h0, eq_true d2, eq_false d2, decide_true, not_false_iff, Try.results8]
    exact ⟨_, [], rfl, .nil, ORows.nil, (fun p hp => by cases hp), by simp, ksc⟩
  have d2 : ((r.2 : Nat) : Int) = 0 := by omega
  rw [if_neg (show ¬ (r.2 ≠ 0) from fun h => h c0)]
  obtain ⟨lc, hO, hRw⟩ := hWc.pages
  simp (config := { maxSteps := 1000000, implicitDefEqProofs := false }) (disch := omega) only [allW, allR, allL, allB, Nat.sub_self, Nat.add_one_sub_one, Nat.reduceSub, oneOf, evalAll, partsA, optA, Nat.reduceLT, Nat.reduceLeDiff, Nat.reduceEqDiff, Nat.reduceAdd, ↓reduceIte, allW, allR, oneOf, evalAll, partsA, optA, Nat.reduceLT, Nat.reduceLeDiff, Nat.reduceEqDiff, Nat.reduceAdd, ↓reduceIte, allW, allR, wfn_ret, wfn_normal, oneOf, evalAll, partsA, optA, Nat.reduceLT, Nat.reduceLeDiff, Nat.reduceEqDiff, Nat.reduceAdd, ↓reduceIte, undef, hn, h0, d2, not_true, decide_false, pw2, pw_pages hWc.thing htl, Try.results8]
  exact ⟨lv, lc, rfl, hO.sees, hRw.mono rowedP (fun _ _ => trivial), hWc.small, Nat.le_trans hpl (by decide), ksc⟩
end Go.Proofs.Ytokfoagohblkoaa
set_option linter.unusedSimpArgs false
set_option linter.unusedVariables false
set_option maxRecDepth 100000
namespace Go.Cl
def pgC (m c : List Int) (r : Int) (rc : List Value) (n : Int) (oc : List Value) : List Value := lfC m c r rc ++ (.int .i64 n :: oc)
section
variable {m c m' oc : List Int} {r r' n : Int} {rc rc' oc : List Value}
theorem pg_media (hm : m.length = 4) : ((pgC m c r rc n oc).drop 0).take 4 = i64V m := by
  obtain ⟨a, b, d, e, rfl⟩ := four hm
  rfl
theorem pgC_self (h : valEq (.agg rc.toArray) (.agg rc.toArray) = true) (h2 : valEq (.agg oc.toArray) (.agg oc.toArray) = true) : valEq (.agg (pgC m c r rc n oc).toArray) (.agg (pgC m c r rc n oc).toArray) = true := by
  show valEqL (pgC m c r rc n oc) (pgC m c r rc n oc) = true
  have h1 : valEqL (lfC m c r rc) (lfC m c r rc) = true := lfC_self h
  have h2 : valEqL oc oc = true := h2
  refine valEqL_self (fun v hv => ?_)
  simp only [pgC, List.mem_cons, List.mem_append] at hv
  rcases hv with hv | rfl | hv
  · exact valEqL_all h1 v hv
  · simp [valEq1]
  · exact valEqL_all h2 v hv
end
end Go.Cl
namespace Go.Proofs.Ytokfoagohblkoaa
open Go.Cl Go.Lib
theorem szRl : sizeB Try.prog 50 = some 14 := by kernel_rfl
theorem szRp : sizeB Try.prog 52 = some 20 := by kernel_rfl
theorem byRp : bytesB Try.prog 52 = some 256 := by kernel_rfl
theorem zRp : zeroB Try.prog 52 = some (.agg nonePg.toArray) := by kernel_rfl
theorem rp0 (i o c : Nat) : fieldAddrA Try.prog 52 (.pointer (some ⟨i, o, some c⟩)) 0 = some (.pointer (some ⟨i, o + 0, some c⟩)) := by
  unfold fieldAddrA; rw [Try.underlying52]; simp [szRl]
theorem rl1 (i o c : Nat) : fieldAddrA Try.prog 50 (.pointer (some ⟨i, o, some c⟩)) 1 = some (.pointer (some ⟨i, o + 4, some c⟩)) := by
  unfold fieldAddrA; rw [Try.underlying50]; simp [szRx]
theorem rl2 (i o c : Nat) : fieldAddrA Try.prog 50 (.pointer (some ⟨i, o, some c⟩)) 2 = some (.pointer (some ⟨i, o + 8, some c⟩)) := by
  unfold fieldAddrA; rw [Try.underlying50]; simp [szRx, szInt]
theorem rl3 (i o c : Nat) : fieldAddrA Try.prog 50 (.pointer (some ⟨i, o, some c⟩)) 3 = some (.pointer (some ⟨i, o + 9, some c⟩)) := by
  unfold fieldAddrA; rw [Try.underlying50]; simp [szRx, szInt, szO]
section
variable {t : ASt} {i : Nat} {D : Dc} {mv iv lv : Value} {tc : List Value} {m e : Nat}
end
end Go.Proofs.Ytokfoagohblkoaa
