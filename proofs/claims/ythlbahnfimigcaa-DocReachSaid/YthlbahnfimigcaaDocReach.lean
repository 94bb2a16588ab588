/-
  The statement DocReach: each number that is reached is there, once, and is named by the trailer, or by one reached ahead of it; and all that those name and that are there are reached: the law returns true.
  Conditions: none.
-/
import Derived.Test.YthlbahnfimigcaaRows
import Derived.Test.YthlbahnfimigcaaDocJ
import Derived.Test.YthlbahnfimigcaaDocL
import Derived.Test.YthlbahnfimigcaaLibR
set_option linter.unusedSimpArgs false
set_option linter.unusedVariables false
namespace Go.Proofs.Ythlbahnfimigcaa.docReach
open Go.ChangeShapes Go.WideShapes Go.ChangeAt Go.RowKit Go.Cl Go.Lib
theorem libRf : LibRf libN := by constructor <;> rfl
set_option maxRecDepth 100000 in
set_option maxHeartbeats 8000000 in
theorem law (s : ASt) (mv : Value) (tc : List Value) (iv : Value) (ic : List Value) (D : Dc) (hD : DocIs (fun _ => True) s mv tc iv ic D) (hfit : FitD D) :
    Runs Try.prog libN 3 [.agg (docC D mv tc iv).toArray] s fun v _ => v = .bool true := by
  obtain ⟨QQ, hQQ⟩ : ∃ QQ : Value → ASt → Prop, QQ = fun v _ => v = .bool true := ⟨_, rfl⟩
  rw [← hQQ]
  have htl := hD.trailer.len
  have dl := db_len (D := D) (mv := mv) (iv := iv) htl
  refine Runs.enter 86 Try.func3 rfl rfl rfl rfl ?_
  intro f hn hf
  have h0 : f.get 0 = .agg (docC D mv tc iv).toArray := hf 0
  clear hf
  simp (config := { maxSteps := 1000000, implicitDefEqProofs := false }) (disch := omega) only [allW, allR, oneOf, evalAll, partsA, optA, Nat.reduceLT, Nat.reduceLeDiff, Nat.reduceEqDiff, Nat.reduceAdd, ↓reduceIte, hn, h0]
  refine wstep_newPtr ?_
  intro s1 ht1 hst1 hnx1
  have ht1 : Thing s1 s.next (docC D mv tc iv) := ht1
  simp (config := { maxSteps := 1000000, implicitDefEqProofs := false }) (disch := omega) only [allW, allR, oneOf, evalAll, partsA, optA, Nat.reduceLT, Nat.reduceLeDiff, Nat.reduceEqDiff, Nat.reduceAdd, ↓reduceIte, hn, h0, dl]
  refine (awake_any rfl libRf rfl rfl rfl rfl rfl rfl rfl rfl rfl rfl rfl rfl s1).mono ?_
  rintro _ s2 ⟨rfl, k2⟩
  have ht2 := ht1.keeps k2
  have n1 := hst1.next
  have n2 := k2.next
  have hs2 : Stay s.next s s2 := hst1.trans (k2.weaken n1)
  simp (config := { maxSteps := 1000000, implicitDefEqProofs := false }) (disch := omega) only [allW, allR, oneOf, evalAll, partsA, optA, Nat.reduceLT, Nat.reduceLeDiff, Nat.reduceEqDiff, Nat.reduceAdd, ↓reduceIte, hn, h0, Bool.not_true, db_all ht2 htl]
  refine (fair_any rfl rfl rfl rfl rfl rfl rfl rfl rfl _ s2 D mv tc iv ic (hD.lows.keeps hs2) hfit).mono ?_
  rintro _ s3 ⟨⟨u, rfl, hu⟩, k3⟩
  have n3 := k3.next
  have hs3 : Stay s.next s s3 := hs2.trans (k3.weaken (by omega))
  have ht3 := ht2.keeps k3
  cases u with
  | false =>
    simp (config := { maxSteps := 1000000, implicitDefEqProofs := false }) (disch := omega) only [allW, allR, wfn_ret, wfn_normal, oneOf, evalAll, partsA, optA, Nat.reduceLT, Nat.reduceLeDiff, Nat.reduceEqDiff, Nat.reduceAdd, ↓reduceIte, hn, h0, Bool.not_false, Try.results3]
    rw [hQQ]
  | true =>
  have hfair := hu rfl
  have hsm := hfair.small
  obtain ⟨k, r, hk, hk2⟩ := walks_small hsm
  obtain ⟨hall, hclosed⟩ := walks_from hk
  have hrl := hk.size.2
  rw [List.length_nil, Nat.zero_add] at hrl
  have hst0 := hk.stack
  simp (config := { maxSteps := 1000000, implicitDefEqProofs := false }) (disch := omega) only [allW, allR, oneOf, evalAll, partsA, optA, Nat.reduceLT, Nat.reduceLeDiff, Nat.reduceEqDiff, Nat.reduceAdd, ↓reduceIte, hn, h0, Bool.not_true, db_all ht3 htl]
  refine (reach_any rfl rfl rfl rfl rfl rfl rfl rfl _ s3 D mv tc iv ic (hD.lows.keeps hs3) hsm k r hk (by omega)).mono ?_
  rintro lv s4 ⟨hlv, hlF, k4⟩
  have n4 := k4.next
  have hs4 : Stay s.next s s4 := hs3.trans (k4.weaken (by omega))
  have ht4 := ht3.keeps k4
  simp (config := { maxSteps := 1000000, implicitDefEqProofs := false }) (disch := omega) only [allW, allR, oneOf, evalAll, partsA, optA, Nat.reduceLT, Nat.reduceLeDiff, Nat.reduceEqDiff, Nat.reduceAdd, ↓reduceIte, hn, h0, df3, db_trailer ht4 htl]
  refine (rrefs_any (lib := libN) rfl _ D.trailer (Nat.le_refl _) _ s4 tc (hD.trailer.lows.keeps hs4) hsm.trailer (by omega)).mono ?_
  rintro nv s5 ⟨hnv, hnF, k5⟩
  have n5 := k5.next
  have hs5 : Stay s.next s s5 := hs4.trans (k5.weaken (by omega))
  have wB : ∀ b, valEq (.bool b) (.bool b) = true := fun b => by cases b <;> rfl
  have hd6 : noneC.length + 1 = 6 := rfl
  simp (config := { maxSteps := 1000000, implicitDefEqProofs := false }) (disch := omega) only [allW, allR, oneOf, evalAll, partsA, optA, Nat.reduceLT, Nat.reduceLeDiff, Nat.reduceEqDiff, Nat.reduceAdd, ↓reduceIte, hn, h0]
  refine Comes.loopOut (fun z f t => ∃ (i : Nat) (nv : Value), z = r.length - i ∧ i ≤ r.length ∧ Own t 1 nv (namedD D.items (refsO D.trailer) (r.take i)).length (intsV (namedD D.items (refsO D.trailer) (r.take i))) ∧ Fresh s4.next nv ∧ Stay s4.next s4 t ∧ f.n = 86 ∧ f.get 1 = .pointer (some ⟨s.next, 0, some 10⟩) ∧ f.get 3 = lv ∧ f.get 4 = nv ∧ f.get 5 = .int .i64 (i : Nat))
    (fun z f t => z = .exit 0 ∧ ∃ nv : Value, Own t 1 nv (namedD D.items (refsO D.trailer) r).length (intsV (namedD D.items (refsO D.trailer) r)) ∧ Stay s4.next s4 t ∧ f.n = 86 ∧ f.get 1 = .pointer (some ⟨s.next, 0, some 10⟩) ∧ f.get 3 = lv ∧ f.get 4 = nv)
    ⟨0, nv, rfl, by omega, by rw [List.take_zero]; unfold namedD; rw [List.flatMap_nil, List.append_nil]; exact hnv, hnF, k5, by simp only [get_put, n_put, ↓reduceIte, Nat.reduceEqDiff, hn], by simp only [get_put, n_put, ↓reduceIte, Nat.reduceEqDiff], by simp only [get_put, n_put, ↓reduceIte, Nat.reduceEqDiff], by simp only [get_put, n_put, ↓reduceIte, Nat.reduceEqDiff], by simp only [get_put, n_put, ↓reduceIte, Nat.reduceEqDiff]; rfl⟩ ?_ ?_
  · clear hn h0 f hnv hnF k5 n5 hs5 s5 nv
    rintro Q hQ z f t ⟨i, nv, rfl, hi, hnv, hnF, hst, hn, h1, h3, h4, h5⟩
    have hnt := hst.next
    have hs0 : Stay s.next s t := hs4.trans (hst.weaken (by omega))
    have hlt0 := hlv.keeps hst
    have htt := ht4.keeps hst
    have hDt := hD.lows.keeps hs0
    by_cases hlt : i < r.length
    rotate_left
    · obtain rfl : i = r.length := by omega
      have d1 : ¬ ((r.length : Nat) : Int) < ((r.length : Nat) : Int) := by omega
      rw [List.take_length] at hnv
      simp (config := { maxSteps := 1000000, implicitDefEqProofs := false }) (disch := omega) only [allW, allR, oneOf, evalAll, partsA, optA, Nat.reduceLT, Nat.reduceLeDiff, Nat.reduceEqDiff, Nat.reduceAdd, ↓reduceIte, hn, h1, h3, h4, h5, hlt0.sees.lenA Try.underlying32, eq_false d1]
      exact hQ _ _ _ ⟨rfl, nv, hnv, hst, by simp only [get_put, n_put, ↓reduceIte, Nat.reduceEqDiff, hn], by simp only [get_put, n_put, ↓reduceIte, Nat.reduceEqDiff, h1], by simp only [get_put, n_put, ↓reduceIte, Nat.reduceEqDiff, h3], by simp only [get_put, n_put, ↓reduceIte, Nat.reduceEqDiff, h4]⟩
    have d1 : (i : Int) < (r.length : Int) := by omega
    have hnl := named_le hk i
    simp (config := { maxSteps := 1000000, implicitDefEqProofs := false }) (disch := omega) only [allW, allR, oneOf, evalAll, partsA, optA, Nat.reduceLT, Nat.reduceLeDiff, Nat.reduceEqDiff, Nat.reduceAdd, ↓reduceIte, hn, h1, h3, h4, h5, hlt0.sees.lenA Try.underlying32, eq_true d1]
    obtain ⟨B, hB⟩ : ∃ B : Nat → Bool, B = fun j => decide (j < t.next) := ⟨_, rfl⟩
    have hBl : ∀ j, B j = true → j < t.next := by
      intro j h
      rw [hB] at h
      exact of_decide_eq_true h
    have hBo : ∀ j, j < t.next → B j = true := fun j h => by rw [hB]; exact decide_eq_true h
    refine LB.Drawn.looseK B hBl 0 1 (by kernel_rfl) (by kernel_rfl) ?_
    have hsq := Stay.spare t 1
    have hnq : (spare t 1).next = t.next + 1 := spare_next _ _
    have mlb : ∀ k, LA.lowV B (some (.pointer (some ⟨s.next, k, some 10⟩))) = true := fun k => LA.lowV_ptr (A := B) (i := s.next) (hBo _ htt.lt)
    have hlq := hlt0.keeps hsq
    have hix := hlq.sees.indexAddr (P := Try.prog) (k := .i64) (x := (i : Int)) Try.underlying32 szInt (by omega) (by omega)
    rw [Int.toNat_natCast] at hix
    have hli := hlq.sees.load1 (P := Try.prog) agInt hlt
    rw [intsV_getD hlt] at hli
    have lE := fun k => LA.lowV_elemOld hlt0.sees hBo (k := k)
    simp (config := { maxSteps := 1000000, implicitDefEqProofs := false }) (disch := omega) only [allW, allR, allL, allB, Nat.sub_self, Nat.add_one_sub_one, Nat.reduceSub, oneOf, evalAll, partsA, optA, Nat.reduceLT, Nat.reduceLeDiff, Nat.reduceEqDiff, Nat.reduceAdd, ↓reduceIte, hn, h1, h3, h4, h5, db_all (htt.keeps hsq) htl, mlb, hDt.self, hlq.self, hix, hli, lE, valEq_int, valEq_elemPtr]
    obtain ⟨o, hfo⟩ : ∃ o, findD D.items r[i] = (o, true) := ⟨_, Prod.ext rfl (hall.there _ (List.getElem_mem hlt))⟩
    have hfa := find_any (lib := libN) rfl rfl rfl rfl rfl _ (spare t 1) D mv tc iv ic (hDt.keeps hsq) hsm r[i]
    rw [hfo] at hfa
    refine hfa.mono ?_
    rintro _ t2 ⟨cs, rfl, ho2, k2'⟩
    have hn2 := k2'.next
    have hcl := ho2.len
    refine ⟨fun h => h.elim, ?_⟩
    simp (config := { maxSteps := 1000000, implicitDefEqProofs := false }) (disch := omega) only [allW, allR, allL, allB, Nat.sub_self, Nat.add_one_sub_one, Nat.reduceSub, oneOf, evalAll, partsA, optA, Nat.reduceLT, Nat.reduceLeDiff, Nat.reduceEqDiff, Nat.reduceAdd, ↓reduceIte, hn, h1, h3, h4, h5, ext0, ext1, valEq_found ho2.self, ho2.self, wB, zO, plO]
    refine LB.smake_newPtr (by omega) ?_
    intro t3 ht3' nt3 et3
    simp (config := { maxSteps := 1000000, implicitDefEqProofs := false }) (disch := omega) only [allW, allR, allL, allB, Nat.sub_self, Nat.add_one_sub_one, Nat.reduceSub, oneOf, evalAll, partsA, optA, Nat.reduceLT, Nat.reduceLeDiff, Nat.reduceEqDiff, Nat.reduceAdd, ↓reduceIte, hn, h1, h3, h4, h5, hd6]
    refine LB.sstep_storeAll szO (by decide) ht3' rfl rfl (by simpa using hcl) ho2.ok (fun h => absurd rfl h) ?_
    intro t4 ht4' nt4 et4
    have ht4' : Thing t4 t.next cs := ht4'
    have k04 : Stay t.next t t4 := (hsq.trans (k2'.weaken (by omega))).trans ⟨by omega, fun j hj => by rw [et4 j (by omega), et3 j (by omega)]⟩
    have ho4 : OIs (fun j => (spare t 1).next ≤ j) t4 cs o := (ho2.ofPut nt3 et3 (by omega)).ofPut nt4 et4 (by omega)
    have m4 := k04.next
    have hl4 := hlt0.keeps k04
    have hv4 := hnv.keeps k04
    simp (config := { maxSteps := 1000000, implicitDefEqProofs := false }) (disch := omega) only [allW, allR, allL, allB, Nat.sub_self, Nat.add_one_sub_one, Nat.reduceSub, oneOf, evalAll, partsA, optA, Nat.reduceLT, Nat.reduceLeDiff, Nat.reduceEqDiff, Nat.reduceAdd, ↓reduceIte, allW, allR, oneOf, evalAll, partsA, optA, Nat.reduceLT, Nat.reduceLeDiff, Nat.reduceEqDiff, Nat.reduceAdd, ↓reduceIte, hn, h1, h3, h4, h5]
    obtain ⟨C, hC⟩ : ∃ C : Nat → Bool, C = fun j => decide (j < t4.next) := ⟨_, rfl⟩
    have hCl : ∀ j, C j = true → j < t4.next := by
      intro j h
      rw [hC] at h
      exact of_decide_eq_true h
    have hCo : ∀ j, j < t4.next → C j = true := fun j h => by rw [hC]; exact decide_eq_true h
    refine LB.Drawn.looseK C hCl 1 0 (by kernel_rfl) (by kernel_rfl) ?_
    have hs4q := Stay.spare t4 0
    have hq4 : (spare t4 0).next = t4.next + 0 := spare_next _ _
    have ix := fun t' (h : Stay t4.next t4 t') => (hl4.keeps h).sees.indexAddr (P := Try.prog) (k := .i64) (x := (i : Int)) Try.underlying32 szInt (by omega) (by omega)
    have li : ∀ t', Stay t4.next t4 t' → loadA Try.prog t' 3 (elemPtr 1 lv i) = some (.int .i64 r[i]) := fun t' h => by
      have := (hl4.keeps h).sees.load1 (P := Try.prog) agInt hlt
      rw [intsV_getD hlt] at this
      exact this
    have hcut := (hl4.keeps hs4q).sees.sliceHigh (P := Try.prog) Try.underlying32 szInt (k := .i64) (y := (i : Int)) (by omega) (by omega)
    have ix0 := ix _ hs4q
    rw [Int.toNat_natCast] at hcut ix0
    have lF := fun k => LA.lowV_elemOld hl4.sees hCo (k := k)
    simp (config := { maxSteps := 1000000, implicitDefEqProofs := false }) (disch := omega) only [allW, allR, allL, allB, Nat.sub_self, Nat.add_one_sub_one, Nat.reduceSub, oneOf, evalAll, partsA, optA, Nat.reduceLT, Nat.reduceLeDiff, Nat.reduceEqDiff, Nat.reduceAdd, ↓reduceIte, undef, hn, h1, h3, h4, h5, Bool.not_true, wB, hl4.self, hv4.self, ix0, li _ hs4q, hcut, lF, LA.lowV_old hl4.sees hCo, valEq_int, valEq_elemPtr, valEq_cutS]
    refine (in_any rfl (spare t4 0) r[i] _ (r.take i) ((hl4.keeps hs4q).sees.cutI hi) (by rw [List.length_take]; omega)).mono ?_
    rintro _ t5 ⟨rfl, k5⟩
    have m5 := k5.next
    have k45 : Stay t4.next t4 t5 := hs4q.trans (k5.weaken (by omega))
    have hni : r[i] ∉ r.take i := fun h => by
      obtain ⟨j, hj, e⟩ := List.mem_take_iff_getElem.1 h
      have := (List.getElem_inj hall.once).1 e
      omega
    refine ⟨fun _ => LA.Stay.toA hCl (k5.weaken (by omega)), ?_⟩
    simp (config := { maxSteps := 1000000, implicitDefEqProofs := false }) (disch := omega) only [allW, allR, allL, allB, Nat.sub_self, Nat.add_one_sub_one, Nat.reduceSub, oneOf, evalAll, partsA, optA, Nat.reduceLT, Nat.reduceLeDiff, Nat.reduceEqDiff, Nat.reduceAdd, ↓reduceIte, undef, hn, h1, h3, h4, h5, decide_eq_false hni, Bool.not_true, wB, hl4.self, hv4.self, ix0, li _ k45, lF, valEq_int, valEq_elemPtr]
    refine (in_any rfl t5 r[i] nv _ (hv4.keeps k45).sees (by omega)).mono ?_
    rintro _ t6 ⟨rfl, k6⟩
    have m6 := k6.next
    have k46 : Stay t4.next t4 t6 := k45.trans (k6.weaken (by omega))
    refine ⟨fun h => h.elim, ?_⟩
    simp (config := { maxSteps := 1000000, implicitDefEqProofs := false }) (disch := omega) only [allW, allR, allL, allB, Nat.sub_self, Nat.add_one_sub_one, Nat.reduceSub, oneOf, evalAll, partsA, optA, Nat.reduceLT, Nat.reduceLeDiff, Nat.reduceEqDiff, Nat.reduceAdd, ↓reduceIte, allW, allR, oneOf, evalAll, partsA, optA, Nat.reduceLT, Nat.reduceLeDiff, Nat.reduceEqDiff, Nat.reduceAdd, ↓reduceIte, undef, hn, h1, h3, h4, h5, decide_eq_true (hall.ahead i hlt), Bool.not_true, wB, Thing.loadO (ht4'.keeps k46) hcl]
    have hso : Small o := by
      obtain ⟨e, he, -, h2⟩ := findD_mem (D := D.items) (n := r[i]) (by rw [hfo])
      rw [hfo] at h2
      have h2 : o = e.2 := h2
      rw [h2]; exact hsm.items e he
    have hnl2 := named_le hk (i + 1)
    have hsn : namedD D.items (refsO D.trailer) (r.take (i + 1)) = namedD D.items (refsO D.trailer) (r.take i) ++ refsO o := by
      rw [takeS hlt, namedD_snoc, hfo]
    rw [hsn, List.length_append] at hnl2
    refine (rrefs_any (lib := libN) rfl _ o (Nat.le_refl _) _ t6 cs (ho4.keeps k46) hso (by omega)).mono ?_
    rintro y t7 ⟨hy, hyF, k7⟩
    have m7 := k7.next
    have k47 := k46.trans (k7.weaken (by omega))
    simp (config := { maxSteps := 1000000, implicitDefEqProofs := false }) (disch := omega) only [allW, allR, allL, allB, Nat.sub_self, Nat.add_one_sub_one, Nat.reduceSub, oneOf, evalAll, partsA, optA, Nat.reduceLT, Nat.reduceLeDiff, Nat.reduceEqDiff, Nat.reduceAdd, ↓reduceIte, allW, allR, oneOf, evalAll, partsA, optA, Nat.reduceLT, Nat.reduceLeDiff, Nat.reduceEqDiff, Nat.reduceAdd, ↓reduceIte, hn, h1, h3, h4, h5]
    refine wstep_append Try.underlying32 Try.underlying32 (.inl ⟨_, rfl⟩) szInt byInt zInt rfl (hv4.keeps k47) hy.sees.src (by rw [intsV_length, Nat.mul_one]) (by decide) (intsV_ok _) (by omega) (by omega) hnF (by omega) ?_
    intro nv' t8 hnv' hnF' k8 _ _
    simp (config := { maxSteps := 1000000, implicitDefEqProofs := false }) (disch := omega) only [allW, allR, oneOf, evalAll, partsA, optA, Nat.reduceLT, Nat.reduceLeDiff, Nat.reduceEqDiff, Nat.reduceAdd, ↓reduceIte, hn, h1, h3, h4, h5, wrapI]
    exact wround_next (r.length - (i + 1)) (by omega) ⟨i + 1, nv', rfl, by omega, by rw [hsn, List.length_append, intsV_append]; exact hnv', hnF', ((hst.trans (k04.weaken (by omega))).trans (k47.weaken (by omega))).trans k8, by simp only [get_put, n_put, ↓reduceIte, Nat.reduceEqDiff, hn], by simp only [get_put, n_put, ↓reduceIte, Nat.reduceEqDiff, h1], by simp only [get_put, n_put, ↓reduceIte, Nat.reduceEqDiff, h3], by simp only [get_put, n_put, ↓reduceIte, Nat.reduceEqDiff], by simp only [get_put, n_put, ↓reduceIte, Nat.reduceEqDiff]; rfl⟩
  clear hn h0 f hnv hnF k5 n5 hs5 s5 nv
  rintro z f t0 ⟨rfl, nv, hnv, hst, hn, h1, h3, h4⟩
  have hnl : (namedD D.items (refsO D.trailer) r).length ≤ k := by
    have := named_le hk r.length
    rwa [List.take_length] at this
  obtain ⟨NL, hNL⟩ : ∃ NL, NL = namedD D.items (refsO D.trailer) r := ⟨_, rfl⟩
  rw [← hNL] at hnv hnl hclosed
  have hnt := hst.next
  have hs0 : Stay s.next s t0 := hs4.trans (hst.weaken (by omega))
  have hl0 := hlv.keeps hst
  have hT0 := ht4.keeps hst
  have hD0 := hD.lows.keeps hs0
  simp (config := { maxSteps := 1000000, implicitDefEqProofs := false }) (disch := omega) only [allW, allR, oneOf, evalAll, partsA, optA, Nat.reduceLT, Nat.reduceLeDiff, Nat.reduceEqDiff, Nat.reduceAdd, ↓reduceIte, hn, h1, h3, h4]
  refine Comes.loopOut (fun z f t => ∃ i : Nat, z = NL.length - i ∧ i ≤ NL.length ∧ Stay t0.next t0 t ∧ f.n = 86 ∧ f.get 1 = .pointer (some ⟨s.next, 0, some 10⟩) ∧ f.get 3 = lv ∧ f.get 4 = nv ∧ f.get 8 = .int .i64 (i : Nat))
    (fun z f t => z = .exit 2 ∧ f.n = 86)
    ⟨0, rfl, by omega, Stay.refl _ _, by simp only [get_put, n_put, ↓reduceIte, Nat.reduceEqDiff, hn], by simp only [get_put, n_put, ↓reduceIte, Nat.reduceEqDiff, h1], by simp only [get_put, n_put, ↓reduceIte, Nat.reduceEqDiff, h3], by simp only [get_put, n_put, ↓reduceIte, Nat.reduceEqDiff, h4], by simp only [get_put, n_put, ↓reduceIte, Nat.reduceEqDiff]; rfl⟩ ?_ ?_
  · clear hn h1 h3 h4 f
    rintro Q hQ z f t ⟨i, rfl, hi, ht, hn, h1, h3, h4, h8⟩
    have hmt := ht.next
    have hvt := hnv.keeps ht
    have htt := hT0.keeps ht
    have hDt := hD0.keeps ht
    by_cases hlt : i < NL.length
    rotate_left
    · obtain rfl : i = NL.length := by omega
      have d1 : ¬ ((NL.length : Nat) : Int) < ((NL.length : Nat) : Int) := by omega
      simp (config := { maxSteps := 1000000, implicitDefEqProofs := false }) (disch := omega) only [allW, allR, oneOf, evalAll, partsA, optA, Nat.reduceLT, Nat.reduceLeDiff, Nat.reduceEqDiff, Nat.reduceAdd, ↓reduceIte, hn, h1, h3, h4, h8, hvt.sees.lenA Try.underlying32, eq_false d1]
      exact hQ _ _ _ ⟨rfl, by simp only [get_put, n_put, ↓reduceIte, Nat.reduceEqDiff, hn]⟩
    have d1 : (i : Int) < (NL.length : Int) := by omega
    simp (config := { maxSteps := 1000000, implicitDefEqProofs := false }) (disch := omega) only [allW, allR, oneOf, evalAll, partsA, optA, Nat.reduceLT, Nat.reduceLeDiff, Nat.reduceEqDiff, Nat.reduceAdd, ↓reduceIte, hn, h1, h3, h4, h8, hvt.sees.lenA Try.underlying32, eq_true d1]
    obtain ⟨B, hB⟩ : ∃ B : Nat → Bool, B = fun j => decide (j < t.next) := ⟨_, rfl⟩
    have hBl : ∀ j, B j = true → j < t.next := by
      intro j h
      rw [hB] at h
      exact of_decide_eq_true h
    have hBo : ∀ j, j < t.next → B j = true := fun j h => by rw [hB]; exact decide_eq_true h
    refine LB.Drawn.looseK B hBl 0 1 (by kernel_rfl) (by kernel_rfl) ?_
    have hsq := Stay.spare t 1
    have hnq : (spare t 1).next = t.next + 1 := spare_next _ _
    have mlb : ∀ k, LA.lowV B (some (.pointer (some ⟨s.next, k, some 10⟩))) = true := fun k => LA.lowV_ptr (A := B) (i := s.next) (hBo _ htt.lt)
    have hvq := hvt.keeps hsq
    have hix := hvq.sees.indexAddr (P := Try.prog) (k := .i64) (x := (i : Int)) Try.underlying32 szInt (by omega) (by omega)
    rw [Int.toNat_natCast] at hix
    have hli := hvq.sees.load1 (P := Try.prog) agInt hlt
    rw [intsV_getD hlt] at hli
    have lE := fun k => LA.lowV_elemOld hvt.sees hBo (k := k)
    simp (config := { maxSteps := 1000000, implicitDefEqProofs := false }) (disch := omega) only [allW, allR, allL, allB, Nat.sub_self, Nat.add_one_sub_one, Nat.reduceSub, oneOf, evalAll, partsA, optA, Nat.reduceLT, Nat.reduceLeDiff, Nat.reduceEqDiff, Nat.reduceAdd, ↓reduceIte, hn, h1, h3, h4, h8, db_all (htt.keeps hsq) htl, mlb, hDt.self, hvq.self, hix, hli, lE, valEq_int, valEq_elemPtr]
    obtain ⟨o, b, hfo⟩ : ∃ o b, findD D.items NL[i] = (o, b) := ⟨_, _, rfl⟩
    have hfa := find_any (lib := libN) rfl rfl rfl rfl rfl _ (spare t 1) D mv tc iv ic (hDt.keeps hsq) hsm NL[i]
    rw [hfo] at hfa
    refine hfa.mono ?_
    rintro _ t2 ⟨cs, rfl, ho2, k2'⟩
    have hn2 := k2'.next
    have hcl := ho2.len
    refine ⟨fun h => h.elim, ?_⟩
    simp (config := { maxSteps := 1000000, implicitDefEqProofs := false }) (disch := omega) only [allW, allR, allL, allB, Nat.sub_self, Nat.add_one_sub_one, Nat.reduceSub, oneOf, evalAll, partsA, optA, Nat.reduceLT, Nat.reduceLeDiff, Nat.reduceEqDiff, Nat.reduceAdd, ↓reduceIte, hn, h1, h3, h4, h8, ext0, ext1, valEq_found ho2.self, ho2.self, wB, zO, plO]
    refine LB.smake_newPtr (by omega) ?_
    intro t3 ht3' nt3 et3
    simp (config := { maxSteps := 1000000, implicitDefEqProofs := false }) (disch := omega) only [allW, allR, allL, allB, Nat.sub_self, Nat.add_one_sub_one, Nat.reduceSub, oneOf, evalAll, partsA, optA, Nat.reduceLT, Nat.reduceLeDiff, Nat.reduceEqDiff, Nat.reduceAdd, ↓reduceIte, hn, h1, h3, h4, h8, hd6]
    refine LB.sstep_storeAll szO (by decide) ht3' rfl rfl (by simpa using hcl) ho2.ok (fun h => absurd rfl h) ?_
    intro t4 ht4' nt4 et4
    have k04 : Stay t.next t t4 := (hsq.trans (k2'.weaken (by omega))).trans ⟨by omega, fun j hj => by rw [et4 j (by omega), et3 j (by omega)]⟩
    have m4 := k04.next
    have hk4 := ht.trans (k04.weaken hmt)
    have hv4 := hvt.keeps k04
    cases b with
    | false =>
      simp (config := { maxSteps := 1000000, implicitDefEqProofs := false }) (disch := omega) only [allW, allR, allL, allB, Nat.sub_self, Nat.add_one_sub_one, Nat.reduceSub, oneOf, evalAll, partsA, optA, Nat.reduceLT, Nat.reduceLeDiff, Nat.reduceEqDiff, Nat.reduceAdd, ↓reduceIte, allW, allR, oneOf, evalAll, partsA, optA, Nat.reduceLT, Nat.reduceLeDiff, Nat.reduceEqDiff, Nat.reduceAdd, ↓reduceIte, undef, hn, h1, h3, h4, h8, wrapI]
      exact wround_next (NL.length - (i + 1)) (by omega) ⟨i + 1, rfl, by omega, hk4, by simp only [get_put, n_put, ↓reduceIte, Nat.reduceEqDiff, hn], by simp only [get_put, n_put, ↓reduceIte, Nat.reduceEqDiff, h1], by simp only [get_put, n_put, ↓reduceIte, Nat.reduceEqDiff, h3], by simp only [get_put, n_put, ↓reduceIte, Nat.reduceEqDiff, h4], by simp only [get_put, n_put, ↓reduceIte, Nat.reduceEqDiff]; rfl⟩
    | true =>
    have hin : NL[i] ∈ r := hclosed _ (List.getElem_mem hlt) (by rw [hfo])
    have jx := hv4.sees.indexAddr (P := Try.prog) (k := .i64) (x := (i : Int)) Try.underlying32 szInt (by omega) (by omega)
    rw [Int.toNat_natCast] at jx
    have jl := hv4.sees.load1 (P := Try.prog) agInt hlt
    rw [intsV_getD hlt] at jl
    simp (config := { maxSteps := 1000000, implicitDefEqProofs := false }) (disch := omega) only [allW, allR, allL, allB, Nat.sub_self, Nat.add_one_sub_one, Nat.reduceSub, oneOf, evalAll, partsA, optA, Nat.reduceLT, Nat.reduceLeDiff, Nat.reduceEqDiff, Nat.reduceAdd, ↓reduceIte, allW, allR, oneOf, evalAll, partsA, optA, Nat.reduceLT, Nat.reduceLeDiff, Nat.reduceEqDiff, Nat.reduceAdd, ↓reduceIte, undef, hn, h1, h3, h4, h8, jx, jl]
    refine (in_any rfl t4 NL[i] lv r ((hl0.keeps ht).keeps k04).sees (by omega)).mono ?_
    rintro _ t5 ⟨rfl, k5⟩
    simp (config := { maxSteps := 1000000, implicitDefEqProofs := false }) (disch := omega) only [allW, allR, oneOf, evalAll, partsA, optA, Nat.reduceLT, Nat.reduceLeDiff, Nat.reduceEqDiff, Nat.reduceAdd, ↓reduceIte, undef, hn, h1, h3, h4, h8, decide_eq_true hin, Bool.not_true, wrapI]
    exact wround_next (NL.length - (i + 1)) (by omega) ⟨i + 1, rfl, by omega, hk4.trans (k5.weaken (by omega)), by simp only [get_put, n_put, ↓reduceIte, Nat.reduceEqDiff, hn], by simp only [get_put, n_put, ↓reduceIte, Nat.reduceEqDiff, h1], by simp only [get_put, n_put, ↓reduceIte, Nat.reduceEqDiff, h3], by simp only [get_put, n_put, ↓reduceIte, Nat.reduceEqDiff, h4], by simp only [get_put, n_put, ↓reduceIte, Nat.reduceEqDiff]; rfl⟩
  clear hn h1 h3 h4 f
  rintro z f t ⟨rfl, hn⟩
  simp (config := { maxSteps := 1000000, implicitDefEqProofs := false }) (disch := omega) only [allW, allR, wfn_ret, wfn_normal, oneOf, evalAll, partsA, optA, Nat.reduceLT, Nat.reduceLeDiff, Nat.reduceEqDiff, Nat.reduceAdd, ↓reduceIte, hn, Try.results3]
  rw [hQQ]

theorem own : ownKnob Try.prog.godebug = none := by kernel_rfl
theorem sound : progOk Try.prog libN = true := by kernel_rfl
theorem laid : laidOutB Try.prog = true := by kernel_rfl
theorem read : ∀ t ∈ Try.f3.params.toList, Try.prog.readableRec t = true ∧ t < Try.prog.types.size := by
  have : (Try.f3.params.toList.all fun t => Try.prog.readableRec t && decide (t < Try.prog.types.size)) = true := by kernel_rfl
  intro t ht
  simpa using List.all_eq_true.mp this t ht
set_option maxRecDepth 100000 in
theorem lifted (os : Os) (started : os.Started) (H : Type) (enc : TypeId × Value → H) :
    ReturnsInHanded {} Try.checked os 3 .any (Rows.docReachSpec.pre6 enc Try.prog Try.f3 Rows.docReachRow.domain false) (Rows.docReachSpec.post enc Try.prog Try.f3 false true false false) := by
  refine returnsInHanded_of_change_sized (C := Try.checked) own started (by kernel_rfl) Try.func3
    (ChangeSpec.witness6 (enc := enc) (C := Try.checked) false ⟨#[], #[.agg #[.int .i64 0, .slice none 0 0, .int .i64 0, .int .i64 0, .int .i64 0, .slice none 0 0, .slice none 0 0, .slice none 0 0, .slice none 0 0]], []⟩ 8 (by kernel_rfl) (by kernel_rfl) (by kernel_rfl) (by kernel_rfl)) ?_
  intro W base args ds gs before hval hW hcnd hsz _
  obtain ⟨p, q, hA, _, _, _, _⟩ := id hW
  have hA : DataW.TrodAll enc Try.prog W 0 (fun _ => true) true Try.f3.params.toList args.toList ds p := hA
  rw [Try.params3] at hA
  obtain ⟨v0, d0, rfl, rfl, h0⟩ := trodAll_one hA
  have hv0 : Value.okWide Try.prog W .any base 29 v0 := hval 0 _ _ (by rw [Try.params3]; rfl) rfl
  have hw0 : Wt Try.prog 29 d0 := fun n hn => by simpa using List.all_eq_true.1 hsz n (DataW.weights_mem_each (j := 0) (t := 29) (d := d0) (by rw [Try.params3]; rfl) rfl n hn)
  obtain ⟨S0, mv0, tc0, iv0, ic0, D0, hg0, hr0, ho0, hf0⟩ := arg_doc (Begun.start W) hv0 h0 hw0
  have hcalls := Runs.callsL libFr (libOk _) sound rfl hg0.begun (law S0.s mv0 tc0 iv0 ic0 D0 ho0 hf0) (args' := #[v0]) (VRL.cons hr0 VRL.nil)
  refine hcalls.mono fun e W' ⟨he, hb⟩ => ?_
  subst he
  exact law_post laid read rfl Try.underlying4 rfl (fun L hL => by match L, hL with | [a0], _ => rfl) hW hb

theorem over : Rows.docReachRow.holds Try.pinned (OpenSpec.ofChange Rows.docReachSpec) :=
  OpenClaim.holds_of_wide 3 Try.f3 rfl rfl rfl rfl rfl rfl rfl ⟨rfl, rfl, rfl, rfl, rfl⟩ rfl rfl rfl rfl rfl (by kernel_rfl) Try.func3 (by kernel_rfl)
    (of_decide_eq_true (by kernel_rfl)) (by unfold Func.isWrapper; first | (rw [if_pos (by decide +kernel)]; kernel_rfl) | (rw [if_neg (by decide +kernel)]; exact ⟨rfl, rfl⟩))
    (fun os started H enc _ => lifted os started H enc)

/-- THE STATEMENT. -/
theorem proved : Rows.DocReachSaid := over
#print axioms proved
end Go.Proofs.Ythlbahnfimigcaa.docReach
