import Derived.Test.YtokfoagohblkoaaPgU
import Derived.Test.YtokfoagohblkoaaPgQ
set_option linter.unusedSimpArgs false
set_option linter.unusedVariables false
set_option maxRecDepth 100000
namespace Go.Cl
theorem OIs.putLow {F : Nat → Prop} {s s' : ASt} {i : Nat} {cs : List Value} {o : O} (h : OIs F s cs o) (h1 : s'.next = s.next) (h2 : ∀ j, j ≠ i → s'.heap.get j = s.heap.get j) (hF : ∀ j, F j → i < j) : OIs F s' cs o :=
  h.turns (u := .pointer (some ⟨i, 0, Option.none⟩)) (Turns.ofPut h1 h2) fun j hj e => by
    have e : some i = some j := e
    injection e with e; have := hF j hj; omega
theorem self_cons {k : IntKind} {n : Int} {cs : List Value} (h : valEq (.agg cs.toArray) (.agg cs.toArray) = true) : valEq (.agg (.int k n :: cs).toArray) (.agg (.int k n :: cs).toArray) = true := by
  show valEqL (.int k n :: cs) (.int k n :: cs) = true
  have h : valEqL cs cs = true := h
  simp [valEqL, valEq1, h]
theorem low_build (d : Option Tmp) (t : TypeId) (xs : Array (Nat × Operand)) (ty : TypeId) (ps : String) (af : Array Edge) (gd : Option (Tmp × Bool)) (f : AFr) (A : Nat → Bool) : LA.lowO ⟨d, .build t xs, ty, ps, af, gd⟩ f A = true := rfl
end Go.Cl
namespace Go.Proofs.Ytokfoagohblkoaa
open Go.Cl Go.Lib Go.RowKit Go.ChangeShapes Go.WideShapes
def GrownR (s : ASt) (b : List UInt8) (v : Value) (s' : ASt) : Prop := ∃ tc x lx pv, v = .tuple #[.agg (docC ⟨0, [], 0, trailerT, []⟩ (.slice none 0 0) tc x).toArray, pv] ∧ DocIs (fun _ => True) s' (.slice none 0 0) tc x lx ⟨0, [], 0, trailerT, (growN (b.map UInt8.toNat)).items⟩ ∧ Sees s' 20 pv (growN (b.map UInt8.toNat)).want.length (wantC (growN (b.map UInt8.toNat)).want) ∧ Stay s.next s s'
theorem bLfW (r : Int) : buildA Try.prog 50 [(2, .int .i64 r)] = some (.agg (lfC Z4 Z4 r noneC).toArray) := by kernel_rfl
theorem bPgW (n r : Int) : buildA Try.prog 52 [(1, .int .i64 n), (0, .agg (lfC Z4 Z4 r noneC).toArray)] = some (.agg (lfC Z4 Z4 r noneC ++ (.int .i64 n :: noneC)).toArray) := by kernel_rfl
theorem plRpW : plainV (.agg nonePg.toArray) = true := by kernel_rfl
theorem u8facts : ∀ c : Fin 256, (IntKind.u8.wrap ((BitVec.ofInt 8 (c.val : Int) &&& BitVec.ofInt 8 64).toNat : Int) = ((c.val / 64 % 2 * 64 : Nat) : Int)) ∧ IntKind.u8.wrap ((BitVec.ofInt 8 ((c.val / 8 : Nat) : Int) &&& BitVec.ofInt 8 3).toNat : Int) = ((c.val / 8 % 4 : Nat) : Int) := by decide +kernel
theorem putN2 : putAll [] [(kType, .mk 5 0 kPages [] []), (kKids, .mk 6 0 [] [] [])] = nodeO.ents := by kernel_rfl
theorem doc_over {D : Dc} {mv iv : Value} {tc : List Value} (hl : tc.length = 5) (iv' : Value) : over (docC D mv tc iv) 8 [iv'] = docC D mv tc iv' := by
  obtain ⟨a, b, c, d, e, rfl⟩ := five hl
  rfl
theorem putT : putAll [] [(kType, .mk 5 0 kPages [] []), (kMed, boxO), (kKids, .mk 6 0 [] [] [])] = rootO.ents := by kernel_rfl
theorem small_box : Small boxO := .mk (by simp) (by simp [rO]) (by simp) (fun e h => by cases h) (rO_small _) (fun e h => by cases h)
theorem bDocT {tc : List Value} (hl : tc.length = 5) : buildA Try.prog 34 [(3, .agg tc.toArray)] = some (.agg (docC ⟨0, [], 0, trailerT, []⟩ (.slice none 0 0) tc (.slice none 0 0)).toArray) := by
  obtain ⟨a, b, c, d, e, rfl⟩ := five hl
  kernel_rfl
set_option maxHeartbeats 16000000 in
theorem grown_any (s : ASt) (v : Value) (b : List UInt8) (hv : Sees s 1 v b.length (ofBytes b)) (hb : b.length ≤ 60) : Runs Try.prog libN 19 [v] s (GrownR s b) := by
  refine Runs.enter 178 Try.func19 rfl rfl rfl rfl ?_
  intro f hn hf
  have h0 : f.get 0 = v := hf 0
  clear hf
  simp (config := { maxSteps := 1000000, implicitDefEqProofs := false }) (disch := omega) only [allW, allR, oneOf, evalAll, partsA, optA, Nat.reduceLT, Nat.reduceLeDiff, Nat.reduceEqDiff, Nat.reduceAdd, ↓reduceIte, hn, h0, zDP, plD]
  refine wstep_newPtr ?_
  intro s1 ht1 hst1 hnx1
  have hd10 : noneD.length + 1 = 10 := rfl
  simp (config := { maxSteps := 1000000, implicitDefEqProofs := false }) (disch := omega) only [allW, allR, oneOf, evalAll, partsA, optA, Nat.reduceLT, Nat.reduceLeDiff, Nat.reduceEqDiff, Nat.reduceAdd, ↓reduceIte, hn, h0, hd10]
  refine (rint_eq s1 0).mono ?_
  rintro _ s2 ⟨rfl, k2⟩
  simp (config := { maxSteps := 1000000, implicitDefEqProofs := false }) (disch := omega) only [allW, allR, oneOf, evalAll, partsA, optA, Nat.reduceLT, Nat.reduceLeDiff, Nat.reduceEqDiff, Nat.reduceAdd, ↓reduceIte, hn, h0]
  refine (rint_eq s2 0).mono ?_
  rintro _ s3 ⟨rfl, k3⟩
  simp (config := { maxSteps := 1000000, implicitDefEqProofs := false }) (disch := omega) only [allW, allR, oneOf, evalAll, partsA, optA, Nat.reduceLT, Nat.reduceLeDiff, Nat.reduceEqDiff, Nat.reduceAdd, ↓reduceIte, hn, h0]
  refine (rint_eq s3 1).mono ?_
  rintro _ s4 ⟨rfl, k4⟩
  simp (config := { maxSteps := 1000000, implicitDefEqProofs := false }) (disch := omega) only [allW, allR, oneOf, evalAll, partsA, optA, Nat.reduceLT, Nat.reduceLeDiff, Nat.reduceEqDiff, Nat.reduceAdd, ↓reduceIte, hn, h0]
  refine (rint_eq s4 1).mono ?_
  rintro _ s5 ⟨rfl, k5⟩
  simp (config := { maxSteps := 1000000, implicitDefEqProofs := false }) (disch := omega) only [allW, allR, oneOf, evalAll, partsA, optA, Nat.reduceLT, Nat.reduceLeDiff, Nat.reduceEqDiff, Nat.reduceAdd, ↓reduceIte, hn, h0, buildR4]
  refine wstep_newSlice (by rfl) ?_
  intro x6 s6 hx6 _ k6
  simp (config := { maxSteps := 1000000, implicitDefEqProofs := false }) (disch := omega) only [allW, allR, oneOf, evalAll, partsA, optA, Nat.reduceLT, Nat.reduceLeDiff, Nat.reduceEqDiff, Nat.reduceAdd, ↓reduceIte, hn, h0]
  refine (rarr_any (lib := libN) rfl rfl rfl (fun _ => True) s6 x6 (rO [(2, 0), (2, 0), (2, 1), (2, 1)]) _ hx6.sees (rO_rows _ _ _) (by simp [rO]) (rO_small _)).mono ?_
  rintro _ s7 ⟨bc, rfl, o7, k7⟩
  have hd6 : noneC.length + 1 = 6 := rfl
  have q7 := o7.len
  simp (config := { maxSteps := 1000000, implicitDefEqProofs := false }) (disch := omega) only [allW, allR, oneOf, evalAll, partsA, optA, Nat.reduceLT, Nat.reduceLeDiff, Nat.reduceEqDiff, Nat.reduceAdd, ↓reduceIte, hn, h0, zO, plO]
  refine wstep_newPtr ?_
  intro s8 ht8 k8 hnx8
  simp (config := { maxSteps := 1000000, implicitDefEqProofs := false }) (disch := omega) only [allW, allR, oneOf, evalAll, partsA, optA, Nat.reduceLT, Nat.reduceLeDiff, Nat.reduceEqDiff, Nat.reduceAdd, ↓reduceIte, hn, h0, hd6]
  refine wstep_storeAll szO (by decide) ht8 rfl rfl q7 o7.ok ?_
  intro s9 ht9 hnx9 hot9
  simp (config := { maxSteps := 1000000, implicitDefEqProofs := false }) (disch := omega) only [allW, allR, oneOf, evalAll, partsA, optA, Nat.reduceLT, Nat.reduceLeDiff, Nat.reduceEqDiff, Nat.reduceAdd, ↓reduceIte, hn, h0]
  refine (rref_any (lib := libN) rfl s9 1).mono ?_
  rintro _ sa ⟨ca, rfl, oa, ka⟩
  simp (config := { maxSteps := 1000000, implicitDefEqProofs := false }) (disch := omega) only [allW, allR, oneOf, evalAll, partsA, optA, Nat.reduceLT, Nat.reduceLeDiff, Nat.reduceEqDiff, Nat.reduceAdd, ↓reduceIte, hn, h0]
  refine (rpair_any (lib := libN) rfl rfl rfl _ sa kRoot ca _ oa (Small.bare 9 1)).mono ?_
  rintro _ sb ⟨pb, rfl, eb, kb⟩
  have qb := eb.len
  simp (config := { maxSteps := 1000000, implicitDefEqProofs := false }) (disch := omega) only [allW, allR, oneOf, evalAll, partsA, optA, Nat.reduceLT, Nat.reduceLeDiff, Nat.reduceEqDiff, Nat.reduceAdd, ↓reduceIte, hn, h0, buildAgg1 (cs := (.string ⟨kRoot.toArray⟩ :: pb).toArray) Try.underlying29 szE zE plE rfl (by simp [qb]) (by decide)]
  refine wstep_newSlice (by simp [qb]) ?_
  intro xc sc hxc _ kc
  simp (config := { maxSteps := 1000000, implicitDefEqProofs := false }) (disch := omega) only [allW, allR, oneOf, evalAll, partsA, optA, Nat.reduceLT, Nat.reduceLeDiff, Nat.reduceEqDiff, Nat.reduceAdd, ↓reduceIte, hn, h0]
  refine (rdict_any libRP (fun _ => True) sc xc [(kRoot, .mk 9 1 [] [] [])] _ hxc.sees (entRow ((eb.keeps kc).mono fun _ _ => trivial) (by decide)) (by decide) (fun e he => by simp at he; subst he; exact Small.bare 9 1)).mono ?_
  rintro _ sd ⟨tc, rfl, od, kd⟩
  have od : OIs (fun j => sc.next ≤ j) sd tc trailerT := od
  have qd := od.len
  obtain ⟨DC, hDC⟩ : ∃ DC, DC = docC ⟨0, [], 0, trailerT, []⟩ (.slice none 0 0) tc (.slice none 0 0) := ⟨_, rfl⟩
  have hDl : DC.length = 9 := by rw [hDC]; simp [docC, qd]
  have hDo : DC.all okCell = true := by rw [hDC]; simp only [docC, List.all_cons, List.all_append, List.all_nil, od.ok]; rfl
  have hbD := bDocT qd
  rw [← hDC] at hbD
  simp (config := { maxSteps := 1000000, implicitDefEqProofs := false }) (disch := omega) only [allW, allR, oneOf, evalAll, partsA, optA, Nat.reduceLT, Nat.reduceLeDiff, Nat.reduceEqDiff, Nat.reduceAdd, ↓reduceIte, hn, h0, hbD, zDP, plD]
  refine wstep_newPtr ?_
  intro se hte ke hnxe
  simp (config := { maxSteps := 1000000, implicitDefEqProofs := false }) (disch := omega) only [allW, allR, oneOf, evalAll, partsA, optA, Nat.reduceLT, Nat.reduceLeDiff, Nat.reduceEqDiff, Nat.reduceAdd, ↓reduceIte, hn, h0, hd10]
  refine wstep_storeAll szD (by decide) hte rfl rfl hDl hDo ?_
  intro sf htf hnxf hotf
  have htf : Thing sf sd.next DC := htf
  simp (config := { maxSteps := 1000000, implicitDefEqProofs := false }) (disch := omega) only [allW, allR, oneOf, evalAll, partsA, optA, Nat.reduceLT, Nat.reduceLeDiff, Nat.reduceEqDiff, Nat.reduceAdd, ↓reduceIte, hn, h0]
  obtain ⟨A, hA⟩ : ∃ A : Nat → Bool, A = fun j => decide (j < sf.next) := ⟨_, rfl⟩
  have hAl : ∀ j, A j = true → j < sf.next := by
    intro j h
    rw [hA] at h
    exact of_decide_eq_true h
  have hAo : ∀ j, j < sf.next → A j = true := fun j h => by rw [hA]; exact decide_eq_true h
  refine LB.Drawn.looseK A hAl 9 3 (by kernel_rfl) (by kernel_rfl) ?_
  have hsp := Stay.spare sf 3
  have hnT : (spare sf 3).next = sf.next + 3 := spare_next _ _
  have hlD : ∀ k, LA.lowV A (some (.pointer (some ⟨sd.next, k, some 10⟩))) = true := fun k => LA.lowV_ptr (A := A) (i := sd.next) (hAo _ htf.lt)
  have hl8 : s7.next < sf.next := by have := ht9.lt; have := ka.next; have := kb.next; have := kc.next; have := kd.next; have := ke.next; omega
  have hlB : ∀ k, LA.lowV A (some (.pointer (some ⟨s7.next, k, some 6⟩))) = true := fun k => LA.lowV_ptr (A := A) (i := s7.next) (hAo _ hl8)
  have hs9f : Stay s9.next s9 sf := (((ka.trans (kb.weaken ka.next)).trans (kc.weaken (by have := ka.next; have := kb.next; omega))).trans (kd.weaken (by have := ka.next; have := kb.next; have := kc.next; omega))).trans ((ke.trans ⟨by omega, fun j hj => hotf j (by omega)⟩).weaken (by have := ka.next; have := kb.next; have := kc.next; have := kd.next; omega))
  have htB : Thing sf s7.next bc := ht9.keeps hs9f
  have lD : loadA Try.prog (spare sf 3) 32 (.pointer (some ⟨sd.next, 8, some 10⟩)) = some (.slice none 0 0) := by
    have := htf.keeps hsp
    rw [hDC] at this
    exact db_items this qd
  simp (config := { maxSteps := 1000000, implicitDefEqProofs := false }) (disch := omega) only [allW, allR, allL, allB, Nat.sub_self, Nat.add_one_sub_one, Nat.reduceSub, oneOf, evalAll, partsA, optA, Nat.reduceLT, Nat.reduceLeDiff, Nat.reduceEqDiff, Nat.reduceAdd, ↓reduceIte, hn, h0, df4, hlD, lD, valEq_slice]
  refine (rref_any (lib := libN) rfl (spare sf 3) 2).mono ?_
  rintro _ t1 ⟨c1, rfl, o1, g1⟩
  have n1 := g1.next
  refine ⟨fun _ => LA.Stay.toA hAl (g1.weaken (by omega)), ?_⟩
  refine (rpair_any (lib := libN) rfl rfl rfl _ t1 kPages c1 _ o1 (Small.bare 9 2)).mono ?_
  rintro _ t2 ⟨p2, rfl, e2, g2⟩
  have n2 := g2.next
  refine ⟨fun _ => LA.Stay.toA hAl (g2.weaken (by omega)), ?_⟩
  have q2 := e2.len
  simp (config := { maxSteps := 1000000, implicitDefEqProofs := false }) (disch := omega) only [allW, allR, allL, allB, Nat.sub_self, Nat.add_one_sub_one, Nat.reduceSub, oneOf, evalAll, partsA, optA, Nat.reduceLT, Nat.reduceLeDiff, Nat.reduceEqDiff, Nat.reduceAdd, ↓reduceIte, hn, h0, buildAgg1 (cs := (.string ⟨kPages.toArray⟩ :: p2).toArray) Try.underlying29 szE zE plE rfl (by simp [q2]) (by decide)]
  refine LB.smake_newSlice (base := sf.next) (by simp [q2]) (by omega) (Nat.le_refl _) ?_
  intro x3 t3 hx3 hi3 g3 hnx3 hot3
  simp (config := { maxSteps := 1000000, implicitDefEqProofs := false }) (disch := omega) only [allW, allR, allL, allB, Nat.sub_self, Nat.add_one_sub_one, Nat.reduceSub, oneOf, evalAll, partsA, optA, Nat.reduceLT, Nat.reduceLeDiff, Nat.reduceEqDiff, Nat.reduceAdd, ↓reduceIte, hn, h0, hx3.self]
  refine (rdict_any libRP (fun _ => True) t3 x3 [(kPages, .mk 9 2 [] [] [])] _ hx3.sees (entRow ((e2.putLow hnx3 hot3 fun j hj => by omega).mono fun _ _ => trivial) (by decide)) (by decide) (fun e he => by simp at he; subst he; exact Small.bare 9 2)).mono ?_
  rintro _ t4 ⟨c4, rfl, o4, g4⟩
  have n4 := g4.next
  refine ⟨fun _ => LA.Stay.toA hAl (g4.weaken (by omega)), ?_⟩
  have o4 : OIs (fun j => t3.next ≤ j) t4 c4 firstO := o4
  have q4 := o4.len
  simp (config := { maxSteps := 1000000, implicitDefEqProofs := false }) (disch := omega) only [allW, allR, allL, allB, Nat.sub_self, Nat.add_one_sub_one, Nat.reduceSub, oneOf, evalAll, partsA, optA, Nat.reduceLT, Nat.reduceLeDiff, Nat.reduceEqDiff, Nat.reduceAdd, ↓reduceIte, hn, h0, bItem 1 q4, self_cons o4.self, low_build]
  refine (rnameO_any (lib := libN) rfl t4 kPages (by decide)).mono ?_
  rintro _ t5 ⟨c5, rfl, o5, g5⟩
  have n5 := g5.next
  refine ⟨fun _ => LA.Stay.toA hAl (g5.weaken (by omega)), ?_⟩
  refine (rpair_any (lib := libN) rfl rfl rfl _ t5 kType c5 _ o5 (small_name _ (by decide))).mono ?_
  rintro _ t6 ⟨p6, rfl, e6, g6⟩
  have n6 := g6.next
  refine ⟨fun _ => LA.Stay.toA hAl (g6.weaken (by omega)), ?_⟩
  have q6 := e6.len
  have sf3 : Stay sf.next sf t3 := ((hsp.trans (g1.weaken (by omega))).trans (g2.weaken (by omega))).trans g3
  have sf6 : Stay sf.next sf t6 := ((sf3.trans (g4.weaken (by omega))).trans (g5.weaken (by omega))).trans (g6.weaken (by omega))
  have lB := Thing.loadO (htB.keeps sf6) q7
  simp (config := { maxSteps := 1000000, implicitDefEqProofs := false }) (disch := omega) only [allW, allR, allL, allB, Nat.sub_self, Nat.add_one_sub_one, Nat.reduceSub, oneOf, evalAll, partsA, optA, Nat.reduceLT, Nat.reduceLeDiff, Nat.reduceEqDiff, Nat.reduceAdd, ↓reduceIte, hn, h0, hlB, lB, o7.self]
  have o7k := ((o7.keeps (k8.trans ⟨by omega, fun j hj => hot9 j (by omega)⟩)).keeps hs9f).keeps (sf6.weaken (by omega))
  refine (rpair_any (lib := libN) rfl rfl rfl _ t6 kMed bc boxO o7k small_box).mono ?_
  rintro _ t7 ⟨p7, rfl, e7, g7⟩
  have n7 := g7.next
  refine ⟨fun _ => LA.Stay.toA hAl (g7.weaken (by omega)), ?_⟩
  refine (rarr_any (lib := libN) rfl rfl rfl (fun _ => True) t7 (.slice none 0 0) [] [] .nil ORows.nil (by simp) (fun x hx => by cases hx)).mono ?_
  rintro _ t8 ⟨c8, rfl, o8, g8⟩
  have n8 := g8.next
  refine ⟨fun _ => LA.Stay.toA hAl (g8.weaken (by omega)), ?_⟩
  refine (rpair_any (lib := libN) rfl rfl rfl _ t8 kKids c8 _ o8 (Small.bare 6 0)).mono ?_
  rintro _ t9 ⟨p9, rfl, e9, g9⟩
  have n9 := g9.next
  refine ⟨fun _ => LA.Stay.toA hAl (g9.weaken (by omega)), ?_⟩
  have q7' := e7.len
  have q9 := e9.len
  simp (config := { maxSteps := 1000000, implicitDefEqProofs := false }) (disch := omega) only [allW, allR, allL, allB, Nat.sub_self, Nat.add_one_sub_one, Nat.reduceSub, oneOf, evalAll, partsA, optA, Nat.reduceLT, Nat.reduceLeDiff, Nat.reduceEqDiff, Nat.reduceAdd, ↓reduceIte, hn, h0, buildAgg3 (a := (.string ⟨kType.toArray⟩ :: p6).toArray) (b := (.string ⟨kMed.toArray⟩ :: p7).toArray) (c := (.string ⟨kKids.toArray⟩ :: p9).toArray) Try.underlying29 szE zE plE rfl (by simp [q6]) (by simp [q7']) (by simp [q9]) (by decide)]
  refine LB.smake_newSlice (base := sf.next) (by simp [q6, q7', q9]) (by omega) (by omega) ?_
  intro xa ta hxa hia ga hnxa hota
  have g79 : Stay t7.next t7 t9 := g8.trans (g9.weaken (by omega))
  have g69 : Stay t6.next t6 t9 := g7.trans (g79.weaken (by omega))
  have rowa : ORows EntIs 6 (fun _ => True) ta [(kType, .mk 5 0 kPages [] []), (kMed, boxO), (kKids, .mk 6 0 [] [] [])] ((.string ⟨kType.toArray⟩ :: p6) ++ (.string ⟨kMed.toArray⟩ :: p7) ++ (.string ⟨kKids.toArray⟩ :: p9)) := by
    have r1 : EntIs (fun _ => True) ta (.string ⟨kType.toArray⟩ :: p6) (kType, .mk 5 0 kPages [] []) := ⟨p6, rfl, ((e6.keeps g69).putLow hnxa hota fun j hj => by omega).mono fun _ _ => trivial, by decide⟩
    have r2 : EntIs (fun _ => True) ta (.string ⟨kMed.toArray⟩ :: p7) (kMed, boxO) := ⟨p7, rfl, ((e7.keeps g79).putLow hnxa hota fun j hj => by omega).mono fun _ _ => trivial, by decide⟩
    have r3 : EntIs (fun _ => True) ta (.string ⟨kKids.toArray⟩ :: p9) (kKids, .mk 6 0 [] [] []) := ⟨p9, rfl, (e9.putLow hnxa hota fun j hj => by omega).mono fun _ _ => trivial, by decide⟩
    have := ((ORows.nil.snoc (cs := .string ⟨kType.toArray⟩ :: p6) (by rw [List.length_cons, q6]) r1).snoc (cs := .string ⟨kMed.toArray⟩ :: p7) (by rw [List.length_cons, q7']) r2).snoc (cs := .string ⟨kKids.toArray⟩ :: p9) (by rw [List.length_cons, q9]) r3
    simpa using this
  simp (config := { maxSteps := 1000000, implicitDefEqProofs := false }) (disch := omega) only [allW, allR, allL, allB, Nat.sub_self, Nat.add_one_sub_one, Nat.reduceSub, oneOf, evalAll, partsA, optA, Nat.reduceLT, Nat.reduceLeDiff, Nat.reduceEqDiff, Nat.reduceAdd, ↓reduceIte, hn, h0, hxa.self]
  refine (rdict_any libRP (fun _ => True) ta xa [(kType, .mk 5 0 kPages [] []), (kMed, boxO), (kKids, .mk 6 0 [] [] [])] _ (by simpa using hxa.sees) rowa (by decide) (fun e he => by
    simp only [List.mem_cons, List.not_mem_nil, or_false] at he
    rcases he with rfl | rfl | rfl
    · exact small_name _ (by decide)
    · exact small_box
    · exact Small.bare 6 0)).mono ?_
  rintro _ tb ⟨cb, rfl, ob', gb⟩
  have nb := gb.next
  refine ⟨fun _ => LA.Stay.toA hAl (gb.weaken (by omega)), ?_⟩
  rw [putT] at ob'
  have ob' : OIs (fun j => ta.next ≤ j) tb cb rootO := ob'
  have qb' := ob'.len
  simp (config := { maxSteps := 1000000, implicitDefEqProofs := false }) (disch := omega) only [allW, allR, allL, allB, Nat.sub_self, Nat.add_one_sub_one, Nat.reduceSub, oneOf, evalAll, partsA, optA, Nat.reduceLT, Nat.reduceLeDiff, Nat.reduceEqDiff, Nat.reduceAdd, ↓reduceIte, hn, h0, bItem 2 qb', self_cons ob'.self, low_build, buildAgg2 (a := (.int .i64 1 :: c4).toArray) (b := (.int .i64 2 :: cb).toArray) Try.underlying32 szI zI plI rfl (by simp [q4]) (by simp [qb']) (by decide)]
  refine LB.smake_newSlice (base := sf.next) (by simp [q4, qb']) (by omega) (by omega) ?_
  intro xe te' hxe hie ge hnxe' hote
  simp (config := { maxSteps := 1000000, implicitDefEqProofs := false }) (disch := omega) only [allW, allR, allL, allB, Nat.sub_self, Nat.add_one_sub_one, Nat.reduceSub, oneOf, evalAll, partsA, optA, Nat.reduceLT, Nat.reduceLeDiff, Nat.reduceEqDiff, Nat.reduceAdd, ↓reduceIte, hn, h0, hxe.self]
  refine LB.sstep_append Try.underlying32 Try.underlying32 (.inl ⟨_, rfl⟩) szI byI zI rfl .nil hxe.sees.src (by simp [q4, qb']) (by decide) ?_ (by omega) (by omega) (base := sf.next) (Fresh.nil _) (by omega) (fun h => absurd rfl h) (fun j hj => by have := hAl j hj; omega) ?_
  · have h1 := o4.ok
    have h2 := ob'.ok
    simp only [List.toList_toArray, List.all_append, List.all_cons, h1, h2]; rfl
  intro x tf hx hxF hut hor
  have sfe : Stay sf.next sf te' := (((((sf6.trans (g69.weaken (by omega))).trans ga).trans (gb.weaken (by omega))).trans ge))
  have nut := hut.next
  have hnex := hnxe'
  have hxi : ∀ j, idOf x = some j → te'.next ≤ j := fun j hj => by
    rcases hor with q | ⟨i, q1, q2⟩
    · rw [q] at hj; cases hj
    · rw [q1] at hj; injection hj with hj; omega
  have sff : Stay sf.next sf tf := sfe.trans (hut.keeps (Fresh.nil _) (by omega))
  have sef : Stay te'.next te' tf := hut.keeps (Fresh.nil _) (by omega)
  simp (config := { maxSteps := 1000000, implicitDefEqProofs := false }) (disch := omega) only [allW, allR, allL, allB, Nat.sub_self, Nat.add_one_sub_one, Nat.reduceSub, oneOf, evalAll, partsA, optA, Nat.reduceLT, Nat.reduceLeDiff, Nat.reduceEqDiff, Nat.reduceAdd, ↓reduceIte, hn, h0, df4, hx.self]
  refine LB.sstep_storeN szIs (by decide) (htf.keeps sff) (off := 8) (c := 10) (by rw [hDl]) (vs := [x]) hx.sees.cell1 rfl (by omega) (by simp [hx.sees.okCell]) (fun h => absurd rfl h) ?_
  intro tg htg hnxg hotg
  rw [hDC, doc_over qd] at htg
  simp (config := { maxSteps := 1000000, implicitDefEqProofs := false }) (disch := omega) only [allW, allR, allL, allB, Nat.sub_self, Nat.add_one_sub_one, Nat.reduceSub, oneOf, evalAll, partsA, optA, Nat.reduceLT, Nat.reduceLeDiff, Nat.reduceEqDiff, Nat.reduceAdd, ↓reduceIte, allW, allR, oneOf, evalAll, partsA, optA, Nat.reduceLT, Nat.reduceLeDiff, Nat.reduceEqDiff, Nat.reduceAdd, ↓reduceIte, hn, h0, build1 Try.underlying91 szInt zInt]
  refine wstep_newSlice (by rfl) ?_
  intro w th hw hwF gh
  simp (config := { maxSteps := 1000000, implicitDefEqProofs := false }) (disch := omega) only [allW, allR, oneOf, evalAll, partsA, optA, Nat.reduceLT, Nat.reduceLeDiff, Nat.reduceEqDiff, Nat.reduceAdd, ↓reduceIte, hn, h0, build1 Try.underlying91 szInt zInt]
  refine wstep_newSlice (by rfl) ?_
  intro u ti hu huF gi
  have nh := gh.next
  have ni := gi.next
  have ghi : Stay tg.next tg ti := gh.trans (gi.weaken (by omega))
  have hsd : s1.next ≤ sd.next := by have := k2.next; have := k3.next; have := k4.next; have := k5.next; have := k6.next; have := k7.next; have := k8.next; have := ka.next; have := kb.next; have := kc.next; have := kd.next; omega
  have hdf : sd.next < sf.next := htf.lt
  have hdg : ∀ j, j ≠ sd.next → idOf (.pointer (some ⟨sd.next, 0, none⟩)) ≠ some j := fun j hj e => by
    have e : some sd.next = some j := e
    injection e with e; exact hj e.symm
  have hut' : Turns (.pointer (some ⟨sd.next, 0, none⟩)) tf tg := Turns.ofPut hnxg hotg
  have g4e : Stay t4.next t4 t9 := (g5.trans (g6.weaken (by omega))).trans (g69.weaken (by omega))
  have nb1 := gb.next
  have o4f : OIs (fun j => t3.next ≤ j ∧ j < t4.next) ti c4 firstO := by
    have h1 := (o4.lows.keeps g4e).putLow hnxa hota fun j hj => by omega
    have h2 := (h1.keeps gb).putLow hnxe' hote fun j hj => by omega
    exact (((h2.keeps sef).turns hut' fun j hj => hdg j (by omega)).keeps (ghi.weaken (by omega))).mono fun j hj => hj
  have obf : OIs (fun j => ta.next ≤ j ∧ j < tb.next) ti cb rootO := by
    have h2 := ob'.lows.putLow hnxe' hote fun j hj => by omega
    exact ((h2.keeps sef).turns hut' fun j hj => hdg j (by omega)).keeps (ghi.weaken (by omega))
  have otf : OIs (fun j => sc.next ≤ j ∧ j < sd.next) ti tc trailerT := by
    have h2 := ((od.lows.keeps ke).turns (u := .pointer (some ⟨sd.next, 0, none⟩)) (Turns.ofPut hnxf hotf) fun j hj => hdg j (by omega)).keeps (sff.weaken (by omega))
    exact (h2.turns hut' fun j hj => hdg j (by omega)).keeps (ghi.weaken (by omega))
  have nc := kc.next
  have nd := kd.next
  have hsc : s1.next ≤ sc.next := by have := k2.next; have := k3.next; have := k4.next; have := k5.next; have := k6.next; have := k7.next; have := k8.next; have := ka.next; have := kb.next; omega
  have rows0 : ORows ItIs 6 (fun j => (sc.next ≤ j ∧ j < sd.next) ∨ (t3.next ≤ j ∧ j < tb.next)) ti startS.items ([] ++ Value.int IntKind.i64 1 :: (c4 ++ Value.int IntKind.i64 2 :: cb)) := by
    have r1 : ItIs (fun j => (sc.next ≤ j ∧ j < sd.next) ∨ (t3.next ≤ j ∧ j < tb.next)) ti (.int .i64 1 :: c4) (1, firstO) := ⟨c4, rfl, o4f.mono fun j hj => .inr ⟨by omega, by omega⟩⟩
    have r2 : ItIs (fun j => (sc.next ≤ j ∧ j < sd.next) ∨ (t3.next ≤ j ∧ j < tb.next)) ti (.int .i64 2 :: cb) (2, rootO) := ⟨cb, rfl, obf.mono fun j hj => .inr ⟨by omega, by omega⟩⟩
    have := (ORows.nil.snoc (cs := .int .i64 1 :: c4) (by rw [List.length_cons, q4]) r1).snoc (cs := .int .i64 2 :: cb) (by rw [List.length_cons, qb']) r2
    simpa [startS] using this
  have G0 : GrIs s1.next (fun j => (sc.next ≤ j ∧ j < sd.next) ∨ (t3.next ≤ j ∧ j < tb.next)) ti sd.next tc x w u (.slice none 0 0) _ startS :=
    ⟨htg.keeps ghi, otf.mono fun j hj => .inl hj, (hx.turns hut' fun j hj => hdg j (by have := hxi j hj; omega)).keeps ghi, rows0, (hw.keeps gi).pre, hu.pre, .nil, hsd, fun j hj => by have := hxi j hj; exact ⟨by omega, by omega⟩, fun j hj => by have := hwF j hj; exact ⟨by omega, by omega, fun e => by have := hx.idlt _ e; omega⟩, fun j hj => by have := huF j hj; exact ⟨by omega, by omega, fun e => by have := hx.idlt _ e; omega, fun e => by have := hw.idlt _ e; omega⟩, (fun j hj => by cases hj), fun j hj => ⟨by omega, by omega, by omega, fun e => by have := hxi j e; omega, fun e => by have := hwF j e; omega, fun e => by have := huF j e; omega, fun e => by cases e⟩⟩
  have k1i : Stay s1.next s1 ti := by
    have m2 := k2.next
    have m3 := k3.next
    have m4 := k4.next
    have m5 := k5.next
    have m6 := k6.next
    have m7 := k7.next
    have m8 := k8.next
    have e1 : Stay s1.next s1 s7 := ((((k2.trans (k3.weaken (by omega))).trans (k4.weaken (by omega))).trans (k5.weaken (by omega))).trans (k6.weaken (by omega))).trans (k7.weaken (by omega))
    have e2 : Stay s1.next s1 s9 := (e1.trans (k8.weaken (by omega))).trans ⟨by omega, fun j hj => hot9 j (by omega)⟩
    have e3 : Stay s1.next s1 tf := (e2.trans (hs9f.weaken (by omega))).trans (sff.weaken (by omega))
    exact (e3.trans ⟨by omega, fun j hj => hotg j (by omega)⟩).trans (ghi.weaken (by omega))
  simp (config := { maxSteps := 1000000, implicitDefEqProofs := false }) (disch := omega) only [allW, allR, oneOf, evalAll, partsA, optA, Nat.reduceLT, Nat.reduceLeDiff, Nat.reduceEqDiff, Nat.reduceAdd, ↓reduceIte, hn, h0]
  obtain ⟨gs, hgs⟩ : ∃ gs : Nat → GS, gs = fun i => growN ((b.take i).map UInt8.toNat) := ⟨_, rfl⟩
  have hg0 : gs 0 = startS := by rw [hgs]; rfl
  have hgn : gs b.length = growN (b.map UInt8.toNat) := by rw [hgs]; simp
  rw [← hg0] at G0
  refine Comes.loopOut (fun z f m => ∃ (i : Nat) (F : Nat → Prop) (x w u p : Value) (lx : List Value), z = b.length - i ∧ i ≤ b.length ∧ GrIs s1.next F m sd.next tc x w u p lx (gs i) ∧ Stay s1.next s1 m ∧ f.n = 178 ∧ f.get 0 = v ∧ f.get 2 = .pointer (some ⟨s.next, 0, some 10⟩) ∧ f.get 5 = .pointer (some ⟨sd.next, 0, some 10⟩) ∧ f.get 6 = p ∧ f.get 7 = w ∧ f.get 8 = u ∧ f.get 9 = .int .i64 (i : Nat))
    (fun z f m => z = .exit 0 ∧ ∃ (F : Nat → Prop) (x w u p : Value) (lx : List Value), GrIs s1.next F m sd.next tc x w u p lx (gs b.length) ∧ Stay s1.next s1 m ∧ f.n = 178 ∧ f.get 2 = .pointer (some ⟨s.next, 0, some 10⟩) ∧ f.get 5 = .pointer (some ⟨sd.next, 0, some 10⟩) ∧ f.get 6 = p)
    ⟨0, _, x, w, u, .slice none 0 0, _, rfl, by omega, G0, k1i, by simp only [get_put, n_put, ↓reduceIte, Nat.reduceEqDiff, hn], by simp only [get_put, n_put, ↓reduceIte, Nat.reduceEqDiff, h0], by simp only [get_put, n_put, ↓reduceIte, Nat.reduceEqDiff], by simp only [get_put, n_put, ↓reduceIte, Nat.reduceEqDiff], by simp only [get_put, n_put, ↓reduceIte, Nat.reduceEqDiff], by simp only [get_put, n_put, ↓reduceIte, Nat.reduceEqDiff], by simp only [get_put, n_put, ↓reduceIte, Nat.reduceEqDiff], by simp only [get_put, n_put, ↓reduceIte, Nat.reduceEqDiff]; rfl⟩ ?_ ?_
  · clear hn h0 f G0
    rintro Q hQ z f m ⟨i, F, x, w, u, p, lx, rfl, hi, hG, km, hn, h0, h2, h5, h6, h7, h8, h9⟩
    have hvm := (hv.keeps hst1).keeps km
    have hln := hvm.lenA (P := Try.prog) (s2 := m) Try.underlying27
    by_cases hlt : i < b.length
    rotate_left
    · obtain rfl : i = b.length := by omega
      have d1 : ¬ ((b.length : Nat) : Int) < ((b.length : Nat) : Int) := by omega
      simp (config := { maxSteps := 1000000, implicitDefEqProofs := false }) (disch := omega) only [allW, allR, oneOf, evalAll, partsA, optA, Nat.reduceLT, Nat.reduceLeDiff, Nat.reduceEqDiff, Nat.reduceAdd, ↓reduceIte, hn, h0, h2, h5, h6, h7, h8, h9, hln, eq_false d1]
      exact hQ _ _ _ ⟨rfl, F, x, w, u, p, lx, hG, km, by simp only [get_put, n_put, ↓reduceIte, Nat.reduceEqDiff, hn], by simp only [get_put, n_put, ↓reduceIte, Nat.reduceEqDiff, h2], by simp only [get_put, n_put, ↓reduceIte, Nat.reduceEqDiff, h5], by simp only [get_put, n_put, ↓reduceIte, Nat.reduceEqDiff, h6]⟩
    have d1 : (i : Int) < (b.length : Int) := by omega
    have hok := growN_ok ((b.take i).map UInt8.toNat) (by simp; omega)
    rw [show growN ((b.take i).map UInt8.toNat) = gs i by rw [hgs]] at hok
    obtain ⟨hz, hl1, hl2, hl3⟩ := hok
    have hli : ((b.take i).map UInt8.toNat).length = i := by simp; omega
    rw [hli] at hl1 hl2 hl3
    have hinv := inv_all ((b.take i).map UInt8.toNat)
    obtain ⟨hw1, hw2, hw3⟩ := inv_way hinv
    rw [show (((b.take i).map UInt8.toNat).foldl growS startS) = gs i by rw [hgs]; rfl] at hw1 hw2 hw3
    obtain ⟨c, hc⟩ : ∃ c : Nat, c = (b.getD i 0).toNat := ⟨_, rfl⟩
    have hc256 : c < 256 := by rw [hc]; exact (b.getD i 0).toNat_lt
    have hgi : gs (i + 1) = growS (gs i) c := by
      have : b.take (i + 1) = b.take i ++ [b.getD i 0] := by rw [List.take_add_one, List.getElem?_eq_getElem hlt, List.getD_eq_getElem?_getD, List.getElem?_eq_getElem hlt]; rfl
      rw [hgs, hc]
      show growN ((b.take (i + 1)).map _) = _
      rw [this, List.map_append]
      exact growN_snoc _ _
    obtain ⟨g, hg⟩ : ∃ g, g = gs i := ⟨_, rfl⟩
    rw [← hg] at hG hz hl1 hl2 hl3 hw1 hw2 hw3 hgi
    have hix := hvm.indexAddr (P := Try.prog) (k := .i64) (x := (i : Int)) Try.underlying27 szU8 (by omega) (by omega)
    rw [Int.toNat_natCast] at hix
    have hld := hvm.load1 (P := Try.prog) agU8 hlt
    rw [ofBytes_getD hlt, ← hc] at hld
    have e8 : (c : Int).tmod 8 = ((c % 8 : Nat) : Int) := (Int.ofNat_tmod c 8).symm
    have lI := db_items hG.doc qd
    have lnI := hG.its.sees.lenA (P := Try.prog) (s2 := m) Try.underlying32
    have lnW := hG.way.sees.lenA (P := Try.prog) (s2 := m) Try.underlying91
    have hn60 : i < 60 := by omega
    have br8 : ∀ a : Int, binA Try.prog .rem 5 (.int .u8 a) (.int .u8 8) = some (.int .u8 (a.tmod 8)) := fun a => by simp [binA, intOp]
    by_cases h82 : c % 8 = 2
    · have d2 : ((c % 8 : Nat) : Int) = 2 := by omega
      by_cases hw1' : 1 < g.way.length
      · have d3 : (0 : Int) < (g.way.length : Int) - 1 := by omega
        simp (config := { maxSteps := 1000000, implicitDefEqProofs := false }) (disch := omega) only [allW, allR, oneOf, evalAll, partsA, optA, Nat.reduceLT, Nat.reduceLeDiff, Nat.reduceEqDiff, Nat.reduceAdd, ↓reduceIte, hn, h0, h2, h5, h6, h7, h8, h9, hln, eq_true d1, df4, lI, lnI, lnW, hix, hld, br8, e8, eq_true d2, eq_true d3, wrapI]
        obtain ⟨w', hcw, hw', hiw⟩ := hG.way.cutHigh (P := Try.prog) Try.underlying91 szInt (kk := .i64) (k := g.way.length - 1) (by omega)
        obtain ⟨u', hcu, hu', hiu⟩ := hG.turns.cutHigh (P := Try.prog) Try.underlying91 szInt (kk := .i64) (k := g.way.length - 1) (by omega)
        rw [show ((g.way.length - 1 : Nat) : Int) = (g.way.length : Int) - 1 by omega] at hcw hcu
        simp (config := { maxSteps := 1000000, implicitDefEqProofs := false }) (disch := omega) only [allW, allR, oneOf, evalAll, partsA, optA, Nat.reduceLT, Nat.reduceLeDiff, Nat.reduceEqDiff, Nat.reduceAdd, ↓reduceIte, hn, h0, h2, h5, h6, h7, h8, h9, hG.way.sees.self, hG.turns.sees.self, hw'.sees.self, hu'.sees.self, hcw, hcu, wrapI]
        refine wround_next (b.length - (i + 1)) (by omega) ⟨i + 1, F, x, w', u', p, lx, rfl, by omega, ?_, km, by simp only [get_put, n_put, ↓reduceIte, Nat.reduceEqDiff, hn], by simp only [get_put, n_put, ↓reduceIte, Nat.reduceEqDiff, h0], by simp only [get_put, n_put, ↓reduceIte, Nat.reduceEqDiff, h2], by simp only [get_put, n_put, ↓reduceIte, Nat.reduceEqDiff, h5], by simp only [get_put, n_put, ↓reduceIte, Nat.reduceEqDiff, h6], by simp only [get_put, n_put, ↓reduceIte, Nat.reduceEqDiff], by simp only [get_put, n_put, ↓reduceIte, Nat.reduceEqDiff], by simp only [get_put, n_put, ↓reduceIte, Nat.reduceEqDiff]; rfl⟩
        rw [hgi]
        unfold growS
        rw [if_pos h82, if_pos hw1']
        exact hG.back (by omega) (by omega) hw' hiw hu' hiu
      · have d3 : ¬ (0 : Int) < (g.way.length : Int) - 1 := by omega
        simp (config := { maxSteps := 1000000, implicitDefEqProofs := false }) (disch := omega) only [allW, allR, oneOf, evalAll, partsA, optA, Nat.reduceLT, Nat.reduceLeDiff, Nat.reduceEqDiff, Nat.reduceAdd, ↓reduceIte, hn, h0, h2, h5, h6, h7, h8, h9, hln, eq_true d1, df4, lI, lnI, lnW, hix, hld, br8, e8, eq_true d2, eq_false d3, wrapI]
        refine wround_next (b.length - (i + 1)) (by omega) ⟨i + 1, F, x, w, u, p, lx, rfl, by omega, ?_, km, by simp only [get_put, n_put, ↓reduceIte, Nat.reduceEqDiff, hn], by simp only [get_put, n_put, ↓reduceIte, Nat.reduceEqDiff, h0], by simp only [get_put, n_put, ↓reduceIte, Nat.reduceEqDiff, h2], by simp only [get_put, n_put, ↓reduceIte, Nat.reduceEqDiff, h5], by simp only [get_put, n_put, ↓reduceIte, Nat.reduceEqDiff, h6], by simp only [get_put, n_put, ↓reduceIte, Nat.reduceEqDiff, h7], by simp only [get_put, n_put, ↓reduceIte, Nat.reduceEqDiff, h8], by simp only [get_put, n_put, ↓reduceIte, Nat.reduceEqDiff]; rfl⟩
        rw [hgi]
        unfold growS
        rw [if_pos h82, if_neg hw1']
        exact hG
    have d2 : ¬ ((c % 8 : Nat) : Int) = 2 := by omega
    simp (config := { maxSteps := 1000000, implicitDefEqProofs := false }) (disch := omega) only [allW, allR, oneOf, evalAll, partsA, optA, Nat.reduceLT, Nat.reduceLeDiff, Nat.reduceEqDiff, Nat.reduceAdd, ↓reduceIte, hn, h0, h2, h5, h6, h7, h8, h9, hln, eq_true d1, df4, lI, lnI, lnW, hix, hld, br8, e8, eq_false d2, wrapI]
    have hiu := hG.turns.sees.indexAddr (P := Try.prog) (k := .i64) (x := (g.way.length : Int) - 1) Try.underlying91 szInt (by omega) (by omega)
    have hiw := hG.way.sees.indexAddr (P := Try.prog) (k := .i64) (x := (g.way.length : Int) - 1) Try.underlying91 szInt (by omega) (by omega)
    rw [show ((g.way.length : Int) - 1).toNat = g.way.length - 1 by omega] at hiu hiw
    obtain ⟨T, hT⟩ : ∃ T, T = g.turns.getD (g.way.length - 1) 0 := ⟨_, rfl⟩
    obtain ⟨at', hat⟩ : ∃ a, a = atS g := ⟨_, rfl⟩
    have hlu : loadA Try.prog m 3 (elemPtr 1 u (g.way.length - 1)) = some (.int .i64 T) := by
      rw [hG.turns.sees.load1 (P := Try.prog) agInt (k := g.way.length - 1) (by omega), intsV_getD (by omega), hT, List.getD_eq_getElem?_getD, List.getElem?_eq_getElem (by omega)]; rfl
    simp (config := { maxSteps := 1000000, implicitDefEqProofs := false }) (disch := omega) only [allW, allR, oneOf, evalAll, partsA, optA, Nat.reduceLT, Nat.reduceLeDiff, Nat.reduceEqDiff, Nat.reduceAdd, ↓reduceIte, hn, h0, h2, h5, h6, h7, h8, h9, hiu, hlu]
    refine (rnameO_any (lib := libN) rfl m kPage (by decide)).mono ?_
    rintro _ m1 ⟨c1, rfl, o1, g1⟩
    refine wcall_reframe (fun f => f.n = 178 ∧ f.get 0 = v ∧ f.get 2 = .pointer (some ⟨s.next, 0, some 10⟩) ∧ f.get 5 = .pointer (some ⟨sd.next, 0, some 10⟩) ∧ f.get 6 = p ∧ f.get 7 = w ∧ f.get 8 = u ∧ f.get 9 = .int .i64 (i : Nat) ∧ f.get 10 = .int .i64 ((g.items.length : Int) + 1) ∧ f.get 11 = .int .i64 ((g.way.length : Int) - 1) ∧ f.get 12 = .int .i64 T) ⟨by simp only [get_put, n_put, ↓reduceIte, Nat.reduceEqDiff, hn], by first | simp only [get_put, n_put, ↓reduceIte, Nat.reduceEqDiff, h0] | simp only [get_put, n_put, ↓reduceIte, Nat.reduceEqDiff], by first | simp only [get_put, n_put, ↓reduceIte, Nat.reduceEqDiff, h2] | simp only [get_put, n_put, ↓reduceIte, Nat.reduceEqDiff], by first | simp only [get_put, n_put, ↓reduceIte, Nat.reduceEqDiff, h5] | simp only [get_put, n_put, ↓reduceIte, Nat.reduceEqDiff], by first | simp only [get_put, n_put, ↓reduceIte, Nat.reduceEqDiff, h6] | simp only [get_put, n_put, ↓reduceIte, Nat.reduceEqDiff], by first | simp only [get_put, n_put, ↓reduceIte, Nat.reduceEqDiff, h7] | simp only [get_put, n_put, ↓reduceIte, Nat.reduceEqDiff], by first | simp only [get_put, n_put, ↓reduceIte, Nat.reduceEqDiff, h8] | simp only [get_put, n_put, ↓reduceIte, Nat.reduceEqDiff], by first | simp only [get_put, n_put, ↓reduceIte, Nat.reduceEqDiff, h9] | simp only [get_put, n_put, ↓reduceIte, Nat.reduceEqDiff], by first | simp only [get_put, n_put, ↓reduceIte, Nat.reduceEqDiff, h10] | simp only [get_put, n_put, ↓reduceIte, Nat.reduceEqDiff], by first | simp only [get_put, n_put, ↓reduceIte, Nat.reduceEqDiff, h11] | simp only [get_put, n_put, ↓reduceIte, Nat.reduceEqDiff], by first | simp only [get_put, n_put, ↓reduceIte, Nat.reduceEqDiff, h12] | simp only [get_put, n_put, ↓reduceIte, Nat.reduceEqDiff]⟩ ?_
    rintro f ⟨hn, h0, h2, h5, h6, h7, h8, h9, h10, h11, h12⟩
    simp (config := { maxSteps := 1000000, implicitDefEqProofs := false }) (disch := omega) only [allW, allR, oneOf, evalAll, partsA, optA, Nat.reduceLT, Nat.reduceLeDiff, Nat.reduceEqDiff, Nat.reduceAdd, ↓reduceIte, hn]
    refine (rpair_any (lib := libN) rfl rfl rfl _ m1 kType c1 _ o1 (small_name _ (by decide))).mono ?_
    rintro _ m2 ⟨p2, rfl, e2, g2⟩
    have q2 := e2.len
    simp (config := { maxSteps := 1000000, implicitDefEqProofs := false }) (disch := omega) only [allW, allR, oneOf, evalAll, partsA, optA, Nat.reduceLT, Nat.reduceLeDiff, Nat.reduceEqDiff, Nat.reduceAdd, ↓reduceIte, hn, buildAgg1 (cs := (.string ⟨kType.toArray⟩ :: p2).toArray) Try.underlying29 szE zE plE rfl (by simp [q2]) (by decide)]
    refine wstep_newSlice (by simp [q2]) ?_
    intro x3 m3 hx3 _ g3
    simp (config := { maxSteps := 1000000, implicitDefEqProofs := false }) (disch := omega) only [allW, allR, oneOf, evalAll, partsA, optA, Nat.reduceLT, Nat.reduceLeDiff, Nat.reduceEqDiff, Nat.reduceAdd, ↓reduceIte, hn]
    refine (rdict_any libRP (fun _ => True) m3 x3 [(kType, .mk 5 0 kPage [] [])] _ hx3.sees (entRow ((e2.keeps g3).mono fun _ _ => trivial) (by decide)) (by decide) (fun e he => by simp at he; subst he; exact small_name _ (by decide))).mono ?_
    rintro _ m4 ⟨c4, rfl, o4, g4⟩
    have o4 : OIs (fun j => m3.next ≤ j) m4 c4 pageO := o4
    have q4 := o4.len
    have hd6 : noneC.length + 1 = 6 := rfl
    simp (config := { maxSteps := 1000000, implicitDefEqProofs := false }) (disch := omega) only [allW, allR, oneOf, evalAll, partsA, optA, Nat.reduceLT, Nat.reduceLeDiff, Nat.reduceEqDiff, Nat.reduceAdd, ↓reduceIte, hn, zO, plO]
    refine wstep_newPtr ?_
    intro m5 ht5 g5 hnx5
    simp (config := { maxSteps := 1000000, implicitDefEqProofs := false }) (disch := omega) only [allW, allR, oneOf, evalAll, partsA, optA, Nat.reduceLT, Nat.reduceLeDiff, Nat.reduceEqDiff, Nat.reduceAdd, ↓reduceIte, hn, hd6]
    refine wstep_storeAll szO (by decide) ht5 rfl rfl q4 o4.ok ?_
    intro m6 ht6 hnx6 hot6
    have n1 := g1.next
    have n2 := g2.next
    have n3 := g3.next
    have n4 := g4.next
    have n5 := g5.next
    have g06 : Stay m.next m m6 := ((((g1.trans (g2.weaken (by omega))).trans (g3.weaken (by omega))).trans (g4.weaken (by omega))).trans (g5.weaken (by omega))).trans ⟨by omega, fun j hj => hot6 j (by omega)⟩
    have hld6 := (hvm.keeps g06).load1 (P := Try.prog) agU8 hlt
    rw [ofBytes_getD hlt, ← hc] at hld6
    have ht6 : Thing m6 m4.next c4 := ht6
    simp (config := { maxSteps := 1000000, implicitDefEqProofs := false }) (disch := omega) only [allW, allR, oneOf, evalAll, partsA, optA, Nat.reduceLT, Nat.reduceLeDiff, Nat.reduceEqDiff, Nat.reduceAdd, ↓reduceIte, hn, h0, h9, hix, hld6, br8, e8]
    generalize hK1 : wthen Try.prog libN (Code.seq (Code.seq (Code.region 18 _ _) _) _) _ = K1
    obtain ⟨op, hop⟩ : ∃ op, op = m4.next := ⟨_, rfl⟩
    have hop1 : m.next ≤ op := by omega
    have tail1 : ∀ (f : AFr) (t : ASt) (cs : List Value), Thing t op cs → OIs (fun j => m.next ≤ j ∧ j ≠ op) t cs (bareN c) → Stay m.next m t → f.n = 178 → f.get 0 = v → f.get 2 = .pointer (some ⟨s.next, 0, some 10⟩) → f.get 5 = .pointer (some ⟨sd.next, 0, some 10⟩) → f.get 6 = p → f.get 7 = w → f.get 8 = u → f.get 9 = .int .i64 (i : Nat) → f.get 10 = .int .i64 ((g.items.length : Int) + 1) → f.get 11 = .int .i64 ((g.way.length : Int) - 1) → f.get 12 = .int .i64 T → f.get 13 = .pointer (some ⟨op, 0, some 6⟩) → K1 .normal f t := by
      clear hn h0 h2 h5 h6 h7 h8 h9 h10 h11 h12 f
      intro f t cs hto hoi kt hn h0 h2 h5 h6 h7 h8 h9 h10 h11 h12 h13
      subst hK1
      have hldt := (hvm.keeps kt).load1 (P := Try.prog) agU8 hlt
      rw [ofBytes_getD hlt, ← hc] at hldt
      obtain ⟨hb1, hb2⟩ := u8facts ⟨c, hc256⟩
      have ba : binA Try.prog .and 5 (.int .u8 (c : Int)) (.int .u8 64) = some (.int .u8 ((c / 64 % 2 * 64 : Nat) : Int)) := by rw [← hb1]; exact bin_and _ _ _ _ _
      have bs : binA Try.prog .shr 5 (.int .u8 (c : Int)) (.int .u64 3) = some (.int .u8 ((c / 8 : Nat) : Int)) := by
        have h0 : binA Try.prog .shr 5 (.int .u8 (c : Int)) (.int .u64 3) = some (.int .u8 ((c : Int).fdiv (2 ^ (min (3 : Int).toNat IntKind.u8.bits)))) := by apply bin_shr; decide
        have h1 : (c : Int).fdiv (2 ^ (min (3 : Int).toNat IntKind.u8.bits)) = ((c / 8 : Nat) : Int) := by
          show (c : Int).fdiv 8 = _
          rw [Int.fdiv_eq_ediv_of_nonneg _ (by decide)]; omega
        rw [h0, h1]
      have ba3 : binA Try.prog .and 5 (.int .u8 ((c / 8 : Nat) : Int)) (.int .u8 3) = some (.int .u8 ((c / 8 % 4 : Nat) : Int)) := by rw [← hb2]; exact bin_and _ _ _ _ _
      simp (config := { maxSteps := 1000000, implicitDefEqProofs := false }) (disch := omega) only [allW, allR, oneOf, evalAll, partsA, optA, Nat.reduceLT, Nat.reduceLeDiff, Nat.reduceEqDiff, Nat.reduceAdd, ↓reduceIte, hn, h0, h9, hix, hldt, ba]
      generalize hK2 : wthen Try.prog libN (Code.seq (Code.region 21 _ _) _) _ = K2
      have tail2 : ∀ (f : AFr) (t : ASt) (cs : List Value), Thing t op cs → OIs (fun j => m.next ≤ j ∧ j ≠ op) t cs (newO c) → Stay m.next m t → f.n = 178 → f.get 0 = v → f.get 2 = .pointer (some ⟨s.next, 0, some 10⟩) → f.get 5 = .pointer (some ⟨sd.next, 0, some 10⟩) → f.get 6 = p → f.get 7 = w → f.get 8 = u → f.get 9 = .int .i64 (i : Nat) → f.get 10 = .int .i64 ((g.items.length : Int) + 1) → f.get 11 = .int .i64 ((g.way.length : Int) - 1) → f.get 12 = .int .i64 (turnS g c) → f.get 13 = .pointer (some ⟨op, 0, some 6⟩) → K2 .normal f t := by
        clear hn h0 h2 h5 h6 h7 h8 h9 h10 h11 h12 h13 f hto hoi kt hldt ba ba3 bs cs t
        intro f t cs hto hoi kt hn h0 h2 h5 h6 h7 h8 h9 h10 h11 h12 h13
        subst hK2
        have hGt := hG.keeps kt
        have lI := db_items hGt.doc qd
        have hatl : at' < g.items.length := by rw [hat]; exact hw3
        obtain ⟨o, ho⟩ : ∃ o, o = g.items[at'].2 := ⟨_, rfl⟩
        obtain ⟨xi, xo, xc, ep, -⟩ := hGt.its.sees.cells hatl
        have hlw : loadA Try.prog t 3 (elemPtr 1 w (g.way.length - 1)) = some (.int .i64 (at' : Int)) := by
          rw [hGt.way.sees.load1 (P := Try.prog) agInt (k := g.way.length - 1) (by omega), wayV, intsV_getD (by simp; omega), hat]
          simp [atS, List.getD_eq_getElem?_getD]
          rw [List.getElem?_eq_getElem (by omega)]; rfl
        have hixI := hGt.its.sees.indexAddr (P := Try.prog) (k := .i64) (x := (at' : Int)) Try.underlying32 szI (by omega) (by omega)
        rw [Int.toNat_natCast, ep] at hixI
        have lP := hGt.its.sees.loadPart (P := Try.prog) agO szO hatl (j := 1) (by omega)
        rw [ep] at lP
        have lP : loadA Try.prog t 31 (.pointer (some ⟨xi, xo + 1, some xc⟩)) = _ := lP
        obtain ⟨-, -, hro, -⟩ := itemB (hGt.rows.row at' hatl)
        rw [← ho] at hro
        obtain ⟨r, hr⟩ : ∃ r, r = (lx.drop (at' * 6 + 1)).take 5 := ⟨_, rfl⟩
        rw [← hr] at lP hro
        have hfo : FlatO (g.items.length + 4) o := by rw [ho]; exact hz.flat _ (List.getElem_mem hatl)
        have hso : Small o := hfo.small (by omega)
        simp (config := { maxSteps := 1000000, implicitDefEqProofs := false }) (disch := omega) only [allW, allR, oneOf, evalAll, partsA, optA, Nat.reduceLT, Nat.reduceLeDiff, Nat.reduceEqDiff, Nat.reduceAdd, ↓reduceIte, hn, h0, h5, h7, h11, df4, if1, lI, hiw, hlw, hixI, lP, hGt.its.self, hGt.way.sees.self, valEq_pointer, valEq_elemPtr]
        refine (rgetL (lib := libN) rfl rfl rfl rfl F t r o hro hso kKids).mono ?_
        intro vk t1 hL
        have hkf := getO_flat hfo kKids
        obtain ⟨k, n, kb, kl, kd, bv, lv, dv, lc, dc, hK, rfl, ol, fl, sb, sd', fb, fd, rl, rd, kt1⟩ := hL
        rw [hK] at hkf
        have hkl : kl.length ≤ g.items.length + 4 := hkf.l
        refine wcall_reframe (fun f => f.n = 178 ∧ f.get 0 = v ∧ f.get 2 = .pointer (some ⟨s.next, 0, some 10⟩) ∧ f.get 5 = .pointer (some ⟨sd.next, 0, some 10⟩) ∧ f.get 6 = p ∧ f.get 7 = w ∧ f.get 8 = u ∧ f.get 9 = .int .i64 (i : Nat) ∧ f.get 10 = .int .i64 ((g.items.length : Int) + 1) ∧ f.get 12 = .int .i64 (turnS g c) ∧ f.get 13 = .pointer (some ⟨op, 0, some 6⟩) ∧ f.get 14 = .pointer (some ⟨xi, xo, some xc⟩)) ⟨by simp only [get_put, n_put, ↓reduceIte, Nat.reduceEqDiff, hn], by first | simp only [get_put, n_put, ↓reduceIte, Nat.reduceEqDiff, h0] | simp only [get_put, n_put, ↓reduceIte, Nat.reduceEqDiff], by first | simp only [get_put, n_put, ↓reduceIte, Nat.reduceEqDiff, h2] | simp only [get_put, n_put, ↓reduceIte, Nat.reduceEqDiff], by first | simp only [get_put, n_put, ↓reduceIte, Nat.reduceEqDiff, h5] | simp only [get_put, n_put, ↓reduceIte, Nat.reduceEqDiff], by first | simp only [get_put, n_put, ↓reduceIte, Nat.reduceEqDiff, h6] | simp only [get_put, n_put, ↓reduceIte, Nat.reduceEqDiff], by first | simp only [get_put, n_put, ↓reduceIte, Nat.reduceEqDiff, h7] | simp only [get_put, n_put, ↓reduceIte, Nat.reduceEqDiff], by first | simp only [get_put, n_put, ↓reduceIte, Nat.reduceEqDiff, h8] | simp only [get_put, n_put, ↓reduceIte, Nat.reduceEqDiff], by first | simp only [get_put, n_put, ↓reduceIte, Nat.reduceEqDiff, h9] | simp only [get_put, n_put, ↓reduceIte, Nat.reduceEqDiff], by first | simp only [get_put, n_put, ↓reduceIte, Nat.reduceEqDiff, h10] | simp only [get_put, n_put, ↓reduceIte, Nat.reduceEqDiff], by first | simp only [get_put, n_put, ↓reduceIte, Nat.reduceEqDiff, h12] | simp only [get_put, n_put, ↓reduceIte, Nat.reduceEqDiff], by first | simp only [get_put, n_put, ↓reduceIte, Nat.reduceEqDiff, h13] | simp only [get_put, n_put, ↓reduceIte, Nat.reduceEqDiff], by first | simp only [get_put, n_put, ↓reduceIte, Nat.reduceEqDiff, h14] | simp only [get_put, n_put, ↓reduceIte, Nat.reduceEqDiff]⟩ ?_
        rintro f ⟨hn, h0, h2, h5, h6, h7, h8, h9, h10, h12, h13, h14⟩
        simp (config := { maxSteps := 1000000, implicitDefEqProofs := false }) (disch := omega) only [allW, allR, oneOf, evalAll, partsA, optA, Nat.reduceLT, Nat.reduceLeDiff, Nat.reduceEqDiff, Nat.reduceAdd, ↓reduceIte, hn, zO, plO]
        refine wstep_newPtr ?_
        intro t2 ht2 kt2 nx2
        have ok1 := sb.okCell
        have ok2 := ol.sees.okCell
        have ok3 := sd'.okCell
        simp (config := { maxSteps := 1000000, implicitDefEqProofs := false }) (disch := omega) only [allW, allR, oneOf, evalAll, partsA, optA, Nat.reduceLT, Nat.reduceLeDiff, Nat.reduceEqDiff, Nat.reduceAdd, ↓reduceIte, hn, hd6]
        refine wstep_storeAll szO (by decide) ht2 rfl rfl rfl (by simp only [List.all_cons, List.all_nil, ok1, ok2, ok3]; rfl) ?_
        intro t3 ht3 nx3 ot3
        have ht3 : Thing t3 t1.next [.int .i64 k, .int .i64 n, bv, lv, dv] := ht3
        obtain ⟨kp, hkp⟩ : ∃ kp, kp = t1.next := ⟨_, rfl⟩
        rw [← hkp] at ht3
        simp (config := { maxSteps := 1000000, implicitDefEqProofs := false }) (disch := omega) only [allW, allR, oneOf, evalAll, partsA, optA, Nat.reduceLT, Nat.reduceLeDiff, Nat.reduceEqDiff, Nat.reduceAdd, ↓reduceIte, hn, ← hkp]
        have ntt1 := kt1.next
        have st3 : Stay t.next t t3 := (kt1.trans (kt2.weaken ntt1)).trans ⟨by omega, fun j hj => ot3 j (by omega)⟩
        obtain ⟨A, hA⟩ : ∃ A : Nat → Bool, A = fun j => decide (j < t3.next) := ⟨_, rfl⟩
        have hAl : ∀ j, A j = true → j < t3.next := by
          intro j h
          rw [hA] at h
          exact of_decide_eq_true h
        have hAo : ∀ j, j < t3.next → A j = true := fun j h => by rw [hA]; exact decide_eq_true h
        refine LB.Drawn.looseK A hAl 1 1 (by kernel_rfl) (by kernel_rfl) ?_
        have hsp := Stay.spare t3 1
        have hnT : (spare t3 1).next = t3.next + 1 := spare_next _ _
        have hlK : ∀ q, LA.lowV A (some (.pointer (some ⟨kp, q, some 6⟩))) = true := fun q => LA.lowV_ptr (A := A) (i := kp) (hAo _ ht3.lt)
        have lK : loadA Try.prog (spare t3 1) 28 (.pointer (some ⟨kp, 3, some 6⟩)) = some lv := (ht3.keeps hsp).load agLs (off := 3) (c := 6) rfl (by simp)
        simp (config := { maxSteps := 1000000, implicitDefEqProofs := false }) (disch := omega) only [allW, allR, allL, allB, Nat.sub_self, Nat.add_one_sub_one, Nat.reduceSub, oneOf, evalAll, partsA, optA, Nat.reduceLT, Nat.reduceLeDiff, Nat.reduceEqDiff, Nat.reduceAdd, ↓reduceIte, hn, h10, of3, hlK, lK, ol.self]
        refine (rref_eq (spare t3 1) _).mono ?_
        rintro _ t4 ⟨rfl, k4⟩
        have j4 := k4.next
        refine ⟨fun _ => LA.Stay.toA hAl (k4.weaken (by omega)), ?_⟩
        simp (config := { maxSteps := 1000000, implicitDefEqProofs := false }) (disch := omega) only [allW, allR, allL, allB, Nat.sub_self, Nat.add_one_sub_one, Nat.reduceSub, oneOf, evalAll, partsA, optA, Nat.reduceLT, Nat.reduceLeDiff, Nat.reduceEqDiff, Nat.reduceAdd, ↓reduceIte, hn, h10, buildAgg1 (cs := (bareC (9, (g.items.length : Int) + 1)).toArray) Try.underlying28 szO zO plO rfl rfl (by decide)]
        refine LB.smake_newSlice (base := t3.next) rfl (by omega) (Nat.le_refl _) ?_
        intro x5 t5 hx5 hi5 k5 nx5 ot5
        have s35 : Stay t3.next t3 t5 := (hsp.trans (k4.weaken (by omega))).trans k5
        have hlvi : ∀ j, idOf lv = some j → t.next ≤ j ∧ j < t1.next := fun j hj => ⟨fl j hj, ol.idlt j hj⟩
        have ol5 : Own t5 5 lv kl.length lc := ((ol.keeps kt2).ofPut nx3 ot3 (fun e => by have := hlvi _ e; omega)).keeps (s35.weaken (by omega))
        simp (config := { maxSteps := 1000000, implicitDefEqProofs := false }) (disch := omega) only [allW, allR, allL, allB, Nat.sub_self, Nat.add_one_sub_one, Nat.reduceSub, oneOf, evalAll, partsA, optA, Nat.reduceLT, Nat.reduceLeDiff, Nat.reduceEqDiff, Nat.reduceAdd, ↓reduceIte, hn, h10, of3, hx5.self]
        refine LB.sstep_append Try.underlying28 Try.underlying28 (.inl ⟨_, rfl⟩) szO byO zO rfl ol5 hx5.sees.src rfl (by decide) rfl (by omega) (by omega) (base := t.next) fl (by omega) (fun h => absurd rfl h) (fun j hj => by have := hAl j hj; omega) ?_
        intro lv' t6 ol6 fl6 hu6 hor6
        have n6 := hu6.next
        have hlv6 : ∀ j, idOf lv' = some j → t.next ≤ j ∧ j ≠ kp := fun j hj => by
          rcases hor6 with q | ⟨y, q1, q2⟩
          · rw [q] at hj; have := hlvi j hj; omega
          · rw [q1] at hj; injection hj with hj; omega
        simp (config := { maxSteps := 1000000, implicitDefEqProofs := false }) (disch := omega) only [allW, allR, allL, allB, Nat.sub_self, Nat.add_one_sub_one, Nat.reduceSub, oneOf, evalAll, partsA, optA, Nat.reduceLT, Nat.reduceLeDiff, Nat.reduceEqDiff, Nat.reduceAdd, ↓reduceIte, hn, h10, of3, ol6.self]
        refine LB.sstep_storeN szLs (by decide) ((ht3.keeps s35).turns hu6 (fun e => by have := hlvi _ e; omega)) (off := 3) (c := 6) rfl (vs := [lv']) ol6.sees.cell1 rfl (by simp) (by simp [ol6.sees.okCell]) (fun h => absurd rfl h) ?_
        intro t7 ht7 nx7 ot7
        have ht7 : Thing t7 kp [.int .i64 k, .int .i64 n, bv, lv', dv] := ht7
        have st7 : Stay t.next t t7 := ((st3.trans (s35.weaken (by omega))).trans (hu6.keeps fl (by omega))).trans ⟨by omega, fun j hj => ot7 j (by omega)⟩
        have ok7 : OIs (fun j => t.next ≤ j ∧ j ≠ kp) t7 [.int .i64 k, .int .i64 n, bv, lv', dv] (kidsOf o (g.items.length + 1)) := by
          have hc : Go.Cl.Calm (fun j => (t.next ≤ j ∧ idOf lv ≠ some j) ∧ j < t1.next) t1 t7 := by
            have c1 : Go.Cl.Calm (fun j => (t.next ≤ j ∧ idOf lv ≠ some j) ∧ j < t1.next) t1 t2 := Go.Cl.Calm.ofStay kt2
            have c2 : Go.Cl.Calm (fun j => (t.next ≤ j ∧ idOf lv ≠ some j) ∧ j < t1.next) t2 t3 := Go.Cl.Calm.ofPut nx3 ot3 (fun q => by omega)
            have c3 : Go.Cl.Calm (fun j => (t.next ≤ j ∧ idOf lv ≠ some j) ∧ j < t1.next) t3 t5 := Go.Cl.Calm.ofStay s35
            have c4 : Go.Cl.Calm (fun j => (t.next ≤ j ∧ idOf lv ≠ some j) ∧ j < t1.next) t5 t6 := Go.Cl.Calm.ofTurns hu6 fun j hj => hj.1.2
            have c5 : Go.Cl.Calm (fun j => (t.next ≤ j ∧ idOf lv ≠ some j) ∧ j < t1.next) t6 t7 := Go.Cl.Calm.ofPut nx7 ot7 (fun q => by omega)
            exact (((c1.trans c2).trans c3).trans c4).trans c5
          have hm : ∀ j, (t.next ≤ j ∧ idOf lv ≠ some j) ∧ j < t1.next → t.next ≤ j ∧ j ≠ kp := fun j hj => ⟨hj.1.1, by omega⟩
          have hko : kidsOf o (g.items.length + 1) = .mk k n kb (kl ++ [.mk 9 ((g.items.length : Int) + 1) [] [] []]) kd := by unfold kidsOf; rw [hK]; rfl
          rw [hko]
          have gb := Foot.below sb fb
          have gd := Foot.below sd' fd
          have rl1 := rl.below rowedO
          have rd1 := rd.below rowedE
          have rl7 : ORows OIs 5 (fun j => t.next ≤ j ∧ j ≠ kp) t7 kl lc := ⟨rl1.len, fun q hq => ((rl1.row q hq).calm hc).mono hm⟩
          have rd7 : ORows EntIs 6 (fun j => t.next ≤ j ∧ j ≠ kp) t7 kd dc := ⟨rd1.len, fun q hq => by obtain ⟨y, y1, y2, y3⟩ := rd1.row q hq; exact ⟨y, y1, (y2.calm hc).mono hm, y3⟩⟩
          refine OIs.whole (sb.calm gb hc) ?_ (sd'.calm gd hc) (gb.mono hm) (Foot.of_id hlv6) (gd.mono hm) (rl7.snoc (cs := bareC (9, (g.items.length : Int) + 1)) rfl (OIs.bare _ _ _ _)) rd7
          have := ol6.sees.ofPut nx7 ot7 (fun e => (hlv6 _ e).2 rfl)
          simpa using this
        have skids : Small (kidsOf o (g.items.length + 1)) := (kids_flat hfo _).small (by omega)
        simp (config := { maxSteps := 1000000, implicitDefEqProofs := false }) (disch := omega) only [allW, allR, allL, allB, Nat.sub_self, Nat.add_one_sub_one, Nat.reduceSub, oneOf, evalAll, partsA, optA, Nat.reduceLT, Nat.reduceLeDiff, Nat.reduceEqDiff, Nat.reduceAdd, ↓reduceIte, allW, allR, oneOf, evalAll, partsA, optA, Nat.reduceLT, Nat.reduceLeDiff, Nat.reduceEqDiff, Nat.reduceAdd, ↓reduceIte, hn]
        clear hA hAl hAo A hsp hnT hlK lK
        obtain ⟨A, hA⟩ : ∃ A : Nat → Bool, A = fun j => decide (j < t7.next) := ⟨_, rfl⟩
        have hAl : ∀ j, A j = true → j < t7.next := by
          intro j h
          rw [hA] at h
          exact of_decide_eq_true h
        have hAo : ∀ j, j < t7.next → A j = true := fun j h => by rw [hA]; exact decide_eq_true h
        refine LB.Drawn.looseK A hAl 2 1 (by kernel_rfl) (by kernel_rfl) ?_
        have hsp := Stay.spare t7 1
        have hnT : (spare t7 1).next = t7.next + 1 := spare_next _ _
        have n7 := st7.next
        have hxi := hGt.its.elem_id ep
        have hlK : ∀ q, LA.lowV A (some (.pointer (some ⟨kp, q, some 6⟩))) = true := fun q => LA.lowV_ptr (A := A) (i := kp) (hAo _ ht7.lt)
        have hlX : ∀ q, LA.lowV A (some (.pointer (some ⟨xi, q, some xc⟩))) = true := fun q => LA.lowV_ptr (A := A) (i := xi) (hAo _ (by omega))
        have lK := Thing.loadO (ht7.keeps hsp) rfl
        have lP7 : loadA Try.prog (spare t7 1) 31 (.pointer (some ⟨xi, xo + 1, some xc⟩)) = some (.agg r.toArray) := by
          have := (hGt.its.sees.keeps (st7.trans (hsp.weaken n7))).loadPart (P := Try.prog) agO szO hatl (j := 1) (by omega)
          rw [ep, ← hr] at this
          exact this
        simp (config := { maxSteps := 1000000, implicitDefEqProofs := false }) (disch := omega) only [allW, allR, allL, allB, Nat.sub_self, Nat.add_one_sub_one, Nat.reduceSub, oneOf, evalAll, partsA, optA, Nat.reduceLT, Nat.reduceLeDiff, Nat.reduceEqDiff, Nat.reduceAdd, ↓reduceIte, hn, h14, if1, hlK, hlX, lK, lP7, ok7.self, hro.self, valEq_pointer]
        refine (rpair_any (lib := libN) rfl rfl rfl _ (spare t7 1) kKids _ _ (ok7.keeps hsp) skids).mono ?_
        rintro _ t8 ⟨p8, rfl, ev8, k8⟩
        have j8 := k8.next
        refine ⟨fun _ => LA.Stay.toA hAl (k8.weaken (by omega)), ?_⟩
        have q8 := ev8.len
        simp (config := { maxSteps := 1000000, implicitDefEqProofs := false }) (disch := omega) only [allW, allR, allL, allB, Nat.sub_self, Nat.add_one_sub_one, Nat.reduceSub, oneOf, evalAll, partsA, optA, Nat.reduceLT, Nat.reduceLeDiff, Nat.reduceEqDiff, Nat.reduceAdd, ↓reduceIte, hn, h14, if1, buildAgg1 (cs := (.string ⟨kKids.toArray⟩ :: p8).toArray) Try.underlying29 szE zE plE rfl (by simp [q8]) (by decide)]
        refine LB.smake_newSlice (base := t7.next) (by simp [q8]) (by omega) (Nat.le_refl _) ?_
        intro x9 t9 hx9 hi9 k9 nx9 ot9
        have s79 : Stay t7.next t7 t9 := (hsp.trans (k8.weaken (by omega))).trans k9
        simp (config := { maxSteps := 1000000, implicitDefEqProofs := false }) (disch := omega) only [allW, allR, allL, allB, Nat.sub_self, Nat.add_one_sub_one, Nat.reduceSub, oneOf, evalAll, partsA, optA, Nat.reduceLT, Nat.reduceLeDiff, Nat.reduceEqDiff, Nat.reduceAdd, ↓reduceIte, hn, h14, if1, hx9.self]
        refine (rset_any libRP (fun _ => True) t9 r o ((hro.keeps (st7.trans (s79.weaken n7))).mono fun _ _ => trivial) hso x9 [(kKids, kidsOf o (g.items.length + 1))] _ hx9.sees (entRow ((ev8.putLow nx9 ot9 fun j hj => by omega).mono fun _ _ => trivial) (by decide)) (by simp) (fun e he => by simp at he; subst he; exact skids)).mono ?_
        rintro _ ta ⟨ca, rfl, oa, ka⟩
        have ja := ka.next
        refine ⟨fun _ => LA.Stay.toA hAl (ka.weaken (by omega)), ?_⟩
        have oa : OIs (fun j => t9.next ≤ j) ta ca (upKids o (g.items.length + 1)) := oa
        have sta : Stay t.next t ta := (st7.trans (s79.weaken n7)).trans (ka.weaken (by omega))
        have hGa := hGt.keeps sta
        obtain ⟨tb, hsb, hxb, hub⟩ := hGa.its.putN (P := Try.prog) (e := 31) szO (by decide) hatl (j := 1) (by omega) (w := .agg ca.toArray) (vs := ca) rfl oa.len oa.ok (p := .pointer (some ⟨xi, xo + 1, some xc⟩)) (fun i' o' c' e' => by
          rw [ep] at e'
          injection e' with e'
          injection e' with e'
          injection e' with e1 e2 e3
          injection e3 with e3
          rw [e1, e2, e3])
        rw [hsb, uOf_some, LB.sstep_val]
        refine ⟨fun hg => absurd rfl hg, ?_⟩
        have jta := sta.next
        have jkt := kt.next
        have hidx := hG.its.idlt
        have hGb := hGa.item hatl hxb hub oa.lows (fun j hj => by
          obtain ⟨y1, y2⟩ := hGt.news (j := j) (by omega)
          exact ⟨y1, hj.2, y2⟩)
        obtain ⟨F1, hF1⟩ : ∃ F1 : Nat → Prop, F1 = fun j => F j ∨ (t9.next ≤ j ∧ j < ta.next) := ⟨_, rfl⟩
        rw [← hF1] at hGb
        obtain ⟨lx1, hlx1⟩ : ∃ lx1, lx1 = over lx (at' * 6 + 1) ca := ⟨_, rfl⟩
        rw [← hlx1] at hGb
        have nub := hub.next
        have htob : Thing tb op cs := (hto.keeps sta).turns hub (fun e => by have := hidx _ e; omega)
        have hoib : OIs (fun j => m.next ≤ j ∧ j ≠ op) tb cs (newO c) := (hoi.keeps sta).turns hub (fun j hj e => by have := hidx _ e; omega)
        have smb : Stay s1.next m tb := ((kt.weaken (by have := km.next; omega)).trans (sta.weaken (by have := km.next; omega))).trans (hub.keeps (fun j hj => (hG.xF j hj).1) (by have := km.next; omega))
        have lIb := db_items hGb.doc qd
        have lOb := Thing.loadO htob hoib.len
        have nkm := km.next
        simp (config := { maxSteps := 1000000, implicitDefEqProofs := false }) (disch := omega) only [allW, allR, allL, allB, Nat.sub_self, Nat.add_one_sub_one, Nat.reduceSub, oneOf, evalAll, partsA, optA, Nat.reduceLT, Nat.reduceLeDiff, Nat.reduceEqDiff, Nat.reduceAdd, ↓reduceIte, allW, allR, oneOf, evalAll, partsA, optA, Nat.reduceLT, Nat.reduceLeDiff, Nat.reduceEqDiff, Nat.reduceAdd, ↓reduceIte, hn, h5, h10, h13, df4, lIb, lOb, bItem _ hoib.len, buildAgg1 (cs := (Value.int .i64 ((g.items.length : Int) + 1) :: cs).toArray) Try.underlying32 szI zI plI rfl (by simp [hoib.len]) (by decide)]
        refine wstep_newSlice (by simp [hoib.len]) ?_
        intro xd td hxd _ kd'
        have hGd := hGb.keeps kd'
        have ntd := kd'.next
        have hlen1 : (g.items.set at' (g.items[at'].1, upKids o (g.items.length + 1))).length = g.items.length := List.length_set
        simp (config := { maxSteps := 1000000, implicitDefEqProofs := false }) (disch := omega) only [allW, allR, oneOf, evalAll, partsA, optA, Nat.reduceLT, Nat.reduceLeDiff, Nat.reduceEqDiff, Nat.reduceAdd, ↓reduceIte, hn]
        refine wstep_append Try.underlying32 Try.underlying32 (.inl ⟨_, rfl⟩) szI byI zI rfl hGd.its hxd.sees.src (by simp [hoib.len]) (by decide) (by rw [List.all_cons, hoib.ok]; rfl) (by show ((g.items.set at' (g.items[at'].1, upKids o (g.items.length + 1))).length + 1) * 96 ≤ _; omega) (by show (g.items.set at' (g.items[at'].1, upKids o (g.items.length + 1))).length + 1 ≤ _; omega) (base := s1.next) (fun j hj => (hG.xF j hj).1) (by omega) ?_
        intro x2 te2 hx2 _ ke2 hue hore
        have nte := hue.next
        have hx2i : idOf x2 ≠ some sd.next := fun e => by
          rcases hore with q | ⟨y, q1, q2⟩
          · rw [q] at e; exact (hG.xF _ e).2 rfl
          · rw [q1] at e; injection e with e; have := hGd.doc.lt; omega
        simp (config := { maxSteps := 1000000, implicitDefEqProofs := false }) (disch := omega) only [allW, allR, oneOf, evalAll, partsA, optA, Nat.reduceLT, Nat.reduceLeDiff, Nat.reduceEqDiff, Nat.reduceAdd, ↓reduceIte, hn, h5, df4]
        refine wstep_storeN szIs (by decide) (hGd.doc.turns hue (fun e => (hG.xF _ e).2 rfl)) (off := 8) (c := 10) (by simp [docC, qd]) (vs := [x2]) hx2.sees.cell1 rfl (by simp [docC, qd]) (by simp [hx2.sees.okCell]) ?_
        intro tf2 htf2 nxf2 otf2
        rw [doc_over qd] at htf2
        have hn' : ((g.items.length + 1 : Nat) : Int) = (g.items.length : Int) + 1 := by omega
        have hGe := hGd.push (G := fun j => (m.next ≤ j ∧ j ≠ op) ∧ j < tb.next) (cs := .int .i64 ((g.items.length : Int) + 1) :: cs) (e := (((g.items.length + 1 : Nat) : Int), newO c)) hx2 hue hore ⟨cs, by rw [hn'], hoib.lows.keeps kd'⟩ (fun j hj => by
          obtain ⟨y1, y2⟩ := hG.news (j := j) hj.1.1
          exact ⟨y1, by omega, y2⟩) nxf2 otf2 htf2
        obtain ⟨F2, hF2⟩ : ∃ F2 : Nat → Prop, F2 = fun j => F1 j ∨ ((m.next ≤ j ∧ j ≠ op) ∧ j < tb.next) := ⟨_, rfl⟩
        rw [← hF2] at hGe
        have hIS : g.items.set at' (g.items[at'].1, upKids o (g.items.length + 1)) ++ [(((g.items.length + 1 : Nat) : Int), newO c)] = itemsS g c := by
          unfold itemsS
          rw [← hat, ho, List.getD_eq_getElem?_getD, List.getElem?_eq_getElem hatl]; rfl
        have hGf : GrIs s1.next F2 tf2 sd.next tc x2 w u p (lx1 ++ .int .i64 ((g.items.length : Int) + 1) :: cs) ⟨itemsS g c, g.way, g.turns, g.want⟩ := by rw [← hIS]; exact hGe
        have smf : Stay s1.next s1 tf2 := ((km.trans smb).trans ((kd'.weaken (by omega)).trans ke2)).trans ⟨by omega, fun j hj => otf2 j (by omega)⟩
        have hldf := ((hv.keeps hst1).keeps smf).load1 (P := Try.prog) agU8 hlt
        rw [ofBytes_getD hlt, ← hc] at hldf
        have nf1 := smf.next
        by_cases h8d : c % 8 < 2
        · have d6 : ((c % 8 : Nat) : Int) < 2 := by omega
          have hgg : growS g c = ⟨itemsS g c, g.way ++ [g.items.length], g.turns ++ [turnS g c], g.want⟩ := by unfold growS; rw [if_neg h82, if_pos h8d]
          simp (config := { maxSteps := 1000000, implicitDefEqProofs := false }) (disch := omega) only [allW, allR, oneOf, evalAll, partsA, optA, Nat.reduceLT, Nat.reduceLeDiff, Nat.reduceEqDiff, Nat.reduceAdd, ↓reduceIte, hn, h0, h7, h8, h9, h10, h12, hix, hldf, br8, e8, eq_true d6, wrapI, Int.add_sub_cancel, build1 Try.underlying91 szInt zInt]
          refine wstep_newSlice (by rfl) ?_
          intro y1 r1 hy1 _ kr1
          have hGg := hGf.keeps kr1
          simp (config := { maxSteps := 1000000, implicitDefEqProofs := false }) (disch := omega) only [allW, allR, oneOf, evalAll, partsA, optA, Nat.reduceLT, Nat.reduceLeDiff, Nat.reduceEqDiff, Nat.reduceAdd, ↓reduceIte, hn, h8, h12]
          refine wstep_appendPre Try.underlying91 Try.underlying91 (.inl ⟨_, rfl⟩) szInt byInt zInt rfl hGg.way hy1.sees.src rfl (by decide) rfl (by show (g.way.length + 1) * 8 ≤ _; omega) (by show g.way.length + 1 ≤ _; omega) (base := s1.next) (fun j hj => (hGg.wF j hj).1) (by have := kr1.next; omega) ?_
          intro w2 r2 hw2 _ kr2 hur2 horr2
          simp (config := { maxSteps := 1000000, implicitDefEqProofs := false }) (disch := omega) only [allW, allR, oneOf, evalAll, partsA, optA, Nat.reduceLT, Nat.reduceLeDiff, Nat.reduceEqDiff, Nat.reduceAdd, ↓reduceIte, hn, h8, h12, build1 Try.underlying91 szInt zInt]
          refine wstep_newSlice (by rfl) ?_
          intro y3 r3 hy3 _ kr3
          have hu3 := (hGg.turns.turns hur2 (fun j hj => (hGg.tF j hj).2.2.2)).keeps kr3
          simp (config := { maxSteps := 1000000, implicitDefEqProofs := false }) (disch := omega) only [allW, allR, oneOf, evalAll, partsA, optA, Nat.reduceLT, Nat.reduceLeDiff, Nat.reduceEqDiff, Nat.reduceAdd, ↓reduceIte, hn]
          refine wstep_appendPre Try.underlying91 Try.underlying91 (.inl ⟨_, rfl⟩) szInt byInt zInt rfl hu3 hy3.sees.src rfl (by decide) rfl (by show (g.turns.length + 1) * 8 ≤ _; omega) (by show g.turns.length + 1 ≤ _; omega) (base := s1.next) (fun j hj => (hGg.tF j hj).1) (by have := kr1.next; have := kr2.next; have := kr3.next; omega) ?_
          intro u2 r4 hu4 _ kr4 hur4 horr4
          have hGh := hGg.go (n := g.items.length) (r := turnS g c) hw2 hur2 horr2 hu4 (hur4.after kr3) (horr4.imp id (fun ⟨y, q1, q2⟩ => ⟨y, q1, by have := kr3.next; omega⟩))
          have j1 := kr1.next
          have j2 := kr2.next
          simp (config := { maxSteps := 1000000, implicitDefEqProofs := false }) (disch := omega) only [allW, allR, oneOf, evalAll, partsA, optA, Nat.reduceLT, Nat.reduceLeDiff, Nat.reduceEqDiff, Nat.reduceAdd, ↓reduceIte, hn, h9, wrapI]
          refine wround_next (b.length - (i + 1)) (by omega) ⟨i + 1, F2, x2, w2, u2, p, lx1 ++ .int .i64 ((g.items.length : Int) + 1) :: cs, rfl, by omega, ?_, ((smf.trans (kr1.weaken (by omega))).trans kr2).trans ((kr3.weaken (by omega)).trans kr4), by simp only [get_put, n_put, ↓reduceIte, Nat.reduceEqDiff, hn], by simp only [get_put, n_put, ↓reduceIte, Nat.reduceEqDiff, h0], by simp only [get_put, n_put, ↓reduceIte, Nat.reduceEqDiff, h2], by simp only [get_put, n_put, ↓reduceIte, Nat.reduceEqDiff, h5], by simp only [get_put, n_put, ↓reduceIte, Nat.reduceEqDiff, h6], by simp only [get_put, n_put, ↓reduceIte, Nat.reduceEqDiff], by simp only [get_put, n_put, ↓reduceIte, Nat.reduceEqDiff], by simp only [get_put, n_put, ↓reduceIte, Nat.reduceEqDiff]; rfl⟩
          rw [hgi, hgg]
          exact hGh
        · have d6 : ¬ ((c % 8 : Nat) : Int) < 2 := by omega
          have hgg : growS g c = ⟨itemsS g c, g.way, g.turns, g.want ++ [(g.items.length + 1, turnS g c)]⟩ := by unfold growS; rw [if_neg h82, if_neg h8d]
          simp (config := { maxSteps := 1000000, implicitDefEqProofs := false }) (disch := omega) only [allW, allR, oneOf, evalAll, partsA, optA, Nat.reduceLT, Nat.reduceLeDiff, Nat.reduceEqDiff, Nat.reduceAdd, ↓reduceIte, hn, h0, h6, h9, h10, h12, hix, hldf, br8, e8, eq_false d6, wrapI, bLfW, bPgW, buildAgg1 (cs := (lfC Z4 Z4 (turnS g c) noneC ++ (.int .i64 ((g.items.length : Int) + 1) :: noneC)).toArray) Try.underlying44 szRp zRp plRpW rfl rfl (by decide)]
          refine wstep_newSlice (by rfl) ?_
          intro y1 r1 hy1 _ kr1
          have hGg := hGf.keeps kr1
          simp (config := { maxSteps := 1000000, implicitDefEqProofs := false }) (disch := omega) only [allW, allR, oneOf, evalAll, partsA, optA, Nat.reduceLT, Nat.reduceLeDiff, Nat.reduceEqDiff, Nat.reduceAdd, ↓reduceIte, hn]
          refine wstep_append Try.underlying44 Try.underlying44 (.inl ⟨_, rfl⟩) szRp byRp zRp rfl hGg.want hy1.sees.src rfl (by decide) rfl (by show (g.want.length + 1) * 256 ≤ _; omega) (by show g.want.length + 1 ≤ _; omega) (base := s1.next) (fun j hj => (hGg.pF j hj).1) (by have := kr1.next; omega) ?_
          intro p2 r2 hp2 _ kr2 hur2 horr2
          have hGh := hGg.wants (e := (g.items.length + 1, turnS g c)) (by
            have : wpC (g.items.length + 1, turnS g c) = lfC Z4 Z4 (turnS g c) noneC ++ (.int .i64 ((g.items.length : Int) + 1) :: noneC) := by unfold wpC; rw [hn']
            rw [this]; exact hp2) hur2 horr2
          have j1 := kr1.next
          simp (config := { maxSteps := 1000000, implicitDefEqProofs := false }) (disch := omega) only [allW, allR, oneOf, evalAll, partsA, optA, Nat.reduceLT, Nat.reduceLeDiff, Nat.reduceEqDiff, Nat.reduceAdd, ↓reduceIte, hn, h9, wrapI]
          refine wround_next (b.length - (i + 1)) (by omega) ⟨i + 1, F2, x2, w, u, p2, lx1 ++ .int .i64 ((g.items.length : Int) + 1) :: cs, rfl, by omega, ?_, (smf.trans (kr1.weaken (by omega))).trans kr2, by simp only [get_put, n_put, ↓reduceIte, Nat.reduceEqDiff, hn], by simp only [get_put, n_put, ↓reduceIte, Nat.reduceEqDiff, h0], by simp only [get_put, n_put, ↓reduceIte, Nat.reduceEqDiff, h2], by simp only [get_put, n_put, ↓reduceIte, Nat.reduceEqDiff, h5], by simp only [get_put, n_put, ↓reduceIte, Nat.reduceEqDiff], by simp only [get_put, n_put, ↓reduceIte, Nat.reduceEqDiff, h7], by simp only [get_put, n_put, ↓reduceIte, Nat.reduceEqDiff, h8], by simp only [get_put, n_put, ↓reduceIte, Nat.reduceEqDiff]; rfl⟩
          rw [hgi, hgg]
          exact hGh
      by_cases hb : c / 64 % 2 = 1
      · have d4 : ¬ ((c / 64 % 2 * 64 : Nat) : Int) = 0 := by omega
        have hot : ownT c = some (90 * ((c / 8 % 4 : Nat) : Int)) := by unfold ownT; rw [if_pos hb]
        have hTc : turnS g c = 90 * ((c / 8 % 4 : Nat) : Int) := by unfold turnS; rw [hot]; rfl
        have hq4 : ((c / 8 % 4 : Nat) : Int) < 4 := by omega
        have cvi : convA Try.prog t 5 3 (.int .u8 ((c / 8 % 4 : Nat) : Int)) = some (.int .i64 ((c / 8 % 4 : Nat) : Int), t) := by rw [conv_int Try.underlying5 Try.underlying3, wrapI (by omega)]
        simp (config := { maxSteps := 1000000, implicitDefEqProofs := false }) (disch := omega) only [allW, allR, oneOf, evalAll, partsA, optA, Nat.reduceLT, Nat.reduceLeDiff, Nat.reduceEqDiff, Nat.reduceAdd, ↓reduceIte, hn, h0, h9, hix, hldt, bs, ba3, cvi, eq_false d4, wrapI]
        obtain ⟨A, hA⟩ : ∃ A : Nat → Bool, A = fun j => decide (j < t.next) := ⟨_, rfl⟩
        have hAl : ∀ j, A j = true → j < t.next := by
          intro j h
          rw [hA] at h
          exact of_decide_eq_true h
        have hAo : ∀ j, j < t.next → A j = true := fun j h => by rw [hA]; exact decide_eq_true h
        refine LB.Drawn.looseK A hAl 3 1 (by kernel_rfl) (by kernel_rfl) ?_
        have hsp := Stay.spare t 1
        have hnT : (spare t 1).next = t.next + 1 := spare_next _ _
        have hlO : ∀ k, LA.lowV A (some (.pointer (some ⟨op, k, some 6⟩))) = true := fun k => LA.lowV_ptr (A := A) (i := op) (hAo _ hto.lt)
        have lO := Thing.loadO (hto.keeps hsp) hoi.len
        simp (config := { maxSteps := 1000000, implicitDefEqProofs := false }) (disch := omega) only [allW, allR, allL, allB, Nat.sub_self, Nat.add_one_sub_one, Nat.reduceSub, oneOf, evalAll, partsA, optA, Nat.reduceLT, Nat.reduceLeDiff, Nat.reduceEqDiff, Nat.reduceAdd, ↓reduceIte, hn, h12, h13, hlO, lO, hoi.self, wrapI]
        refine (rint_eq (spare t 1) _).mono ?_
        rintro _ t1 ⟨rfl, k1⟩
        have j1 := k1.next
        refine ⟨fun _ => LA.Stay.toA hAl (k1.weaken (by omega)), ?_⟩
        refine (rpair_any (lib := libN) rfl rfl rfl (fun _ => True) t1 kRot _ (turnO (90 * ((c / 8 % 4 : Nat) : Int))) (OIs.bare _ _ 2 _) (Small.bare 2 _)).mono ?_
        rintro _ t2 ⟨p2, rfl, e2, k2⟩
        have j2 := k2.next
        refine ⟨fun _ => LA.Stay.toA hAl (k2.weaken (by omega)), ?_⟩
        have q2 := e2.len
        simp (config := { maxSteps := 1000000, implicitDefEqProofs := false }) (disch := omega) only [allW, allR, allL, allB, Nat.sub_self, Nat.add_one_sub_one, Nat.reduceSub, oneOf, evalAll, partsA, optA, Nat.reduceLT, Nat.reduceLeDiff, Nat.reduceEqDiff, Nat.reduceAdd, ↓reduceIte, hn, h12, h13, buildAgg1 (cs := (.string ⟨kRot.toArray⟩ :: p2).toArray) Try.underlying29 szE zE plE rfl (by simp [q2]) (by decide)]
        refine LB.smake_newSlice (base := t.next) (by simp [q2]) (by omega) (Nat.le_refl _) ?_
        intro x3 t3 hx3 hi3 k3 nx3 ot3
        have s03 : Stay t.next t t3 := ((hsp.trans (k1.weaken (by omega))).trans (k2.weaken (by omega))).trans k3
        simp (config := { maxSteps := 1000000, implicitDefEqProofs := false }) (disch := omega) only [allW, allR, allL, allB, Nat.sub_self, Nat.add_one_sub_one, Nat.reduceSub, oneOf, evalAll, partsA, optA, Nat.reduceLT, Nat.reduceLeDiff, Nat.reduceEqDiff, Nat.reduceAdd, ↓reduceIte, hn, h12, h13, hx3.self]
        refine (rset_any libRP (fun _ => True) t3 cs (bareN c) ((hoi.keeps s03).mono fun _ _ => trivial) ((bareN_flat c).small (by decide)) x3 [(kRot, turnO (90 * ((c / 8 % 4 : Nat) : Int)))] _ hx3.sees (entRow ((e2.putLow nx3 ot3 fun j hj => by omega).mono fun _ _ => trivial) (by decide)) (by simp) (fun e he => by simp at he; subst he; exact Small.bare 2 _)).mono ?_
        rintro _ t4 ⟨c4, rfl, o4, k4⟩
        have j4 := k4.next
        refine ⟨fun _ => LA.Stay.toA hAl (k4.weaken (by omega)), ?_⟩
        have hnO : setO (bareN c) [(kRot, turnO (90 * ((c / 8 % 4 : Nat) : Int)))] = newO c := by unfold newO; rw [hot]
        rw [hnO] at o4
        refine LB.sstep_storeAll szO (by decide) (hto.keeps (s03.trans (k4.weaken (by omega)))) hoi.len rfl o4.len o4.ok (fun h => absurd rfl h) ?_
        intro t5 ht5 nx5 ot5
        have ht5 : Thing t5 op c4 := ht5
        have s05 : Stay m.next m t5 := ((kt.trans (s03.weaken kt.next)).trans (k4.weaken (by have := kt.next; omega))).trans ⟨by omega, fun j hj => ot5 j (by omega)⟩
        have htop := hto.lt
        have ktn := kt.next
        simp (config := { maxSteps := 1000000, implicitDefEqProofs := false }) (disch := omega) only [allW, allR, allL, allB, Nat.sub_self, Nat.add_one_sub_one, Nat.reduceSub, oneOf, evalAll, partsA, optA, Nat.reduceLT, Nat.reduceLeDiff, Nat.reduceEqDiff, Nat.reduceAdd, ↓reduceIte, allW, allR, oneOf, evalAll, partsA, optA, Nat.reduceLT, Nat.reduceLeDiff, Nat.reduceEqDiff, Nat.reduceAdd, ↓reduceIte, hn, h0]
        exact tail2 _ _ c4 ht5 ((o4.turns (u := .pointer (some ⟨op, 0, none⟩)) (Turns.ofPut nx5 ot5) (fun j hj e => by
          have e : some op = some j := e
          injection e with e; omega)).mono fun j hj => ⟨by omega, by omega⟩) s05 (by simp only [get_put, n_put, ↓reduceIte, Nat.reduceEqDiff, hn]) (by simp only [get_put, n_put, ↓reduceIte, Nat.reduceEqDiff, h0]) (by simp only [get_put, n_put, ↓reduceIte, Nat.reduceEqDiff, h2]) (by simp only [get_put, n_put, ↓reduceIte, Nat.reduceEqDiff, h5]) (by simp only [get_put, n_put, ↓reduceIte, Nat.reduceEqDiff, h6]) (by simp only [get_put, n_put, ↓reduceIte, Nat.reduceEqDiff, h7]) (by simp only [get_put, n_put, ↓reduceIte, Nat.reduceEqDiff, h8]) (by simp only [get_put, n_put, ↓reduceIte, Nat.reduceEqDiff, h9]) (by simp only [get_put, n_put, ↓reduceIte, Nat.reduceEqDiff, h10]) (by simp only [get_put, n_put, ↓reduceIte, Nat.reduceEqDiff, h11]) (by rw [hTc]; simp only [get_put, n_put, ↓reduceIte, Nat.reduceEqDiff]) (by simp only [get_put, n_put, ↓reduceIte, Nat.reduceEqDiff, h13])
      · have d4 : ((c / 64 % 2 * 64 : Nat) : Int) = 0 := by omega
        have hot : ownT c = none := by unfold ownT; rw [if_neg hb]
        have hTc : turnS g c = T := by unfold turnS; rw [hot, hT]; rfl
        have hnO : newO c = bareN c := by unfold newO; rw [hot]
        simp (config := { maxSteps := 1000000, implicitDefEqProofs := false }) (disch := omega) only [allW, allR, oneOf, evalAll, partsA, optA, Nat.reduceLT, Nat.reduceLeDiff, Nat.reduceEqDiff, Nat.reduceAdd, ↓reduceIte, hn, h0, h9, hix, hldt, eq_true d4]
        exact tail2 _ _ cs hto (by rw [hnO]; exact hoi) kt (by simp only [get_put, n_put, ↓reduceIte, Nat.reduceEqDiff, hn]) (by simp only [get_put, n_put, ↓reduceIte, Nat.reduceEqDiff, h0]) (by simp only [get_put, n_put, ↓reduceIte, Nat.reduceEqDiff, h2]) (by simp only [get_put, n_put, ↓reduceIte, Nat.reduceEqDiff, h5]) (by simp only [get_put, n_put, ↓reduceIte, Nat.reduceEqDiff, h6]) (by simp only [get_put, n_put, ↓reduceIte, Nat.reduceEqDiff, h7]) (by simp only [get_put, n_put, ↓reduceIte, Nat.reduceEqDiff, h8]) (by simp only [get_put, n_put, ↓reduceIte, Nat.reduceEqDiff, h9]) (by simp only [get_put, n_put, ↓reduceIte, Nat.reduceEqDiff, h10]) (by simp only [get_put, n_put, ↓reduceIte, Nat.reduceEqDiff, h11]) (by rw [hTc]; simp only [get_put, n_put, ↓reduceIte, Nat.reduceEqDiff, h12]) (by simp only [get_put, n_put, ↓reduceIte, Nat.reduceEqDiff, h13])
    have ht6 : Thing m6 op c4 := by rw [hop]; exact ht6
    have o6 : OIs (fun j => m.next ≤ j ∧ j ≠ op) m6 c4 pageO := by
      have h1 := (o4.lows.keeps g5).turns (u := .pointer (some ⟨m4.next, 0, none⟩)) (Turns.ofPut hnx6 hot6) (fun j hj e => by
        have e : some m4.next = some j := e
        injection e with e; omega)
      exact h1.mono fun j hj => ⟨by omega, by omega⟩
    rw [← hop]
    by_cases h8c : c % 8 < 2
    · have d5 : ((c % 8 : Nat) : Int) < 2 := by omega
      have hbN : bareN c = nodeO := by unfold bareN; rw [if_pos h8c]
      simp (config := { maxSteps := 1000000, implicitDefEqProofs := false }) (disch := omega) only [allW, allR, oneOf, evalAll, partsA, optA, Nat.reduceLT, Nat.reduceLeDiff, Nat.reduceEqDiff, Nat.reduceAdd, ↓reduceIte, hn, eq_true d5]
      refine (rnameO_any (lib := libN) rfl m6 kPages (by decide)).mono ?_
      rintro _ m7 ⟨c7, rfl, o7, g7⟩
      refine wcall_reframe (fun f => f.n = 178 ∧ f.get 0 = v ∧ f.get 2 = .pointer (some ⟨s.next, 0, some 10⟩) ∧ f.get 5 = .pointer (some ⟨sd.next, 0, some 10⟩) ∧ f.get 6 = p ∧ f.get 7 = w ∧ f.get 8 = u ∧ f.get 9 = .int .i64 (i : Nat) ∧ f.get 10 = .int .i64 ((g.items.length : Int) + 1) ∧ f.get 11 = .int .i64 ((g.way.length : Int) - 1) ∧ f.get 12 = .int .i64 T ∧ f.get 13 = .pointer (some ⟨op, 0, some 6⟩)) ⟨by simp only [get_put, n_put, ↓reduceIte, Nat.reduceEqDiff, hn], by first | simp only [get_put, n_put, ↓reduceIte, Nat.reduceEqDiff, h0] | simp only [get_put, n_put, ↓reduceIte, Nat.reduceEqDiff], by first | simp only [get_put, n_put, ↓reduceIte, Nat.reduceEqDiff, h2] | simp only [get_put, n_put, ↓reduceIte, Nat.reduceEqDiff], by first | simp only [get_put, n_put, ↓reduceIte, Nat.reduceEqDiff, h5] | simp only [get_put, n_put, ↓reduceIte, Nat.reduceEqDiff], by first | simp only [get_put, n_put, ↓reduceIte, Nat.reduceEqDiff, h6] | simp only [get_put, n_put, ↓reduceIte, Nat.reduceEqDiff], by first | simp only [get_put, n_put, ↓reduceIte, Nat.reduceEqDiff, h7] | simp only [get_put, n_put, ↓reduceIte, Nat.reduceEqDiff], by first | simp only [get_put, n_put, ↓reduceIte, Nat.reduceEqDiff, h8] | simp only [get_put, n_put, ↓reduceIte, Nat.reduceEqDiff], by first | simp only [get_put, n_put, ↓reduceIte, Nat.reduceEqDiff, h9] | simp only [get_put, n_put, ↓reduceIte, Nat.reduceEqDiff], by first | simp only [get_put, n_put, ↓reduceIte, Nat.reduceEqDiff, h10] | simp only [get_put, n_put, ↓reduceIte, Nat.reduceEqDiff], by first | simp only [get_put, n_put, ↓reduceIte, Nat.reduceEqDiff, h11] | simp only [get_put, n_put, ↓reduceIte, Nat.reduceEqDiff], by first | simp only [get_put, n_put, ↓reduceIte, Nat.reduceEqDiff, h12] | simp only [get_put, n_put, ↓reduceIte, Nat.reduceEqDiff], by first | simp only [get_put, n_put, ↓reduceIte, Nat.reduceEqDiff, h13] | simp only [get_put, n_put, ↓reduceIte, Nat.reduceEqDiff]⟩ ?_
      rintro f ⟨hn, h0, h2, h5, h6, h7, h8, h9, h10, h11, h12, h13⟩
      simp (config := { maxSteps := 1000000, implicitDefEqProofs := false }) (disch := omega) only [allW, allR, oneOf, evalAll, partsA, optA, Nat.reduceLT, Nat.reduceLeDiff, Nat.reduceEqDiff, Nat.reduceAdd, ↓reduceIte, hn]
      refine (rpair_any (lib := libN) rfl rfl rfl _ m7 kType c7 _ o7 (small_name _ (by decide))).mono ?_
      rintro _ m8 ⟨p8, rfl, e8, g8⟩
      have q8 := e8.len
      simp (config := { maxSteps := 1000000, implicitDefEqProofs := false }) (disch := omega) only [allW, allR, oneOf, evalAll, partsA, optA, Nat.reduceLT, Nat.reduceLeDiff, Nat.reduceEqDiff, Nat.reduceAdd, ↓reduceIte, hn]
      refine (rarr_any (lib := libN) rfl rfl rfl (fun _ => True) m8 (.slice none 0 0) [] [] .nil ORows.nil (by simp) (fun x hx => by cases hx)).mono ?_
      rintro _ m9 ⟨c9, rfl, o9, g9⟩
      simp (config := { maxSteps := 1000000, implicitDefEqProofs := false }) (disch := omega) only [allW, allR, oneOf, evalAll, partsA, optA, Nat.reduceLT, Nat.reduceLeDiff, Nat.reduceEqDiff, Nat.reduceAdd, ↓reduceIte, hn]
      refine (rpair_any (lib := libN) rfl rfl rfl _ m9 kKids c9 _ o9 (Small.bare 6 0)).mono ?_
      rintro _ ma ⟨pa, rfl, ea, ga⟩
      have qa := ea.len
      simp (config := { maxSteps := 1000000, implicitDefEqProofs := false }) (disch := omega) only [allW, allR, oneOf, evalAll, partsA, optA, Nat.reduceLT, Nat.reduceLeDiff, Nat.reduceEqDiff, Nat.reduceAdd, ↓reduceIte, hn, buildAgg2 (a := (.string ⟨kType.toArray⟩ :: p8).toArray) (b := (.string ⟨kKids.toArray⟩ :: pa).toArray) Try.underlying29 szE zE plE rfl (by simp [q8]) (by simp [qa]) (by decide)]
      refine wstep_newSlice (by simp [q8, qa]) ?_
      intro xb mb hxb _ gb
      have n7 := g7.next
      have n8 := g8.next
      have n9 := g9.next
      have na := ga.next
      have nb := gb.next
      have s8b : Stay m8.next m8 mb := (g9.trans (ga.weaken (by omega))).trans (gb.weaken (by omega))
      have rowb : ORows EntIs 6 (fun _ => True) mb [(kType, .mk 5 0 kPages [] []), (kKids, .mk 6 0 [] [] [])] ((.string ⟨kType.toArray⟩ :: p8) ++ (.string ⟨kKids.toArray⟩ :: pa)) := by
        have r1 : EntIs (fun _ => True) mb (.string ⟨kType.toArray⟩ :: p8) (kType, .mk 5 0 kPages [] []) := ⟨p8, rfl, (e8.keeps s8b).mono fun _ _ => trivial, by decide⟩
        have r2 : EntIs (fun _ => True) mb (.string ⟨kKids.toArray⟩ :: pa) (kKids, .mk 6 0 [] [] []) := ⟨pa, rfl, (ea.keeps gb).mono fun _ _ => trivial, by decide⟩
        have := (ORows.nil.snoc (cs := .string ⟨kType.toArray⟩ :: p8) (by rw [List.length_cons, q8]) r1).snoc (cs := .string ⟨kKids.toArray⟩ :: pa) (by rw [List.length_cons, qa]) r2
        simpa using this
      simp (config := { maxSteps := 1000000, implicitDefEqProofs := false }) (disch := omega) only [allW, allR, oneOf, evalAll, partsA, optA, Nat.reduceLT, Nat.reduceLeDiff, Nat.reduceEqDiff, Nat.reduceAdd, ↓reduceIte, hn]
      refine (rdict_any libRP (fun _ => True) mb xb [(kType, .mk 5 0 kPages [] []), (kKids, .mk 6 0 [] [] [])] _ (by simpa using hxb.sees) rowb (by decide) (fun e he => by
        simp only [List.mem_cons, List.not_mem_nil, or_false] at he
        rcases he with rfl | rfl
        · exact small_name _ (by decide)
        · exact Small.bare 6 0)).mono ?_
      rintro _ mc ⟨cc, rfl, oc, gc⟩
      have nc := gc.next
      rw [putN2] at oc
      have oc : OIs (fun j => mb.next ≤ j) mc cc nodeO := oc
      have s6c : Stay m6.next m6 mc := ((g7.trans (g8.weaken (by omega))).trans (s8b.weaken (by omega))).trans (gc.weaken (by omega))
      have hop6 := ht6.lt
      simp (config := { maxSteps := 1000000, implicitDefEqProofs := false }) (disch := omega) only [allW, allR, oneOf, evalAll, partsA, optA, Nat.reduceLT, Nat.reduceLeDiff, Nat.reduceEqDiff, Nat.reduceAdd, ↓reduceIte, hn, h13]
      refine wstep_storeAll szO (by decide) (ht6.keeps s6c) q4 rfl oc.len oc.ok ?_
      intro md htd nxd otd
      have htd : Thing md op cc := htd
      simp (config := { maxSteps := 1000000, implicitDefEqProofs := false }) (disch := omega) only [allW, allR, oneOf, evalAll, partsA, optA, Nat.reduceLT, Nat.reduceLeDiff, Nat.reduceEqDiff, Nat.reduceAdd, ↓reduceIte, hn]
      have n06 := g06.next
      exact tail1 _ _ cc htd (by
        rw [hbN]
        exact (oc.turns (u := .pointer (some ⟨op, 0, none⟩)) (Turns.ofPut nxd otd) (fun j hj e => by
          have e : some op = some j := e
          injection e with e; omega)).mono fun j hj => ⟨by omega, by omega⟩) ((g06.trans (s6c.weaken (by omega))).trans ⟨by omega, fun j hj => otd j (by omega)⟩) (by simp only [get_put, n_put, ↓reduceIte, Nat.reduceEqDiff, hn]) (by simp only [get_put, n_put, ↓reduceIte, Nat.reduceEqDiff, h0]) (by simp only [get_put, n_put, ↓reduceIte, Nat.reduceEqDiff, h2]) (by simp only [get_put, n_put, ↓reduceIte, Nat.reduceEqDiff, h5]) (by simp only [get_put, n_put, ↓reduceIte, Nat.reduceEqDiff, h6]) (by simp only [get_put, n_put, ↓reduceIte, Nat.reduceEqDiff, h7]) (by simp only [get_put, n_put, ↓reduceIte, Nat.reduceEqDiff, h8]) (by simp only [get_put, n_put, ↓reduceIte, Nat.reduceEqDiff, h9]) (by simp only [get_put, n_put, ↓reduceIte, Nat.reduceEqDiff, h10]) (by simp only [get_put, n_put, ↓reduceIte, Nat.reduceEqDiff, h11]) (by simp only [get_put, n_put, ↓reduceIte, Nat.reduceEqDiff, h12]) (by simp only [get_put, n_put, ↓reduceIte, Nat.reduceEqDiff, h13])
    · have d5 : ¬ ((c % 8 : Nat) : Int) < 2 := by omega
      have hbN : bareN c = pageO := by unfold bareN; rw [if_neg h8c]
      simp (config := { maxSteps := 1000000, implicitDefEqProofs := false }) (disch := omega) only [allW, allR, oneOf, evalAll, partsA, optA, Nat.reduceLT, Nat.reduceLeDiff, Nat.reduceEqDiff, Nat.reduceAdd, ↓reduceIte, hn, eq_false d5]
      exact tail1 _ _ c4 ht6 (by rw [hbN]; exact o6) g06 (by simp only [get_put, n_put, ↓reduceIte, Nat.reduceEqDiff, hn]) (by simp only [get_put, n_put, ↓reduceIte, Nat.reduceEqDiff, h0]) (by simp only [get_put, n_put, ↓reduceIte, Nat.reduceEqDiff, h2]) (by simp only [get_put, n_put, ↓reduceIte, Nat.reduceEqDiff, h5]) (by simp only [get_put, n_put, ↓reduceIte, Nat.reduceEqDiff, h6]) (by simp only [get_put, n_put, ↓reduceIte, Nat.reduceEqDiff, h7]) (by simp only [get_put, n_put, ↓reduceIte, Nat.reduceEqDiff, h8]) (by simp only [get_put, n_put, ↓reduceIte, Nat.reduceEqDiff, h9]) (by simp only [get_put, n_put, ↓reduceIte, Nat.reduceEqDiff, h10]) (by simp only [get_put, n_put, ↓reduceIte, Nat.reduceEqDiff, h11]) (by simp only [get_put, n_put, ↓reduceIte, Nat.reduceEqDiff, h12]) (by simp only [get_put, n_put, ↓reduceIte, Nat.reduceEqDiff])
  clear hn h0 f G0
  rintro z f m ⟨rfl, F, x, w, u, p, lx, hG, km, hn, h2, h5, h6⟩
  have ld := db_all hG.doc qd
  have hDs : DocIs (fun j => s1.next ≤ j) m (.slice none 0 0) tc x lx ⟨0, [], 0, trailerT, (gs b.length).items⟩ := ⟨.nil, trivial, hG.tr.mono fun j hj => (hG.Fb j hj).1, hG.its.sees, Foot.of_id fun j hj => (hG.xF j hj).1, hG.rows.mono rowedI fun j hj => (hG.Fb j hj).1⟩
  have hl9 : (docC ⟨0, [], 0, trailerT, []⟩ (.slice none 0 0) tc x).length = 9 := by simp [docC, qd]
  have hok9 : (docC ⟨0, [], 0, trailerT, []⟩ (.slice none 0 0) tc x).all okCell = true := by simp only [docC, List.all_cons, List.all_append, List.all_nil, hG.tr.ok, hG.its.sees.okCell]; rfl
  simp (config := { maxSteps := 1000000, implicitDefEqProofs := false }) (disch := omega) only [allW, allR, oneOf, evalAll, partsA, optA, Nat.reduceLT, Nat.reduceLeDiff, Nat.reduceEqDiff, Nat.reduceAdd, ↓reduceIte, hn, h2, h5, h6, ld]
  refine wstep_storeAll szD (by decide) (ht1.keeps km) rfl rfl hl9 hok9 ?_
  intro m2 ht2 nx2 ot2
  have ht2 : Thing m2 s.next (docC ⟨0, [], 0, trailerT, []⟩ (.slice none 0 0) tc x) := ht2
  have ld2 := db_all ht2 qd
  simp (config := { maxSteps := 1000000, implicitDefEqProofs := false }) (disch := omega) only [allW, allR, wfn_ret, wfn_normal, oneOf, evalAll, partsA, optA, Nat.reduceLT, Nat.reduceLeDiff, Nat.reduceEqDiff, Nat.reduceAdd, ↓reduceIte, hn, h2, h5, h6, ld2, resultsA_cell, Try.results19]
  have n01 := hst1.next
  rw [hgn] at hDs hG
  refine ⟨tc, x, lx, p, rfl, (hDs.turns (u := .pointer (some ⟨s.next, 0, none⟩)) (Turns.ofPut nx2 ot2) (fun j hj e => by
    have e : some s.next = some j := e
    injection e with e; omega)).mono fun _ _ => trivial, hG.want.sees.ofPut nx2 ot2 (fun e => by have := (hG.pF _ e).1; omega), (hst1.trans (km.weaken n01)).trans ⟨by omega, fun j hj => ot2 j (by omega)⟩⟩
end Go.Proofs.Ytokfoagohblkoaa
