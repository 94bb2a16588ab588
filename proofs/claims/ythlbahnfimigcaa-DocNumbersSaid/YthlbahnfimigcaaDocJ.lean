/-
  Documents: a few of the reference's makers; awake.
-/
import Derived.Test.YthlbahnfimigcaaDocI
import Derived.Test.YthlbahnfimigcaaBuild
set_option linter.unusedSimpArgs false
set_option linter.unusedVariables false
namespace Go.Proofs.Ythlbahnfimigcaa
open Go.Cl Go.Lib
theorem rref_any {lib : Prims} (hl : lib.at 31 = none) (s : ASt) (n : Int) : Runs Try.prog lib 31 [.int .i64 n] s (NewO s (.mk 9 n [] [] [])) := by
  refine Runs.enter 5 Try.func31 rfl hl rfl rfl ?_
  intro f hn hf
  have h0 : f.get 0 = .int .i64 n := hf 0
  clear hf
  simp (config := { maxSteps := 1000000, implicitDefEqProofs := false }) (disch := omega) only [allW, ↓reduceIte, zO, plO]
  refine wstep_newPtr ?_
  intro s1 ht1 hst1 hnx1
  have hd6 : noneC.length + 1 = 6 := rfl
  simp (config := { maxSteps := 1000000, implicitDefEqProofs := false }) (disch := omega) only [allW, partsA, Nat.reduceLT, Nat.reduceEqDiff, ↓reduceIte, hn, h0, hd6, bO]
  refine wstep_storeAll szO (by decide) ht1 rfl rfl rfl rfl ?_
  intro s2 ht2 hnx2 hot2
  simp (config := { maxSteps := 1000000, implicitDefEqProofs := false }) (disch := omega) only [allW, wfn_ret, oneOf, Nat.reduceLT, Nat.reduceEqDiff, ↓reduceIte, hn, Thing.loadO ht2 rfl, resultsA_cell, Try.results31]
  exact NewO.put (F := fun _ => False) (OIs.bare _ s1 9 n) (fun j hj => hj.elim) hnx2 hot2 hst1 (Nat.le_refl _)
theorem rint_any {lib : Prims} (hl : lib.at 36 = none) (s : ASt) (n : Int) : Runs Try.prog lib 36 [.int .i64 n] s (NewO s (.mk 2 n [] [] [])) := by
  refine Runs.enter 5 Try.func36 rfl hl rfl rfl ?_
  intro f hn hf
  have h0 : f.get 0 = .int .i64 n := hf 0
  clear hf
  simp (config := { maxSteps := 1000000, implicitDefEqProofs := false }) (disch := omega) only [allW, ↓reduceIte, zO, plO]
  refine wstep_newPtr ?_
  intro s1 ht1 hst1 hnx1
  have hd6 : noneC.length + 1 = 6 := rfl
  simp (config := { maxSteps := 1000000, implicitDefEqProofs := false }) (disch := omega) only [allW, partsA, Nat.reduceLT, Nat.reduceEqDiff, ↓reduceIte, hn, h0, hd6, bO]
  refine wstep_storeAll szO (by decide) ht1 rfl rfl rfl rfl ?_
  intro s2 ht2 hnx2 hot2
  simp (config := { maxSteps := 1000000, implicitDefEqProofs := false }) (disch := omega) only [allW, wfn_ret, oneOf, Nat.reduceLT, Nat.reduceEqDiff, ↓reduceIte, hn, Thing.loadO ht2 rfl, resultsA_cell, Try.results36]
  exact NewO.put (F := fun _ => False) (OIs.bare _ s1 2 n) (fun j hj => hj.elim) hnx2 hot2 hst1 (Nat.le_refl _)
theorem rpair_any {lib : Prims} (hl : lib.at 30 = none) (hlc : lib.at 53 = none) (hl1 : lib.at 44 = none) (F : Nat → Prop) (s : ASt) (k : List UInt8) (cs : List Value) (o : O) (ho : OIs F s cs o) (hsm : Small o) :
    Runs Try.prog lib 30 [.string ⟨k.toArray⟩, .agg cs.toArray] s (NewE s k o) := by
  have hcl := ho.len
  refine Runs.enter 9 Try.func30 rfl hl rfl rfl ?_
  intro f hn hf
  have h0 : f.get 0 = .string ⟨k.toArray⟩ := hf 0
  have h1 : f.get 1 = .agg cs.toArray := hf 1
  clear hf
  simp (config := { maxSteps := 1000000, implicitDefEqProofs := false }) (disch := omega) only [allW, Nat.reduceLT, ↓reduceIte, hn, h1]
  refine wstep_newPtr ?_
  intro s1 ht1 hst1 hnx1
  simp (config := { maxSteps := 1000000, implicitDefEqProofs := false }) (disch := omega) only [allW, Nat.reduceLT, Nat.reduceAdd, ↓reduceIte, hn, hcl, zE, plE]
  refine wstep_newPtr ?_
  intro s2 ht2 hst2 hnx2
  have hs2 : Stay s.next s s2 := hst1.trans (hst2.weaken (by omega))
  have la : loadA Try.prog s2 26 (.pointer (some ⟨s.next, 0, some 6⟩)) = some (.agg cs.toArray) := Thing.loadAll agO (by rw [hcl]; exact szO) (ht1.keeps hst2) (by rw [hcl])
  have hd7 : noneE.length + 1 = 7 := rfl
  simp (config := { maxSteps := 1000000, implicitDefEqProofs := false }) (disch := omega) only [allW, allR, evalAll, Nat.reduceLT, Nat.reduceEqDiff, ↓reduceIte, hn, h0, la, hd7]
  refine (rcopyO hlc hl1 _ o (Nat.le_refl _) F s2 cs (ho.keeps hs2) hsm).mono ?_
  rintro _ s3 ⟨cs', rfl, ho3, hst3⟩
  have hcl' := ho3.len
  obtain ⟨es, hes⟩ : ∃ es, es = Value.string ⟨k.toArray⟩ :: cs' := ⟨_, rfl⟩
  have hel : es.length = 6 := by rw [hes]; simp [hcl']
  have hesok : es.all okCell = true := by rw [hes, List.all_cons, ho3.ok]; rfl
  have hbE := bE k hcl'
  rw [← hes] at hbE
  simp (config := { maxSteps := 1000000, implicitDefEqProofs := false }) (disch := omega) only [allW, partsA, Nat.reduceLT, Nat.reduceEqDiff, ↓reduceIte, hn, hbE]
  refine wstep_storeAll szE (by decide) (ht2.keeps hst3) rfl rfl hel hesok ?_
  intro s4 ht4 hnx4 hot4
  have ht4 : Thing s4 s1.next es := ht4
  have l4 : loadA Try.prog s4 51 (.pointer (some ⟨s1.next, 0, some 7⟩)) = some (.agg es.toArray) := Thing.loadAll agE (by rw [hel]; exact szE) ht4 (by rw [hel])
  simp (config := { maxSteps := 1000000, implicitDefEqProofs := false }) (disch := omega) only [allW, wfn_ret, oneOf, Nat.reduceLT, Nat.reduceEqDiff, ↓reduceIte, hn, l4, resultsA_cell, Try.results30]
  have hn1 := hst1.next
  have hn2 := hst2.next
  refine ⟨cs', by rw [hes], (ho3.turns (u := .pointer (some ⟨s1.next, 0, none⟩)) (Turns.ofPut hnx4 hot4) (fun j hj e => ?_)).mono (fun j hj => by omega), (hs2.trans (hst3.weaken hs2.next)).trans ⟨by omega, fun j hj => hot4 j (by omega)⟩⟩
  have e : some s1.next = some j := e
  injection e with e; omega
theorem bItem (n : Int) {cs : List Value} (hl : cs.length = 5) : buildA Try.prog 55 [(0, .int .i64 n), (1, .agg cs.toArray)] = some (.agg (.int .i64 n :: cs).toArray) := by
  obtain ⟨a, b, c, d, e, rfl⟩ := five hl
  kernel_rfl
def noneD : List Value := docC ⟨0, [], 0, O.none, []⟩ (.slice none 0 0) noneC (.slice none 0 0)
theorem zD : zeroB Try.prog 29 = some (.agg noneD.toArray) := by kernel_rfl
theorem plD : plainV (.agg noneD.toArray) = true := by kernel_rfl
theorem bDoc {tc : List Value} (hl : tc.length = 5) (a : Option Addr) (n c : Nat) : buildA Try.prog 29 [(3, .agg tc.toArray), (4, .slice a n c)] = some (.agg (.int .i64 0 :: .slice none 0 0 :: .int .i64 0 :: (tc ++ [.slice a n c])).toArray) := by
  obtain ⟨a, b, c, d, e, rfl⟩ := five hl
  kernel_rfl
def D0 : Dc := ⟨0, [], 0, .mk 7 0 [] [] [([82, 111, 111, 116], .mk 9 5 [] [] [])], [(5, .mk 6 0 [] [.mk 9 9 [] [] [], .mk 9 7 [] [] []] []), (7, .mk 9 5 [] [] []), (9, .mk 2 1 [] [] [])]⟩
theorem refs0 (k n : Int) (h : k ≠ 9 ∧ k ≠ 6 ∧ k ≠ 7 ∧ k ≠ 8) : refsO (.mk k n [] [] []) = [] := by
  rw [refsO_eq, if_neg (show ¬ (O.mk k n [] [] []).kind = 9 from h.1), partsO_mk, if_neg h.2.1, if_neg (by omega)]; rfl
theorem refsD0 : refsO D0.trailer = [5] := by
  show refsO (.mk 7 0 [] [] [([82, 111, 111, 116], .mk 9 5 [] [] [])]) = [5]
  rw [refsO_eq, if_neg (by decide), partsO_mk, if_neg (by decide), if_pos (by decide)]
  simp [refsO_ref (k := 9) rfl]
theorem refsA : refsO (.mk 6 0 [] [.mk 9 9 [] [] [], .mk 9 7 [] [] []] []) = [9, 7] := by
  rw [refsO_eq, if_neg (by decide), partsO_mk, if_pos rfl]
  simp [refsO_ref (k := 9) rfl]
theorem walks0 : WalksN D0.items 4 (refsO D0.trailer) [] [5, 9, 7] := by
  rw [refsD0]
  refine .meet 3 5 [] [] _ rfl (by simp) ?_
  have e1 : refsO (findD D0.items 5).1 = [9, 7] := refsA
  rw [e1]
  refine .meet 2 9 [7] [5] _ rfl (by simp) ?_
  have e2 : refsO (findD D0.items 9).1 = [] := refs0 2 1 (by decide)
  rw [e2]
  refine .meet 1 7 [] [5, 9] _ rfl (by simp) ?_
  have e3 : refsO (findD D0.items 7).1 = [5] := refsO_ref (k := 9) rfl
  rw [e3]
  exact .skip 0 5 [] _ _ (.inr (by simp)) (.done _)
theorem small0 : SmallD D0 where
  mark := by simp [D0]
  len := by simp [D0]
  trailer := .mk (by simp) (by simp) (by simp) (fun e he => by simp at he; subst he; decide) (fun x hx => by cases hx) (fun e he => by simp at he; subst he; exact Small.bare 9 5)
  items := fun e he => by
    simp only [D0, List.mem_cons, List.not_mem_nil, or_false] at he
    rcases he with rfl | rfl | rfl
    · refine .mk (by simp) (by simp) (by simp) (fun e he => by cases he) (fun x hx => ?_) (fun e he => by cases he)
      simp only [List.mem_cons, List.not_mem_nil, or_false] at hx
      rcases hx with rfl | rfl
      · exact Small.bare 9 9
      · exact Small.bare 9 7
    · exact Small.bare 9 5
    · exact Small.bare 2 1
  nodes := by
    simp [D0, nodesO_mk]
set_option maxHeartbeats 8000000 in
theorem awake_any {lib : Prims} (hl : lib.at 8 = none) (R : LibRf lib) (r1 : lib.at 31 = none) (r2 : lib.at 36 = none) (r3 : lib.at 30 = none) (hi : lib.at 25 = none)
    (hre : lib.at 10 = none) (hwd : lib.at 38 = none) (ho : lib.at 59 = none) (hw : lib.at 60 = none) (hrv : lib.at 78 = none) (hrf : lib.at 61 = none) (hlp : lib.at 79 = none) (hle : lib.at 67 = none) (s : ASt) :
    Runs Try.prog lib 8 [] s (BoolsI s true) := by
  refine Runs.enter 21 Try.func8 rfl hl rfl rfl ?_
  intro f hn _
  simp (config := { maxSteps := 1000000, implicitDefEqProofs := false }) (disch := omega) only [allW, allR, evalAll, Nat.reduceLT, ↓reduceIte, hn]
  refine (rref_any r1 s 5).mono ?_
  rintro _ s1 ⟨c1, rfl, o1, h1⟩
  simp (config := { maxSteps := 1000000, implicitDefEqProofs := false }) (disch := omega) only [allW, allR, evalAll, Nat.reduceLT, ↓reduceIte, hn]
  refine (rpair_any r3 R.copy R.copyB _ s1 [82, 111, 111, 116] c1 _ o1 (Small.bare 9 5)).mono ?_
  rintro _ s2 ⟨p2, rfl, e2, h2⟩
  have q2 := e2.len
  simp (config := { maxSteps := 1000000, implicitDefEqProofs := false }) (disch := omega) only [allW, partsA, Nat.reduceLT, ↓reduceIte, hn, buildAgg1 (cs := (.string ⟨([82, 111, 111, 116] : List UInt8).toArray⟩ :: p2).toArray) Try.underlying24 szE zE plE rfl (by simp [q2]) (by decide)]
  refine wstep_newSlice (by simp [q2]) ?_
  intro x3 s3 hx3 _ h3
  have r3' : EntIs (fun _ => True) s3 (.string ⟨([82, 111, 111, 116] : List UInt8).toArray⟩ :: p2) ([82, 111, 111, 116], .mk 9 5 [] [] []) := ⟨p2, rfl, (e2.keeps h3).mono (fun _ _ => trivial), by decide⟩
  have rows3 : ORows EntIs 6 (fun _ => True) s3 [([82, 111, 111, 116], .mk 9 5 [] [] [])] (.string ⟨([82, 111, 111, 116] : List UInt8).toArray⟩ :: p2) := by
    have := ORows.nil.snoc (cs := .string ⟨([82, 111, 111, 116] : List UInt8).toArray⟩ :: p2) (by rw [List.length_cons, q2]) r3'
    simpa using this
  simp (config := { maxSteps := 1000000, implicitDefEqProofs := false }) (disch := omega) only [allW, allR, evalAll, Nat.reduceLT, ↓reduceIte, hn]
  refine (rdict_any R (fun _ => True) s3 x3 [([82, 111, 111, 116], .mk 9 5 [] [] [])] _ hx3.sees rows3 (by decide) (fun e he => by simp at he; subst he; exact Small.bare 9 5)).mono ?_
  rintro _ s4 ⟨tc, rfl, o4, h4⟩
  have o4 : OIs (fun j => s3.next ≤ j) s4 tc D0.trailer := o4
  simp (config := { maxSteps := 1000000, implicitDefEqProofs := false }) (disch := omega) only [allW, allR, evalAll, Nat.reduceLT, ↓reduceIte, hn]
  refine (rref_any r1 s4 9).mono ?_
  rintro _ s5 ⟨c5, rfl, o5, h5⟩
  simp (config := { maxSteps := 1000000, implicitDefEqProofs := false }) (disch := omega) only [allW, allR, evalAll, Nat.reduceLT, ↓reduceIte, hn]
  refine (rref_any r1 s5 7).mono ?_
  rintro _ s6 ⟨c6, rfl, o6, h6⟩
  have q5 := o5.len
  have q6 := o6.len
  simp (config := { maxSteps := 1000000, implicitDefEqProofs := false }) (disch := omega) only [allW, partsA, Nat.reduceLT, Nat.reduceEqDiff, ↓reduceIte, hn, buildAgg2 (a := c5.toArray) (b := c6.toArray) Try.underlying23 szO zO plO rfl (by simp [q5]) (by simp [q6]) (by decide)]
  refine wstep_newSlice (by simp [q5, q6]) ?_
  intro x7 s7 hx7 _ h7
  have rows7 : ORows OIs 5 (fun _ => True) s7 [.mk 9 9 [] [] [], .mk 9 7 [] [] []] (c5 ++ c6) := by
    have := (ORows.nil.snoc (cs := c5) q5 ((o5.keeps (h6.trans (h7.weaken h6.next))).mono (fun _ _ => trivial))).snoc (cs := c6) q6 ((o6.keeps h7).mono (fun _ _ => trivial))
    simpa using this
  simp (config := { maxSteps := 1000000, implicitDefEqProofs := false }) (disch := omega) only [allW, allR, evalAll, Nat.reduceLT, ↓reduceIte, hn]
  refine (rarr_any R.arr R.copy R.copyB (fun _ => True) s7 x7 [.mk 9 9 [] [] [], .mk 9 7 [] [] []] _ hx7.sees rows7 (by decide) (fun x hx => by
    simp only [List.mem_cons, List.not_mem_nil, or_false] at hx
    rcases hx with rfl | rfl
    · exact Small.bare 9 9
    · exact Small.bare 9 7)).mono ?_
  rintro _ s8 ⟨c8, rfl, o8, h8⟩
  have q8 := o8.len
  simp (config := { maxSteps := 1000000, implicitDefEqProofs := false }) (disch := omega) only [allW, allR, evalAll, partsA, Nat.reduceLT, ↓reduceIte, hn, bItem 5 q8]
  refine (rref_any r1 s8 5).mono ?_
  rintro _ s9 ⟨c9, rfl, o9, h9⟩
  have q9 := o9.len
  simp (config := { maxSteps := 1000000, implicitDefEqProofs := false }) (disch := omega) only [allW, allR, evalAll, partsA, Nat.reduceLT, ↓reduceIte, hn, bItem 7 q9]
  refine (rint_any r2 s9 1).mono ?_
  rintro _ s10 ⟨c10, rfl, o10, h10⟩
  have q10 := o10.len
  simp (config := { maxSteps := 1000000, implicitDefEqProofs := false }) (disch := omega) only [allW, allR, partsA, Nat.reduceLT, Nat.reduceEqDiff, ↓reduceIte, hn, bItem 9 q10, buildAgg3 (a := (.int .i64 5 :: c8).toArray) (b := (.int .i64 7 :: c9).toArray) (c := (.int .i64 9 :: c10).toArray) Try.underlying27 szI zI plI rfl (by simp [q8]) (by simp [q9]) (by simp [q10]) (by decide)]
  refine wstep_newSlice (by simp [q8, q9, q10]) ?_
  intro x11 s11 hx11 _ h11
  have rows11 : ORows ItIs 6 (fun _ => True) s11 D0.items (.int .i64 5 :: (c8 ++ .int .i64 7 :: c9 ++ .int .i64 9 :: c10)) := by
    have r1 : ItIs (fun _ => True) s11 (.int .i64 5 :: c8) (5, .mk 6 0 [] [.mk 9 9 [] [] [], .mk 9 7 [] [] []] []) := ⟨c8, rfl, (o8.keeps ((h9.trans (h10.weaken h9.next)).trans (h11.weaken (Nat.le_trans h9.next h10.next)))).mono (fun _ _ => trivial)⟩
    have r2 : ItIs (fun _ => True) s11 (.int .i64 7 :: c9) (7, .mk 9 5 [] [] []) := ⟨c9, rfl, (o9.keeps (h10.trans (h11.weaken h10.next))).mono (fun _ _ => trivial)⟩
    have r3 : ItIs (fun _ => True) s11 (.int .i64 9 :: c10) (9, .mk 2 1 [] [] []) := ⟨c10, rfl, (o10.keeps h11).mono (fun _ _ => trivial)⟩
    have := ((ORows.nil.snoc (cs := .int .i64 5 :: c8) (by rw [List.length_cons, q8]) r1).snoc (cs := .int .i64 7 :: c9) (by rw [List.length_cons, q9]) r2).snoc (cs := .int .i64 9 :: c10) (by rw [List.length_cons, q10]) r3
    simpa [D0] using this
  obtain ⟨ia, il, ib, rfl⟩ : ∃ a n c, x11 = .slice a n c := by cases hx11 <;> exact ⟨_, _, _, rfl⟩
  have q4 := o4.len
  simp (config := { maxSteps := 1000000, implicitDefEqProofs := false }) (disch := omega) only [allW, partsA, Nat.reduceLT, Nat.reduceEqDiff, ↓reduceIte, hn, bDoc q4, zD, plD]
  refine wstep_newPtr ?_
  intro s12 ht12 hst12 hnx12
  have hd10 : noneD.length + 1 = 10 := rfl
  have n1 := h1.next
  have n2 := h2.next
  have n3 := h3.next
  have n4 := h4.next
  have n5 := h5.next
  have n6 := h6.next
  have n7 := h7.next
  have n8 := h8.next
  have n9 := h9.next
  have n10 := h10.next
  have n11 := h11.next
  have n12 := hst12.next
  have k4 : Stay s4.next s4 s11 := (((((h5.trans (h6.weaken (by omega))).trans (h7.weaken (by omega))).trans (h8.weaken (by omega))).trans (h9.weaken (by omega))).trans (h10.weaken (by omega))).trans (h11.weaken (by omega))
  have k0 : Stay s.next s s11 := (((h1.trans (h2.weaken (by omega))).trans (h3.weaken (by omega))).trans (h4.weaken (by omega))).trans (k4.weaken (by omega))
  have hD11 : DocIs (fun _ => True) s11 (.slice none 0 0) tc (.slice ia il ib) _ D0 := ⟨.nil, Foot.of_id (fun j hj => trivial), (o4.keeps k4).mono (fun _ _ => trivial), hx11.sees, Foot.of_id (fun j hj => trivial), rows11⟩
  have hDl := docC_len hD11
  have hDo := docC_ok hD11
  simp (config := { maxSteps := 1000000, implicitDefEqProofs := false }) (disch := omega) only [allW, Nat.reduceLT, Nat.reduceEqDiff, ↓reduceIte, hn, hd10]
  refine wstep_storeAll szD (by decide) ht12 rfl rfl hDl hDo ?_
  intro s13 ht13 hnx13 hot13
  have ht13 : Thing s13 s11.next (docC D0 (.slice none 0 0) tc (.slice ia il ib)) := ht13
  have k13 : Stay s11.next s11 s13 := hst12.trans ⟨by omega, fun j hj => hot13 j (by omega)⟩
  simp (config := { maxSteps := 1000000, implicitDefEqProofs := false }) (disch := omega) only [allW, allR, evalAll, Nat.reduceLT, ↓reduceIte, hn, db_all ht13 q4]
  refine (reach_any hre hwd ho hw hrv hrf hlp hle (fun _ => True) s13 D0 _ tc _ _ (hD11.keeps k13) small0 4 _ walks0 (by decide)).mono ?_
  rintro v s14 ⟨hv, -, h14⟩
  simp (config := { maxSteps := 1000000, implicitDefEqProofs := false }) (disch := omega) only [allW, partsA, Nat.reduceLT, ↓reduceIte, hn, build3 Try.underlying32 szInt zInt]
  refine wstep_newSlice rfl ?_
  intro y s15 hy _ h15
  simp (config := { maxSteps := 1000000, implicitDefEqProofs := false }) (disch := omega) only [allW, allR, evalAll, Nat.reduceLT, Nat.reduceEqDiff, ↓reduceIte, hn]
  refine (ints_any hi s15 v y [5, 9, 7] [5, 9, 7] (hv.keeps h15).sees hy.sees (by decide)).mono ?_
  rintro _ s16 ⟨rfl, h16⟩
  simp (config := { maxSteps := 1000000, implicitDefEqProofs := false }) (disch := omega) only [allW, oneOf, Nat.reduceLT, ↓reduceIte, allW, wfn_ret, oneOf, Nat.reduceLT, ↓reduceIte, hn, Try.results8]
  have m13 := k13.next
  have m14 := h14.next
  have m15 := h15.next
  exact ⟨rfl, (((k0.trans (k13.weaken (by omega))).trans (h14.weaken (by omega))).trans (h15.weaken (by omega))).trans (h16.weaken (by omega))⟩
end Go.Proofs.Ythlbahnfimigcaa
