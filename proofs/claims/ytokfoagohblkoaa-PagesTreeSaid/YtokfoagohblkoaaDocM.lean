import Derived.Test.YtokfoagohblkoaaDocI
import Derived.Test.YtokfoagohblkoaaCosK
import Derived.Test.YtokfoagohblkoaaCosO
set_option linter.unusedSimpArgs false
set_option linter.unusedVariables false
set_option maxRecDepth 100000
namespace Go.Cl
def resN (D : List (Int × O)) : Nat → O → O
  | 0, o => o
  | k + 1, o => if o.kind = 9 then resN D k (findD D o.num).1 else o
def resD (D : List (Int × O)) (o : O) : O := if (resN D 32 o).kind = 9 then O.none else resN D 32 o
def pathD (D : List (Int × O)) : O → List (List UInt8) → O
  | x, [] => x
  | x, k :: K => pathD D (resD D (getO x k)) K
theorem resN_stop {D : List (Int × O)} {o : O} (h : ¬ o.kind = 9) : ∀ k, resN D k o = o
  | 0 => rfl
  | k + 1 => by unfold resN; rw [if_neg h]
theorem findD_small {D : List (Int × O)} (h : ∀ e ∈ D, Small e.2) (n : Int) : Small (findD D n).1 := by
  unfold findD
  cases hf : D.find? (fun e => e.1 == n) with
  | none => exact Small.none
  | some e => exact h e (List.mem_of_find?_eq_some hf)
theorem resN_small {D : List (Int × O)} (h : ∀ e ∈ D, Small e.2) : ∀ (k : Nat) {o : O}, Small o → Small (resN D k o)
  | 0, _, ho => ho
  | k + 1, o, ho => by
    unfold resN
    split
    · exact resN_small h k (findD_small h _)
    · exact ho
theorem resD_small {D : List (Int × O)} (h : ∀ e ∈ D, Small e.2) {o : O} (ho : Small o) : Small (resD D o) := by
  unfold resD
  split
  · exact Small.none
  · exact resN_small h 32 ho
theorem resN_fit {D : List (Int × O)} (h : ∀ e ∈ D, Small e.2) : ∀ (k : Nat) {o : O}, Fit o → Fit (resN D k o)
  | 0, _, ho => ho
  | k + 1, o, ho => by
    unfold resN
    split
    · exact resN_fit h k (findD_small h _).fit
    · exact ho
theorem resD_fit {D : List (Int × O)} (h : ∀ e ∈ D, Small e.2) {o : O} (ho : Fit o) : Fit (resD D o) := by
  unfold resD
  split
  · exact Small.none.fit
  · exact resN_fit h 32 ho
theorem OIs.kindC {F : Nat → Prop} {s : ASt} {cs : List Value} {o : O} (h : OIs F s cs o) : cs.getD 0 undef = .int .i64 o.kind ∧ cs.getD 1 undef = .int .i64 o.num := by
  cases o with
  | mk k n b l d => obtain ⟨bv, lv, dv, lc, dc, rfl, -⟩ := h.parts; exact ⟨rfl, rfl⟩
end Go.Cl
namespace Go.Proofs.Ytokfoagohblkoaa
open Go.Cl Go.Lib
set_option maxHeartbeats 4000000 in
theorem resolveF {lib : Prims} (hl : lib.at 24 = none) (hlf : lib.at 40 = none) (hli : lib.at 59 = none) (hlc : lib.at 60 = none) (hcp : lib.at 42 = none) (hcl : lib.at 61 = none) (hno : lib.at 41 = none) (F : Nat → Prop) (s : ASt) (D : Dc) (mv : Value) (tc : List Value) (iv : Value) (ic : List Value) (hD : DocIs F s mv tc iv ic D) (hs : SmallD D) (G : Nat → Prop) (cs : List Value) (o : O) (ho : OIs G s cs o) (hso : Fit o) :
    Runs Try.prog lib 24 [.agg (docC D mv tc iv).toArray, .agg cs.toArray] s (NewO s (resD D.items o)) := by
  have htl := hD.trailer.len
  have hol := ho.len
  have dl := db_len (D := D) (mv := mv) (iv := iv) htl
  refine Runs.enter 28 Try.func24 rfl hl rfl rfl ?_
  intro f hn hf
  have h0 : f.get 0 = .agg (docC D mv tc iv).toArray := hf 0
  have h1 : f.get 1 = .agg cs.toArray := hf 1
  clear hf
  simp (config := { maxSteps := 1000000, implicitDefEqProofs := false }) (disch := omega) only [allW, allR, oneOf, evalAll, partsA, optA, Nat.reduceLT, Nat.reduceLeDiff, Nat.reduceEqDiff, Nat.reduceAdd, ↓reduceIte, hn, h0, h1]
  refine wstep_newPtr ?_
  intro s1 ht1 hst1 hnx1
  have ht1 : Thing s1 s.next (docC D mv tc iv) := ht1
  simp (config := { maxSteps := 1000000, implicitDefEqProofs := false }) (disch := omega) only [allW, allR, oneOf, evalAll, partsA, optA, Nat.reduceLT, Nat.reduceLeDiff, Nat.reduceEqDiff, Nat.reduceAdd, ↓reduceIte, hn, h0, h1, dl]
  refine wstep_newPtr ?_
  intro s2 ht2 hst2 hnx2
  have ht2 : Thing s2 s1.next cs := ht2
  simp (config := { maxSteps := 1000000, implicitDefEqProofs := false }) (disch := omega) only [allW, allR, oneOf, evalAll, partsA, optA, Nat.reduceLT, Nat.reduceLeDiff, Nat.reduceEqDiff, Nat.reduceAdd, ↓reduceIte, hn, h0, h1, hol, zO, plO]
  refine wstep_newPtr ?_
  intro s3 ht3 hst3 hnx3
  have n1 := hst1.next
  have n2 := hst2.next
  have n3 := hst3.next
  have hs2 : Stay s.next s s2 := hst1.trans (hst2.weaken n1)
  have hs3 : Stay s.next s s3 := hs2.trans (hst3.weaken (by omega))
  have ht13 := ht1.keeps (hst2.trans (hst3.weaken n2))
  have ht23 := ht2.keeps hst3
  have hd6 : noneC.length + 1 = 6 := rfl
  simp (config := { maxSteps := 1000000, implicitDefEqProofs := false }) (disch := omega) only [allW, allR, oneOf, evalAll, partsA, optA, Nat.reduceLT, Nat.reduceLeDiff, Nat.reduceEqDiff, Nat.reduceAdd, ↓reduceIte, hn, h0, h1, hd6]
  refine Comes.loopOut (fun z f t => ∃ (i : Nat) (o' : O) (cs' : List Value), z = 32 - i ∧ i ≤ 32 ∧ resN D.items 32 o = resN D.items (32 - i) o' ∧ Fit o' ∧ OIs (fun j => j < s.next ∨ s3.next ≤ j) t cs' o' ∧ Thing t s1.next cs' ∧ Thing t s.next (docC D mv tc iv) ∧ Thing t s2.next noneC ∧ Stay s.next s t ∧ s3.next ≤ t.next ∧ f.n = 28 ∧ f.get 2 = .pointer (some ⟨s.next, 0, some 10⟩) ∧ f.get 3 = .pointer (some ⟨s1.next, 0, some 6⟩) ∧ f.get 4 = .pointer (some ⟨s2.next, 0, some 6⟩) ∧ f.get 5 = .int .i64 (i : Nat))
    (fun z f t => z = .exit 0 ∧ ∃ cs' : List Value, OIs (fun j => j < s.next ∨ s3.next ≤ j) t cs' (resN D.items 32 o) ∧ Thing t s1.next cs' ∧ Thing t s2.next noneC ∧ Stay s.next s t ∧ s3.next ≤ t.next ∧ f.n = 28 ∧ f.get 3 = .pointer (some ⟨s1.next, 0, some 6⟩) ∧ f.get 4 = .pointer (some ⟨s2.next, 0, some 6⟩))
    ⟨0, o, cs, rfl, by omega, rfl, hso, (ho.lows.keeps hs3).mono (fun j h => .inl h.2), ht23, ht13, ht3, hs3, Nat.le_refl _, by simp only [get_put, n_put, ↓reduceIte, Nat.reduceEqDiff, hn], by simp only [get_put, n_put, ↓reduceIte, Nat.reduceEqDiff], by simp only [get_put, n_put, ↓reduceIte, Nat.reduceEqDiff], by simp only [get_put, n_put, ↓reduceIte, Nat.reduceEqDiff], by simp only [get_put, n_put, ↓reduceIte, Nat.reduceEqDiff]; rfl⟩ ?_ ?_
  · clear hn h0 h1 f
    rintro Q hQ z f t ⟨i, o', cs', rfl, hi, hr, hso', ho', htc, htd, htn, hst, hnt, hn, h2, h3, h4, h5⟩
    have hcl' := ho'.len
    have lk : loadA Try.prog t 3 (.pointer (some ⟨s1.next, 0, some 6⟩)) = some (.int .i64 o'.kind) := by
      have := htc.load (P := Try.prog) agInt (off := 0) (c := 6) (by rw [hcl']) (by omega)
      rw [this, ho'.kindC.1]
    have ln : loadA Try.prog t 2 (.pointer (some ⟨s1.next, 1, some 6⟩)) = some (.int .i64 o'.num) := by
      have := htc.load (P := Try.prog) agI64 (off := 1) (c := 6) (by rw [hcl']) (by omega)
      rw [this, ho'.kindC.2]
    by_cases hlt : i < 32
    rotate_left
    · obtain rfl : i = 32 := by omega
      have d1 : ¬ ((32 : Nat) : Int) < 32 := by decide
      have hr : resN D.items 32 o = o' := hr
      simp (config := { maxSteps := 1000000, implicitDefEqProofs := false }) (disch := omega) only [allW, allR, oneOf, evalAll, partsA, optA, Nat.reduceLT, Nat.reduceLeDiff, Nat.reduceEqDiff, Nat.reduceAdd, ↓reduceIte, undef, hn, h2, h3, h4, h5, eq_false d1]
      exact hQ _ _ _ ⟨rfl, cs', by rw [hr]; exact ho', htc, htn, hst, hnt, by simp only [get_put, n_put, ↓reduceIte, Nat.reduceEqDiff, hn], by simp only [get_put, n_put, ↓reduceIte, Nat.reduceEqDiff, h3], by simp only [get_put, n_put, ↓reduceIte, Nat.reduceEqDiff, h4]⟩
    have d1 : (i : Int) < 32 := by omega
    by_cases c9 : o'.kind = 9
    rotate_left
    · have hr : resN D.items 32 o = o' := by rw [hr, resN_stop c9]
      simp (config := { maxSteps := 1000000, implicitDefEqProofs := false }) (disch := omega) only [allW, allR, oneOf, evalAll, partsA, optA, Nat.reduceLT, Nat.reduceLeDiff, Nat.reduceEqDiff, Nat.reduceAdd, ↓reduceIte, undef, hn, h2, h3, h4, h5, eq_true d1, of0, lk, eq_false c9]
      exact hQ _ _ _ ⟨rfl, cs', by rw [hr]; exact ho', htc, htn, hst, hnt, by simp only [get_put, n_put, ↓reduceIte, Nat.reduceEqDiff, hn], by simp only [get_put, n_put, ↓reduceIte, Nat.reduceEqDiff, h3], by simp only [get_put, n_put, ↓reduceIte, Nat.reduceEqDiff, h4]⟩
    simp (config := { maxSteps := 1000000, implicitDefEqProofs := false }) (disch := omega) only [allW, allR, oneOf, evalAll, partsA, optA, Nat.reduceLT, Nat.reduceLeDiff, Nat.reduceEqDiff, Nat.reduceAdd, ↓reduceIte, undef, hn, h2, h3, h4, h5, eq_true d1, of0, of1, lk, ln, c9, db_all htd htl]
    refine (find_any hlf hli hlc hcp hcl _ t D mv tc iv ic (hD.lows.keeps hst) hs o'.num).mono ?_
    rintro _ t2 ⟨c2, rfl, ho2, k2⟩
    have m2 := k2.next
    have hl2 := ho2.len
    simp (config := { maxSteps := 1000000, implicitDefEqProofs := false }) (disch := omega) only [allW, allR, oneOf, evalAll, partsA, optA, Nat.reduceLT, Nat.reduceLeDiff, Nat.reduceEqDiff, Nat.reduceAdd, ↓reduceIte, hn, h2, h3, h4, h5, ext0, ext1]
    refine wstep_storeAll szO (by decide) (htc.keeps k2) hcl' rfl hl2 ho2.ok ?_
    intro t3 ht3' nt3 et3
    have ht3' : Thing t3 s1.next c2 := ht3'
    simp (config := { maxSteps := 1000000, implicitDefEqProofs := false }) (disch := omega) only [allW, allR, oneOf, evalAll, partsA, optA, Nat.reduceLT, Nat.reduceLeDiff, Nat.reduceEqDiff, Nat.reduceAdd, ↓reduceIte, hn, h2, h3, h4, h5, wrapI]
    refine wround_next (32 - (i + 1)) (by omega) ⟨i + 1, (findD D.items o'.num).1, c2, rfl, by omega, ?_, (findD_small hs.items _).fit, (ho2.ofPut nt3 et3 (by omega)).mono (fun j (hj : _ ≤ j) => .inr (by omega)), ht3', (htd.keeps k2).ofPut nt3 et3 (by omega), (htn.keeps k2).ofPut nt3 et3 (by omega), (hst.trans (k2.weaken (by omega))).trans ⟨by omega, fun j hj => et3 j (by omega)⟩, by omega, by simp only [get_put, n_put, ↓reduceIte, Nat.reduceEqDiff, hn], by simp only [get_put, n_put, ↓reduceIte, Nat.reduceEqDiff, h2], by simp only [get_put, n_put, ↓reduceIte, Nat.reduceEqDiff, h3], by simp only [get_put, n_put, ↓reduceIte, Nat.reduceEqDiff, h4], by simp only [get_put, n_put, ↓reduceIte, Nat.reduceEqDiff]; rfl⟩
    rw [hr, show 32 - i = (32 - (i + 1)) + 1 by omega, resN, if_pos c9]
  clear hn h0 h1 f
  rintro z f t ⟨rfl, cs', ho', htc, htn, hst, hnt, hn, h3, h4⟩
  have hcl' := ho'.len
  have lk : loadA Try.prog t 3 (.pointer (some ⟨s1.next, 0, some 6⟩)) = some (.int .i64 (resN D.items 32 o).kind) := by
    have := htc.load (P := Try.prog) agInt (off := 0) (c := 6) (by rw [hcl']) (by omega)
    rw [this, ho'.kindC.1]
  have hsr := resN_fit hs.items 32 hso
  by_cases c9 : (resN D.items 32 o).kind = 9
  · have e : resD D.items o = O.none := by unfold resD; rw [if_pos c9]
    simp (config := { maxSteps := 1000000, implicitDefEqProofs := false }) (disch := omega) only [allW, allR, oneOf, evalAll, partsA, optA, Nat.reduceLT, Nat.reduceLeDiff, Nat.reduceEqDiff, Nat.reduceAdd, ↓reduceIte, hn, h3, h4, of0, lk, c9]
    refine (none_any hno t).mono ?_
    rintro _ t2 ⟨c2, rfl, ho2, k2⟩
    have m2 := k2.next
    simp (config := { maxSteps := 1000000, implicitDefEqProofs := false }) (disch := omega) only [allW, allR, oneOf, evalAll, partsA, optA, Nat.reduceLT, Nat.reduceLeDiff, Nat.reduceEqDiff, Nat.reduceAdd, ↓reduceIte, hn, h3, h4]
    refine wstep_storeAll szO (by decide) (htn.keeps k2) rfl rfl ho2.len ho2.ok ?_
    intro t3 ht3' nt3 et3
    simp (config := { maxSteps := 1000000, implicitDefEqProofs := false }) (disch := omega) only [allW, allR, wfn_ret, wfn_normal, oneOf, evalAll, partsA, optA, Nat.reduceLT, Nat.reduceLeDiff, Nat.reduceEqDiff, Nat.reduceAdd, ↓reduceIte, hn, h4, Thing.loadO ht3' ho2.len, resultsA_cell, Try.results24]
    rw [e]
    exact ⟨c2, rfl, (ho2.ofPut nt3 et3 (by omega)).mono (fun j (hj : _ ≤ j) => by omega), (hst.trans (k2.weaken (by omega))).trans ⟨by omega, fun j hj => et3 j (by omega)⟩⟩
  · have e : resD D.items o = resN D.items 32 o := by unfold resD; rw [if_neg c9]
    simp (config := { maxSteps := 1000000, implicitDefEqProofs := false }) (disch := omega) only [allW, allR, oneOf, evalAll, partsA, optA, Nat.reduceLT, Nat.reduceLeDiff, Nat.reduceEqDiff, Nat.reduceAdd, ↓reduceIte, hn, h3, h4, of0, lk, eq_false c9, Thing.loadO htc hcl']
    refine (copyF hcp hcl _ _ (Nat.le_refl _) _ t cs' ho' hsr).mono ?_
    intro v t2 h5
    obtain ⟨c2, rfl, ho2, k2⟩ := h5.is
    have m2 := k2.next
    simp (config := { maxSteps := 1000000, implicitDefEqProofs := false }) (disch := omega) only [allW, allR, oneOf, evalAll, partsA, optA, Nat.reduceLT, Nat.reduceLeDiff, Nat.reduceEqDiff, Nat.reduceAdd, ↓reduceIte, hn, h3, h4]
    refine wstep_storeAll szO (by decide) (htn.keeps k2) rfl rfl ho2.len ho2.ok ?_
    intro t3 ht3' nt3 et3
    simp (config := { maxSteps := 1000000, implicitDefEqProofs := false }) (disch := omega) only [allW, allR, wfn_ret, wfn_normal, oneOf, evalAll, partsA, optA, Nat.reduceLT, Nat.reduceLeDiff, Nat.reduceEqDiff, Nat.reduceAdd, ↓reduceIte, hn, h4, Thing.loadO ht3' ho2.len, resultsA_cell, Try.results24]
    rw [e]
    exact ⟨c2, rfl, (ho2.ofPut nt3 et3 (by omega)).mono (fun j (hj : _ ≤ j) => by omega), (hst.trans (k2.weaken (by omega))).trans ⟨by omega, fun j hj => et3 j (by omega)⟩⟩
theorem resolve_any {lib : Prims} (hl : lib.at 24 = none) (hlf : lib.at 40 = none) (hli : lib.at 59 = none) (hlc : lib.at 60 = none) (hcp : lib.at 42 = none) (hcl : lib.at 61 = none) (hno : lib.at 41 = none) (F : Nat → Prop) (s : ASt) (D : Dc) (mv : Value) (tc : List Value) (iv : Value) (ic : List Value) (hD : DocIs F s mv tc iv ic D) (hs : SmallD D) (G : Nat → Prop) (cs : List Value) (o : O) (ho : OIs G s cs o) (hso : Small o) :
    Runs Try.prog lib 24 [.agg (docC D mv tc iv).toArray, .agg cs.toArray] s (NewO s (resD D.items o)) := resolveF hl hlf hli hlc hcp hcl hno F s D mv tc iv ic hD hs G cs o ho hso.fit
def RObj (F : Nat → Prop) (s : ASt) (o : O) (v : Value) (s' : ASt) : Prop := ∃ cs, v = .agg cs.toArray ∧ OIs (fun j => F j ∨ s.next ≤ j) s' cs o ∧ Stay s.next s s'
set_option maxHeartbeats 4000000 in
theorem path_any {lib : Prims} (hl : lib.at 44 = none) (hlr : lib.at 24 = none) (hlg : lib.at 25 = none) (hle : lib.at 43 = none) (hlf : lib.at 40 = none) (hli : lib.at 59 = none) (hlc : lib.at 60 = none) (hcp : lib.at 42 = none) (hcl : lib.at 61 = none) (hno : lib.at 41 = none) (F : Nat → Prop) (s : ASt) (D : Dc) (mv : Value) (tc : List Value) (iv : Value) (ic : List Value) (hD : DocIs F s mv tc iv ic D) (hs : SmallD D) (G : Nat → Prop) (cs : List Value) (o : O) (ho : OIs G s cs o) (hso : Small o) (x : Value) (K : List (List UInt8)) (hx : Sees s 1 x K.length (strs K)) (hK : K.length ≤ 1000) (hsg : ∀ (o : O) (k : List UInt8), Small o → Small (getO o k)) :
    Runs Try.prog lib 44 [.agg (docC D mv tc iv).toArray, .agg cs.toArray, x] s (NewO s (pathD D.items (resD D.items o) K)) := by
  have htl := hD.trailer.len
  have hol := ho.len
  have dl := db_len (D := D) (mv := mv) (iv := iv) htl
  refine Runs.enter 25 Try.func44 rfl hl rfl rfl ?_
  intro f hn hf
  have h0 : f.get 0 = .agg (docC D mv tc iv).toArray := hf 0
  have h1 : f.get 1 = .agg cs.toArray := hf 1
  have h2 : f.get 2 = x := hf 2
  clear hf
  simp (config := { maxSteps := 1000000, implicitDefEqProofs := false }) (disch := omega) only [allW, allR, oneOf, evalAll, partsA, optA, Nat.reduceLT, Nat.reduceLeDiff, Nat.reduceEqDiff, Nat.reduceAdd, ↓reduceIte, hn, h0, h1, h2]
  refine wstep_newPtr ?_
  intro s1 ht1 hst1 hnx1
  have ht1 : Thing s1 s.next (docC D mv tc iv) := ht1
  simp (config := { maxSteps := 1000000, implicitDefEqProofs := false }) (disch := omega) only [allW, allR, oneOf, evalAll, partsA, optA, Nat.reduceLT, Nat.reduceLeDiff, Nat.reduceEqDiff, Nat.reduceAdd, ↓reduceIte, hn, h0, h1, h2, dl]
  refine wstep_newPtr ?_
  intro s2 ht2 hst2 hnx2
  have ht2 : Thing s2 s1.next cs := ht2
  simp (config := { maxSteps := 1000000, implicitDefEqProofs := false }) (disch := omega) only [allW, allR, oneOf, evalAll, partsA, optA, Nat.reduceLT, Nat.reduceLeDiff, Nat.reduceEqDiff, Nat.reduceAdd, ↓reduceIte, hn, h0, h1, h2, hol, zO, plO]
  refine wstep_newPtr ?_
  intro s3 ht3 hst3 hnx3
  have n1 := hst1.next
  have n2 := hst2.next
  have n3 := hst3.next
  have hs2 : Stay s.next s s2 := hst1.trans (hst2.weaken n1)
  have hs3 : Stay s.next s s3 := hs2.trans (hst3.weaken (by omega))
  have ht13 := ht1.keeps (hst2.trans (hst3.weaken n2))
  have ht23 := ht2.keeps hst3
  have hd6 : noneC.length + 1 = 6 := rfl
  simp (config := { maxSteps := 1000000, implicitDefEqProofs := false }) (disch := omega) only [allW, allR, oneOf, evalAll, partsA, optA, Nat.reduceLT, Nat.reduceLeDiff, Nat.reduceEqDiff, Nat.reduceAdd, ↓reduceIte, hn, h0, h1, h2, hd6, db_all ht13 htl, Thing.loadO ht23 hol]
  refine (resolve_any hlr hlf hli hlc hcp hcl hno _ s3 D mv tc iv ic (hD.lows.keeps hs3) hs _ cs o (ho.lows.keeps hs3) hso).mono ?_
  rintro _ s4 ⟨c4, rfl, ho4, k4⟩
  have n4 := k4.next
  simp (config := { maxSteps := 1000000, implicitDefEqProofs := false }) (disch := omega) only [allW, allR, oneOf, evalAll, partsA, optA, Nat.reduceLT, Nat.reduceLeDiff, Nat.reduceEqDiff, Nat.reduceAdd, ↓reduceIte, hn, h0, h1, h2]
  refine wstep_storeAll szO (by decide) (ht23.keeps k4) hol rfl ho4.len ho4.ok ?_
  intro s5 ht5 nt5 et5
  have ht5 : Thing s5 s1.next c4 := ht5
  have hs5 : Stay s.next s s5 := (hs3.trans (k4.weaken (by omega))).trans ⟨by omega, fun j hj => et5 j (by omega)⟩
  have hx5 := hx.keeps hs5
  simp (config := { maxSteps := 1000000, implicitDefEqProofs := false }) (disch := omega) only [allW, allR, oneOf, evalAll, partsA, optA, Nat.reduceLT, Nat.reduceLeDiff, Nat.reduceEqDiff, Nat.reduceAdd, ↓reduceIte, hn, h0, h1, h2, hx5.lenA Try.underlying109]
  refine Comes.loopOut (fun z f t => ∃ (i : Nat) (o' : O) (cs' : List Value), z = K.length - i ∧ i ≤ K.length ∧ pathD D.items (resD D.items o) K = pathD D.items o' (K.drop i) ∧ Small o' ∧ OIs (fun j => s3.next ≤ j) t cs' o' ∧ Thing t s1.next cs' ∧ Thing t s.next (docC D mv tc iv) ∧ Thing t s2.next noneC ∧ Stay s.next s t ∧ s3.next ≤ t.next ∧ f.n = 25 ∧ f.get 3 = .pointer (some ⟨s.next, 0, some 10⟩) ∧ f.get 4 = .pointer (some ⟨s1.next, 0, some 6⟩) ∧ f.get 6 = .pointer (some ⟨s2.next, 0, some 6⟩) ∧ f.get 12 = x ∧ f.get 13 = .int .i64 (K.length : Nat) ∧ f.get 14 = .int .i64 (i : Nat))
    (fun z f t => z = .exit 0 ∧ ∃ cs' : List Value, OIs (fun j => s3.next ≤ j) t cs' (pathD D.items (resD D.items o) K) ∧ Thing t s1.next cs' ∧ Thing t s2.next noneC ∧ Stay s.next s t ∧ s3.next ≤ t.next ∧ f.n = 25 ∧ f.get 4 = .pointer (some ⟨s1.next, 0, some 6⟩) ∧ f.get 6 = .pointer (some ⟨s2.next, 0, some 6⟩))
    ⟨0, resD D.items o, c4, rfl, by omega, rfl, resD_small hs.items hso, ho4.ofPut nt5 et5 (by omega), ht5, (ht13.keeps k4).ofPut nt5 et5 (by omega), (ht3.keeps k4).ofPut nt5 et5 (by omega), hs5, by omega, by simp only [get_put, n_put, ↓reduceIte, Nat.reduceEqDiff, hn], by simp only [get_put, n_put, ↓reduceIte, Nat.reduceEqDiff], by simp only [get_put, n_put, ↓reduceIte, Nat.reduceEqDiff], by simp only [get_put, n_put, ↓reduceIte, Nat.reduceEqDiff], by simp only [get_put, n_put, ↓reduceIte, Nat.reduceEqDiff], by simp only [get_put, n_put, ↓reduceIte, Nat.reduceEqDiff], by simp only [get_put, n_put, ↓reduceIte, Nat.reduceEqDiff]; rfl⟩ ?_ ?_
  · clear hn h0 h1 h2 f
    rintro Q hQ z f t ⟨i, o', cs', rfl, hi, hp, hso', ho', htc, htd, htn, hst, hnt, hn, h3, h4, h6, h12, h13, h14⟩
    have hcl' := ho'.len
    by_cases hlt : i < K.length
    rotate_left
    · obtain rfl : i = K.length := by omega
      have d1 : ¬ ((K.length : Nat) : Int) < ((K.length : Nat) : Int) := by omega
      rw [List.drop_length] at hp
      have hp : _ = o' := hp
      simp (config := { maxSteps := 1000000, implicitDefEqProofs := false }) (disch := omega) only [allW, allR, oneOf, evalAll, partsA, optA, Nat.reduceLT, Nat.reduceLeDiff, Nat.reduceEqDiff, Nat.reduceAdd, ↓reduceIte, hn, h3, h4, h6, h12, h13, h14, eq_false d1]
      exact hQ _ _ _ ⟨rfl, cs', by rw [hp]; exact ho', htc, htn, hst, hnt, by simp only [get_put, n_put, ↓reduceIte, Nat.reduceEqDiff, hn], by simp only [get_put, n_put, ↓reduceIte, Nat.reduceEqDiff, h4], by simp only [get_put, n_put, ↓reduceIte, Nat.reduceEqDiff, h6]⟩
    have d1 : (i : Int) < (K.length : Int) := by omega
    have hxt := hx.keeps hst
    have hix := hxt.indexAddr (P := Try.prog) (k := .i64) (x := (i : Int)) Try.underlying109 szStr (by omega) (by omega)
    rw [Int.toNat_natCast] at hix
    have hld := hxt.load1 (P := Try.prog) agStr hlt
    rw [strs_get hlt] at hld
    simp (config := { maxSteps := 1000000, implicitDefEqProofs := false }) (disch := omega) only [allW, allR, oneOf, evalAll, partsA, optA, Nat.reduceLT, Nat.reduceLeDiff, Nat.reduceEqDiff, Nat.reduceAdd, ↓reduceIte, hn, h3, h4, h6, h12, h13, h14, eq_true d1, hix, hld]
    obtain ⟨B, hB⟩ : ∃ B : Nat → Bool, B = fun j => decide (j < t.next) := ⟨_, rfl⟩
    have hBl : ∀ j, B j = true → j < t.next := by
      intro j h
      rw [hB] at h
      exact of_decide_eq_true h
    have hBo : ∀ j, j < t.next → B j = true := fun j h => by rw [hB]; exact decide_eq_true h
    refine LB.Drawn.looseK B hBl 1 0 (by kernel_rfl) (by kernel_rfl) ?_
    have hsq := Stay.spare t 0
    have hnq : (spare t 0).next = t.next + 0 := spare_next _ _
    have ml1 : ∀ k, LA.lowV B (some (.pointer (some ⟨s.next, k, some 10⟩))) = true := fun k => LA.lowV_ptr (A := B) (i := s.next) (hBo _ htd.lt)
    have ml2 : ∀ k, LA.lowV B (some (.pointer (some ⟨s1.next, k, some 6⟩))) = true := fun k => LA.lowV_ptr (A := B) (i := s1.next) (hBo _ htc.lt)
    have hDt := hD.lows.keeps hst
    simp (config := { maxSteps := 1000000, implicitDefEqProofs := false }) (disch := omega) only [allW, allR, allL, allB, Nat.sub_self, Nat.add_one_sub_one, Nat.reduceSub, oneOf, evalAll, partsA, optA, Nat.reduceLT, Nat.reduceLeDiff, Nat.reduceEqDiff, Nat.reduceAdd, ↓reduceIte, hn, h3, h4, h6, h12, h13, h14, db_all (htd.keeps hsq) htl, Thing.loadO (htc.keeps hsq) hcl', ml1, ml2, hDt.self, ho'.self, valEq_string]
    refine (get_any hlg hle hcp hcl hno _ (spare t 0) cs' o' (ho'.keeps hsq) hso' K[i]).mono ?_
    rintro _ t2 ⟨c2, rfl, ho2, k2⟩
    have m2 := k2.next
    refine ⟨fun _ => LA.Stay.toA hBl (k2.weaken (by omega)), ?_⟩
    have k02 : Stay t.next t t2 := hsq.trans (k2.weaken (by omega))
    try simp (config := { maxSteps := 1000000, implicitDefEqProofs := false }) (disch := omega) only [allW, allR, allL, allB, Nat.sub_self, Nat.add_one_sub_one, Nat.reduceSub, oneOf, evalAll, partsA, optA, Nat.reduceLT, Nat.reduceLeDiff, Nat.reduceEqDiff, Nat.reduceAdd, ↓reduceIte, hn, h3, h4, h6, h12, h13, h14, ho2.self]
    refine (resolve_any hlr hlf hli hlc hcp hcl hno _ t2 D mv tc iv ic (hDt.keeps k02) hs _ c2 _ ho2 (hsg _ _ hso')).mono ?_
    rintro _ t3 ⟨c3, rfl, ho3, k3⟩
    have m3 := k3.next
    refine ⟨fun h => h.elim, ?_⟩
    have k03 : Stay t.next t t3 := k02.trans (k3.weaken (by omega))
    try simp (config := { maxSteps := 1000000, implicitDefEqProofs := false }) (disch := omega) only [allW, allR, allL, allB, Nat.sub_self, Nat.add_one_sub_one, Nat.reduceSub, oneOf, evalAll, partsA, optA, Nat.reduceLT, Nat.reduceLeDiff, Nat.reduceEqDiff, Nat.reduceAdd, ↓reduceIte, hn, h3, h4, h6, h12, h13, h14, ho3.self]
    refine LB.sstep_storeAll szO (by decide) (htc.keeps k03) hcl' rfl (by simpa using ho3.len) ho3.ok (fun h => absurd rfl h) ?_
    intro t4 ht4' nt4 et4
    have ht4' : Thing t4 s1.next c3 := ht4'
    simp (config := { maxSteps := 1000000, implicitDefEqProofs := false }) (disch := omega) only [allW, allR, allL, allB, Nat.sub_self, Nat.add_one_sub_one, Nat.reduceSub, oneOf, evalAll, partsA, optA, Nat.reduceLT, Nat.reduceLeDiff, Nat.reduceEqDiff, Nat.reduceAdd, ↓reduceIte, allW, allR, oneOf, evalAll, partsA, optA, Nat.reduceLT, Nat.reduceLeDiff, Nat.reduceEqDiff, Nat.reduceAdd, ↓reduceIte, hn, h3, h4, h6, h12, h13, h14, wrapI]
    have e : pathD D.items (resD D.items o) K = pathD D.items (resD D.items (getO o' K[i])) (K.drop (i + 1)) := by
      rw [hp, List.drop_eq_getElem_cons hlt]; rfl
    exact wround_next (K.length - (i + 1)) (by omega) ⟨i + 1, _, c3, rfl, by omega, e, resD_small hs.items (hsg _ _ hso'), (ho3.ofPut nt4 et4 (by omega)).mono (fun j (hj : _ ≤ j) => by omega), ht4', (htd.keeps k03).ofPut nt4 et4 (by omega), (htn.keeps k03).ofPut nt4 et4 (by omega), (hst.trans (k03.weaken (by omega))).trans ⟨by omega, fun j hj => et4 j (by omega)⟩, by omega, by simp only [get_put, n_put, ↓reduceIte, Nat.reduceEqDiff, hn], by simp only [get_put, n_put, ↓reduceIte, Nat.reduceEqDiff, h3], by simp only [get_put, n_put, ↓reduceIte, Nat.reduceEqDiff, h4], by simp only [get_put, n_put, ↓reduceIte, Nat.reduceEqDiff, h6], by simp only [get_put, n_put, ↓reduceIte, Nat.reduceEqDiff, h12], by simp only [get_put, n_put, ↓reduceIte, Nat.reduceEqDiff, h13], by simp only [get_put, n_put, ↓reduceIte, Nat.reduceEqDiff]; rfl⟩
  clear hn h0 h1 h2 f
  rintro z f t ⟨rfl, cs', ho', htc, htn, hst, hnt, hn, h4, h6⟩
  have hcl' := ho'.len
  simp (config := { maxSteps := 1000000, implicitDefEqProofs := false }) (disch := omega) only [allW, allR, oneOf, evalAll, partsA, optA, Nat.reduceLT, Nat.reduceLeDiff, Nat.reduceEqDiff, Nat.reduceAdd, ↓reduceIte, hn, h4, h6, Thing.loadO htc hcl']
  refine wstep_storeAll szO (by decide) htn rfl rfl hcl' ho'.ok ?_
  intro t3 ht3' nt3 et3
  simp (config := { maxSteps := 1000000, implicitDefEqProofs := false }) (disch := omega) only [allW, allR, wfn_ret, wfn_normal, oneOf, evalAll, partsA, optA, Nat.reduceLT, Nat.reduceLeDiff, Nat.reduceEqDiff, Nat.reduceAdd, ↓reduceIte, hn, h6, Thing.loadO ht3' hcl', resultsA_cell, Try.results44]
  exact ⟨cs', rfl, (ho'.ofPut nt3 et3 (by omega)).mono (fun j (hj : _ ≤ j) => by omega), hst.trans ⟨by omega, fun j hj => et3 j (by omega)⟩⟩
end Go.Proofs.Ytokfoagohblkoaa
