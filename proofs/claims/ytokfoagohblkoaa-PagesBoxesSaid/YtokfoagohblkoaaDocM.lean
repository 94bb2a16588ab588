import Derived.Test.YtokfoagohblkoaaDocI
import Derived.Test.YtokfoagohblkoaaCosK
import Derived.Test.YtokfoagohblkoaaCosO
set_option linter.unusedSimpArgs false
set_option linter.unusedVariables false
set_option maxRecDepth 100000
namespace Go.Cl
def resN (D : List (Int × O)) : Nat → O → O
  | 0, o => o
  | k + 1, o => if o.kind = 9 then resN D k (findD D o.num).1 else o
def resD (D : List (Int × O)) (o : O) : O := if (resN D 32 o).kind = 9 then O.none else resN D 32 o
theorem resN_stop {D : List (Int × O)} {o : O} (h : ¬ o.kind = 9) : ∀ k, resN D k o = o
  | 0 => rfl
  | k + 1 => by unfold resN; rw [if_neg h]
theorem findD_small {D : List (Int × O)} (h : ∀ e ∈ D, Small e.2) (n : Int) : Small (findD D n).1 := by
  unfold findD
  cases hf : D.find? (fun e => e.1 == n) with
  | none => exact Small.none
  | some e => exact h e (List.mem_of_find?_eq_some hf)
theorem resN_small {D : List (Int × O)} (h : ∀ e ∈ D, Small e.2) : ∀ (k : Nat) {o : O}, Small o → Small (resN D k o)
  | 0, _, ho => ho
  | k + 1, o, ho => by
    unfold resN
    split
    · exact resN_small h k (findD_small h _)
    · exact ho
theorem resD_small {D : List (Int × O)} (h : ∀ e ∈ D, Small e.2) {o : O} (ho : Small o) : Small (resD D o) := by
  unfold resD
  split
  · exact Small.none
  · exact resN_small h 32 ho
theorem OIs.kindC {F : Nat → Prop} {s : ASt} {cs : List Value} {o : O} (h : OIs F s cs o) : cs.getD 0 undef = .int .i64 o.kind ∧ cs.getD 1 undef = .int .i64 o.num := by
  cases o with
  | mk k n b l d => obtain ⟨bv, lv, dv, lc, dc, rfl, -⟩ := h.parts; exact ⟨rfl, rfl⟩
end Go.Cl
namespace Go.Proofs.Ytokfoagohblkoaa
open Go.Cl Go.Lib
set_option maxHeartbeats 4000000 in
theorem resolve_any {lib : Prims} (hl : lib.at 24 = none) (hlf : lib.at 40 = none) (hli : lib.at 59 = none) (hlc : lib.at 60 = none) (hcp : lib.at 42 = none) (hcl : lib.at 61 = none) (hno : lib.at 41 = none) (F : Nat → Prop) (s : ASt) (D : Dc) (mv : Value) (tc : List Value) (iv : Value) (ic : List Value) (hD : DocIs F s mv tc iv ic D) (hs : SmallD D) (G : Nat → Prop) (cs : List Value) (o : O) (ho : OIs G s cs o) (hso : Small o) :
    Runs Try.prog lib 24 [.agg (docC D mv tc iv).toArray, .agg cs.toArray] s (NewO s (resD D.items o)) := by
  have htl := hD.trailer.len
  have hol := ho.len
  have dl := db_len (D := D) (mv := mv) (iv := iv) htl
  refine Runs.enter 28 Try.func24 rfl hl rfl rfl ?_
  intro f hn hf
  have h0 : f.get 0 = .agg (docC D mv tc iv).toArray := hf 0
  have h1 : f.get 1 = .agg cs.toArray := hf 1
  clear hf
  simp (config := { maxSteps := 1000000, implicitDefEqProofs := false }) (disch := omega) only [allW, allR, oneOf, evalAll, partsA, optA, Nat.reduceLT, Nat.reduceLeDiff, Nat.reduceEqDiff, Nat.reduceAdd, ↓reduceIte, hn, h0, h1]
  refine wstep_newPtr ?_
  intro s1 ht1 hst1 hnx1
  have ht1 : Thing s1 s.next (docC D mv tc iv) := ht1
  simp (config := { maxSteps := 1000000, implicitDefEqProofs := false }) (disch := omega) only [allW, allR, oneOf, evalAll, partsA, optA, Nat.reduceLT, Nat.reduceLeDiff, Nat.reduceEqDiff, Nat.reduceAdd, ↓reduceIte, hn, h0, h1, dl]
  refine wstep_newPtr ?_
  intro s2 ht2 hst2 hnx2
  have ht2 : Thing s2 s1.next cs := ht2
  simp (config := { maxSteps := 1000000, implicitDefEqProofs := false }) (disch := omega) only [allW, allR, oneOf, evalAll, partsA, optA, Nat.reduceLT, Nat.reduceLeDiff, Nat.reduceEqDiff, Nat.reduceAdd, ↓reduceIte, hn, h0, h1, hol, zO, plO]
  refine wstep_newPtr ?_
  intro s3 ht3 hst3 hnx3
  have n1 := hst1.next
  have n2 := hst2.next
  have n3 := hst3.next
  have hs2 : Stay s.next s s2 := hst1.trans (hst2.weaken n1)
  have hs3 : Stay s.next s s3 := hs2.trans (hst3.weaken (by omega))
  have ht13 := ht1.keeps (hst2.trans (hst3.weaken n2))
  have ht23 := ht2.keeps hst3
  have hd6 : noneC.length + 1 = 6 := rfl
  simp (config := { maxSteps := 1000000, implicitDefEqProofs := false }) (disch := omega) only [allW, allR, oneOf, evalAll, partsA, optA, Nat.reduceLT, Nat.reduceLeDiff, Nat.reduceEqDiff, Nat.reduceAdd, ↓reduceIte, hn, h0, h1, hd6]
  refine Comes.loopOut (fun z f t => ∃ (i : Nat) (o' : O) (cs' : List Value), z = 32 - i ∧ i ≤ 32 ∧ resN D.items 32 o = resN D.items (32 - i) o' ∧ Small o' ∧ OIs (fun j => j < s.next ∨ s3.next ≤ j) t cs' o' ∧ Thing t s1.next cs' ∧ Thing t s.next (docC D mv tc iv) ∧ Thing t s2.next noneC ∧ Stay s.next s t ∧ s3.next ≤ t.next ∧ f.n = 28 ∧ f.get 2 = .pointer (some ⟨s.next, 0, some 10⟩) ∧ f.get 3 = .pointer (some ⟨s1.next, 0, some 6⟩) ∧ f.get 4 = .pointer (some ⟨s2.next, 0, some 6⟩) ∧ f.get 5 = .int .i64 (i : Nat))
    (fun z f t => z = .exit 0 ∧ ∃ cs' : List Value, OIs (fun j => j < s.next ∨ s3.next ≤ j) t cs' (resN D.items 32 o) ∧ Thing t s1.next cs' ∧ Thing t s2.next noneC ∧ Stay s.next s t ∧ s3.next ≤ t.next ∧ f.n = 28 ∧ f.get 3 = .pointer (some ⟨s1.next, 0, some 6⟩) ∧ f.get 4 = .pointer (some ⟨s2.next, 0, some 6⟩))
    ⟨0, o, cs, rfl, by omega, rfl, hso, (ho.lows.keeps hs3).mono (fun j h => .inl h.2), ht23, ht13, ht3, hs3, Nat.le_refl _, by simp only [get_put, n_put, ↓reduceIte, Nat.reduceEqDiff, hn], by simp only [get_put, n_put, ↓reduceIte, Nat.reduceEqDiff], by simp only [get_put, n_put, ↓reduceIte, Nat.reduceEqDiff], by simp only [get_put, n_put, ↓reduceIte, Nat.reduceEqDiff], by simp only [get_put, n_put, ↓reduceIte, Nat.reduceEqDiff]; rfl⟩ ?_ ?_
  · clear hn h0 h1 f
    rintro Q hQ z f t ⟨i, o', cs', rfl, hi, hr, hso', ho', htc, htd, htn, hst, hnt, hn, h2, h3, h4, h5⟩
    have hcl' := ho'.len
    have lk : loadA Try.prog t 3 (.pointer (some ⟨s1.next, 0, some 6⟩)) = some (.int .i64 o'.kind) := by
      have := htc.load (P := Try.prog) agInt (off := 0) (c := 6) (by rw [hcl']) (by omega)
      rw [this, ho'.kindC.1]
    have ln : loadA Try.prog t 2 (.pointer (some ⟨s1.next, 1, some 6⟩)) = some (.int .i64 o'.num) := by
      have := htc.load (P := Try.prog) agI64 (off := 1) (c := 6) (by rw [hcl']) (by omega)
      rw [this, ho'.kindC.2]
    by_cases hlt : i < 32
    rotate_left
    · obtain rfl : i = 32 := by omega
      have d1 : ¬ ((32 : Nat) : Int) < 32 := by decide
      have hr : resN D.items 32 o = o' := hr
      simp (config := { maxSteps := 1000000, implicitDefEqProofs := false }) (disch := omega) only [allW, allR, oneOf, evalAll, partsA, optA, Nat.reduceLT, Nat.reduceLeDiff, Nat.reduceEqDiff, Nat.reduceAdd, ↓reduceIte, undef, hn, h2, h3, h4, h5, eq_false d1]
      exact hQ _ _ _ ⟨rfl, cs', by rw [hr]; exact ho', htc, htn, hst, hnt, by simp only [get_put, n_put, ↓reduceIte, Nat.reduceEqDiff, hn], by simp only [get_put, n_put, ↓reduceIte, Nat.reduceEqDiff, h3], by simp only [get_put, n_put, ↓reduceIte, Nat.reduceEqDiff, h4]⟩
    have d1 : (i : Int) < 32 := by omega
    by_cases c9 : o'.kind = 9
    rotate_left
    · have hr : resN D.items 32 o = o' := by rw [hr, resN_stop c9]
      simp (config := { maxSteps := 1000000, implicitDefEqProofs := false }) (disch := omega) only [allW, allR, oneOf, evalAll, partsA, optA, Nat.reduceLT, Nat.reduceLeDiff, Nat.reduceEqDiff, Nat.reduceAdd, ↓reduceIte, undef, hn, h2, h3, h4, h5, eq_true d1, of0, lk, eq_false c9]
      exact hQ _ _ _ ⟨rfl, cs', by rw [hr]; exact ho', htc, htn, hst, hnt, by simp only [get_put, n_put, ↓reduceIte, Nat.reduceEqDiff, hn], by simp only [get_put, n_put, ↓reduceIte, Nat.reduceEqDiff, h3], by simp only [get_put, n_put, ↓reduceIte, Nat.reduceEqDiff, h4]⟩
    simp (config := { maxSteps := 1000000, implicitDefEqProofs := false }) (disch := omega) only [allW, allR, oneOf, evalAll, partsA, optA, Nat.reduceLT, Nat.reduceLeDiff, Nat.reduceEqDiff, Nat.reduceAdd, ↓reduceIte, undef, hn, h2, h3, h4, h5, eq_true d1, of0, of1, lk, ln, c9, db_all htd htl]
    refine (find_any hlf hli hlc hcp hcl _ t D mv tc iv ic (hD.lows.keeps hst) hs o'.num).mono ?_
    rintro _ t2 ⟨c2, rfl, ho2, k2⟩
    have m2 := k2.next
    have hl2 := ho2.len
    simp (config := { maxSteps := 1000000, implicitDefEqProofs := false }) (disch := omega) only [allW, allR, oneOf, evalAll, partsA, optA, Nat.reduceLT, Nat.reduceLeDiff, Nat.reduceEqDiff, Nat.reduceAdd, ↓reduceIte, hn, h2, h3, h4, h5, ext0, ext1]
    refine wstep_storeAll szO (by decide) (htc.keeps k2) hcl' rfl hl2 ho2.ok ?_
    intro t3 ht3' nt3 et3
    have ht3' : Thing t3 s1.next c2 := ht3'
    simp (config := { maxSteps := 1000000, implicitDefEqProofs := false }) (disch := omega) only [allW, allR, oneOf, evalAll, partsA, optA, Nat.reduceLT, Nat.reduceLeDiff, Nat.reduceEqDiff, Nat.reduceAdd, ↓reduceIte, hn, h2, h3, h4, h5, wrapI]
    refine wround_next (32 - (i + 1)) (by omega) ⟨i + 1, (findD D.items o'.num).1, c2, rfl, by omega, ?_, findD_small hs.items _, (ho2.ofPut nt3 et3 (by omega)).mono (fun j (hj : _ ≤ j) => .inr (by omega)), ht3', (htd.keeps k2).ofPut nt3 et3 (by omega), (htn.keeps k2).ofPut nt3 et3 (by omega), (hst.trans (k2.weaken (by omega))).trans ⟨by omega, fun j hj => et3 j (by omega)⟩, by omega, by simp only [get_put, n_put, ↓reduceIte, Nat.reduceEqDiff, hn], by simp only [get_put, n_put, ↓reduceIte, Nat.reduceEqDiff, h2], by simp only [get_put, n_put, ↓reduceIte, Nat.reduceEqDiff, h3], by simp only [get_put, n_put, ↓reduceIte, Nat.reduceEqDiff, h4], by simp only [get_put, n_put, ↓reduceIte, Nat.reduceEqDiff]; rfl⟩
    rw [hr, show 32 - i = (32 - (i + 1)) + 1 by omega, resN, if_pos c9]
  clear hn h0 h1 f
  rintro z f t ⟨rfl, cs', ho', htc, htn, hst, hnt, hn, h3, h4⟩
  have hcl' := ho'.len
  have lk : loadA Try.prog t 3 (.pointer (some ⟨s1.next, 0, some 6⟩)) = some (.int .i64 (resN D.items 32 o).kind) := by
    have := htc.load (P := Try.prog) agInt (off := 0) (c := 6) (by rw [hcl']) (by omega)
    rw [this, ho'.kindC.1]
  have hsr := resN_small hs.items 32 hso
  by_cases c9 : (resN D.items 32 o).kind = 9
  · have e : resD D.items o = O.none := by unfold resD; rw [if_pos c9]
    simp (config := { maxSteps := 1000000, implicitDefEqProofs := false }) (disch := omega) only [allW, allR, oneOf, evalAll, partsA, optA, Nat.reduceLT, Nat.reduceLeDiff, Nat.reduceEqDiff, Nat.reduceAdd, ↓reduceIte, hn, h3, h4, of0, lk, c9]
    refine (none_any hno t).mono ?_
    rintro _ t2 ⟨c2, rfl, ho2, k2⟩
    have m2 := k2.next
    simp (config := { maxSteps := 1000000, implicitDefEqProofs := false }) (disch := omega) only [allW, allR, oneOf, evalAll, partsA, optA, Nat.reduceLT, Nat.reduceLeDiff, Nat.reduceEqDiff, Nat.reduceAdd, ↓reduceIte, hn, h3, h4]
    refine wstep_storeAll szO (by decide) (htn.keeps k2) rfl rfl ho2.len ho2.ok ?_
    intro t3 ht3' nt3 et3
    simp (config := { maxSteps := 1000000, implicitDefEqProofs := false }) (disch := omega) only [allW, allR, wfn_ret, wfn_normal, oneOf, evalAll, partsA, optA, Nat.reduceLT, Nat.reduceLeDiff, Nat.reduceEqDiff, Nat.reduceAdd, ↓reduceIte, hn, h4, Thing.loadO ht3' ho2.len, resultsA_cell, Try.results24]
    rw [e]
    exact ⟨c2, rfl, (ho2.ofPut nt3 et3 (by omega)).mono (fun j (hj : _ ≤ j) => by omega), (hst.trans (k2.weaken (by omega))).trans ⟨by omega, fun j hj => et3 j (by omega)⟩⟩
  · have e : resD D.items o = resN D.items 32 o := by unfold resD; rw [if_neg c9]
    simp (config := { maxSteps := 1000000, implicitDefEqProofs := false }) (disch := omega) only [allW, allR, oneOf, evalAll, partsA, optA, Nat.reduceLT, Nat.reduceLeDiff, Nat.reduceEqDiff, Nat.reduceAdd, ↓reduceIte, hn, h3, h4, of0, lk, eq_false c9, Thing.loadO htc hcl']
    refine (copyO hcp hcl _ _ (Nat.le_refl _) _ t cs' ho' hsr).mono ?_
    intro v t2 h5
    obtain ⟨c2, rfl, ho2, k2⟩ := h5.is
    have m2 := k2.next
    simp (config := { maxSteps := 1000000, implicitDefEqProofs := false }) (disch := omega) only [allW, allR, oneOf, evalAll, partsA, optA, Nat.reduceLT, Nat.reduceLeDiff, Nat.reduceEqDiff, Nat.reduceAdd, ↓reduceIte, hn, h3, h4]
    refine wstep_storeAll szO (by decide) (htn.keeps k2) rfl rfl ho2.len ho2.ok ?_
    intro t3 ht3' nt3 et3
    simp (config := { maxSteps := 1000000, implicitDefEqProofs := false }) (disch := omega) only [allW, allR, wfn_ret, wfn_normal, oneOf, evalAll, partsA, optA, Nat.reduceLT, Nat.reduceLeDiff, Nat.reduceEqDiff, Nat.reduceAdd, ↓reduceIte, hn, h4, Thing.loadO ht3' ho2.len, resultsA_cell, Try.results24]
    rw [e]
    exact ⟨c2, rfl, (ho2.ofPut nt3 et3 (by omega)).mono (fun j (hj : _ ≤ j) => by omega), (hst.trans (k2.weaken (by omega))).trans ⟨by omega, fun j hj => et3 j (by omega)⟩⟩
end Go.Proofs.Ytokfoagohblkoaa
