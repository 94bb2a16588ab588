/-
  Objects: how deep one goes: the program, the reference.
-/
import Derived.Test.YtdhdhbkikhedlaaCosW
import Derived.Test.YtdhdhbkikhedlaaDepP
import Derived.Test.YtdhdhbkikhedlaaCosM
set_option linter.unusedSimpArgs false
set_option linter.unusedVariables false
set_option maxRecDepth 100000
namespace Go.Proofs.Ytdhdhbkikhedlaa
open Go.Cl Go.Lib
def Deep (s : ASt) (o : O) (v : Value) (s' : ASt) : Prop := v = .int .i64 (depO o : Nat) ∧ Stay s.next s s'
set_option maxHeartbeats 4000000 in
theorem depth_any {lib : Prims} (hl : lib.at 33 = none) (hlp : lib.at 58 = none) (hle : lib.at 46 = none) : ∀ (N : Nat) (o : O), SizeOf.sizeOf o ≤ N → ∀ (F : Nat → Prop) (s : ASt) (cs : List Value), OIs F s cs o → Small o → depO o ≤ 10000000 →
    Runs Try.prog lib 33 [.agg cs.toArray] s (Deep s o) := by
  intro N
  induction N with
  | zero => intro o h; have := o.size_pos; omega
  | succ N ih =>
  intro o hN F s cs ho hsm hdep
  have hcl := ho.len
  have hhead := objHead ho
  refine Runs.enter 28 Try.func33 rfl hl rfl rfl ?_
  intro f hn hf
  have h0 : f.get 0 = .agg cs.toArray := hf 0
  clear hf
  simp (config := { maxSteps := 1000000, implicitDefEqProofs := false }) (disch := omega) only [allW, allR, oneOf, evalAll, partsA, optA, Nat.reduceLT, Nat.reduceLeDiff, Nat.reduceEqDiff, Nat.reduceAdd, ↓reduceIte, hn, h0]
  refine wstep_newPtr ?_
  intro s1 ht1 hst1 hnx1
  have ht1 : Thing s1 s.next cs := ht1
  have l7 : loadA Try.prog s1 3 (.pointer (some ⟨s.next, 0, some 6⟩)) = some (.int .i64 o.kind) := by
    have := ht1.load (P := Try.prog) agInt (off := 0) (c := 6) (by rw [hcl]) (by omega)
    rw [this, hhead]
  have la := Thing.loadO ht1 hcl
  obtain ⟨K, hK⟩ : ∃ K : Bool, K = decide (o.kind = 6 ∨ o.kind = 7 ∨ o.kind = 8) := ⟨_, rfl⟩
  simp (config := { maxSteps := 1000000, implicitDefEqProofs := false }) (disch := omega) only [allW, allR, oneOf, evalAll, partsA, optA, Nat.reduceLT, Nat.reduceLeDiff, Nat.reduceEqDiff, Nat.reduceAdd, ↓reduceIte, hn, h0, hcl, of0, l7]
  refine wwant_cut (fun f' s' => Stay s1.next s1 s' ∧ f'.n = 28 ∧ f'.get 1 = .pointer (some ⟨s.next, 0, some 6⟩) ∧ f'.get 13 = .bool (!K)) ?_ ?_
  · intro Q' hQ
    by_cases c6 : o.kind = 6
    · simp (config := { maxSteps := 1000000, implicitDefEqProofs := false }) (disch := omega) only [allW, allR, oneOf, evalAll, partsA, optA, Nat.reduceLT, Nat.reduceLeDiff, Nat.reduceEqDiff, Nat.reduceAdd, ↓reduceIte, undef, hn, h0, eq_true c6, not_true_eq_false, decide_false]
      exact hQ _ _ ⟨Stay.refl _ _, by simp only [get_put, n_put, ↓reduceIte, Nat.reduceEqDiff, hn], by simp only [get_put, n_put, ↓reduceIte, Nat.reduceEqDiff], by simp only [get_put, n_put, ↓reduceIte, Nat.reduceEqDiff]; rw [hK, decide_eq_true (.inl c6)]; rfl⟩
    simp (config := { maxSteps := 1000000, implicitDefEqProofs := false }) (disch := omega) only [allW, allR, oneOf, evalAll, partsA, optA, Nat.reduceLT, Nat.reduceLeDiff, Nat.reduceEqDiff, Nat.reduceAdd, ↓reduceIte, undef, hn, h0, eq_false c6, not_false_eq_true, decide_true, la]
    refine (entries_any hle F s1 _ _ (ho.keeps hst1)).mono ?_
    rintro _ s2 ⟨rfl, hst2⟩
    simp (config := { maxSteps := 1000000, implicitDefEqProofs := false }) (disch := omega) only [allW, allR, oneOf, evalAll, partsA, optA, Nat.reduceLT, Nat.reduceLeDiff, Nat.reduceEqDiff, Nat.reduceAdd, ↓reduceIte, undef, hn, h0]
    refine hQ _ _ ⟨hst2, by simp only [get_put, n_put, ↓reduceIte, Nat.reduceEqDiff, hn], by simp only [get_put, n_put, ↓reduceIte, Nat.reduceEqDiff], by simp only [get_put, n_put, ↓reduceIte, Nat.reduceEqDiff]; rw [hK]; congr 2; unfold O.has; by_cases c7 : o.kind = 7 <;> by_cases c8 : o.kind = 8 <;> simp [c6, c7, c8]⟩
  clear hn h0 f
  rintro f s2 ⟨hst2, hn, h1, h13⟩
  have hs2 : Stay s.next s s2 := hst1.trans (hst2.weaken hst1.next)
  by_cases hk : o.kind = 6 ∨ o.kind = 7 ∨ o.kind = 8
  rotate_left
  · rw [hK, decide_eq_false hk] at h13
    simp (config := { maxSteps := 1000000, implicitDefEqProofs := false }) (disch := omega) only [allW, allR, wfn_ret, wfn_normal, oneOf, evalAll, partsA, optA, Nat.reduceLT, Nat.reduceLeDiff, Nat.reduceEqDiff, Nat.reduceAdd, ↓reduceIte, hn, h1, h13, Bool.not_false, Try.results33]
    exact ⟨by rw [depO_eq, if_neg hk]; rfl, hs2⟩
  rw [hK, decide_eq_true hk] at h13
  have la2 := Thing.loadO (ht1.keeps hst2) hcl
  obtain ⟨hpl, hps⟩ := partsO_small hsm
  simp (config := { maxSteps := 1000000, implicitDefEqProofs := false }) (disch := omega) only [allW, allR, oneOf, evalAll, partsA, optA, Nat.reduceLT, Nat.reduceLeDiff, Nat.reduceEqDiff, Nat.reduceAdd, ↓reduceIte, hn, h1, h13, Bool.not_true, la2]
  refine (parts_any hlp hle F s2 _ o (ho.keeps hs2) hsm).mono ?_
  rintro x s3 ⟨LC, hx, hxr, hst3⟩
  have hs3 : Stay s.next s s3 := hs2.trans (hst3.weaken hs2.next)
  simp (config := { maxSteps := 1000000, implicitDefEqProofs := false }) (disch := omega) only [allW, allR, oneOf, evalAll, partsA, optA, Nat.reduceLT, Nat.reduceLeDiff, Nat.reduceEqDiff, Nat.reduceAdd, ↓reduceIte, hn, h1, hx.lenA Try.underlying23]
  refine Comes.loopOut (fun z f t => ∃ (i : Nat), z = (partsO o).length - i ∧ i ≤ (partsO o).length ∧ Stay s3.next s3 t ∧ f.n = 28 ∧ f.get 3 = .int .i64 (depU (partsO o) i : Nat) ∧ f.get 15 = x ∧ f.get 16 = .int .i64 ((partsO o).length : Nat) ∧ f.get 17 = .int .i64 (i : Nat))
    (fun z f t => z = .exit 0 ∧ Stay s3.next s3 t ∧ f.n = 28 ∧ f.get 3 = .int .i64 (depU (partsO o) (partsO o).length : Nat))
    ⟨0, rfl, by omega, Stay.refl _ _, by simp only [get_put, n_put, ↓reduceIte, Nat.reduceEqDiff, hn], by simp only [get_put, n_put, ↓reduceIte, Nat.reduceEqDiff]; rfl, by simp only [get_put, n_put, ↓reduceIte, Nat.reduceEqDiff], by simp only [get_put, n_put, ↓reduceIte, Nat.reduceEqDiff], by simp only [get_put, n_put, ↓reduceIte, Nat.reduceEqDiff]; rfl⟩ ?_ ?_
  · clear hn h1 h13 f
    rintro Q hQ z f t ⟨i, rfl, hi, hst, hn, h3, h15, h16, h17⟩
    by_cases hlt : i < (partsO o).length
    rotate_left
    · obtain rfl : i = (partsO o).length := by omega
      have d1 : ¬ (((partsO o).length : Nat) : Int) < (((partsO o).length : Nat) : Int) := by omega
      simp (config := { maxSteps := 1000000, implicitDefEqProofs := false }) (disch := omega) only [allW, allR, oneOf, evalAll, partsA, optA, Nat.reduceLT, Nat.reduceLeDiff, Nat.reduceEqDiff, Nat.reduceAdd, ↓reduceIte, hn, h3, h15, h16, h17, eq_false d1]
      exact hQ _ _ _ ⟨rfl, hst, by simp only [get_put, n_put, ↓reduceIte, Nat.reduceEqDiff, hn], by simp only [get_put, n_put, ↓reduceIte, Nat.reduceEqDiff, h3]⟩
    have d1 : (i : Int) < ((partsO o).length : Int) := by omega
    have hxt := hx.keeps hst
    have hix := hxt.indexAddr (P := Try.prog) (k := .i64) (x := (i : Int)) Try.underlying23 szO (by omega) (by omega)
    rw [Int.toNat_natCast] at hix
    have hll := hxt.loadAgg (P := Try.prog) agO szO hlt
    have hoi := (hxr.row i hlt).keeps hst
    obtain ⟨xs, hxs⟩ : ∃ xs, xs = (LC.drop (i * 5)).take 5 := ⟨_, rfl⟩
    rw [← hxs] at hll hoi
    have hxl := hoi.len
    have hd6 : noneC.length + 1 = 6 := rfl
    simp (config := { maxSteps := 1000000, implicitDefEqProofs := false }) (disch := omega) only [allW, allR, oneOf, evalAll, partsA, optA, Nat.reduceLT, Nat.reduceLeDiff, Nat.reduceEqDiff, Nat.reduceAdd, ↓reduceIte, hn, h3, h15, h16, h17, eq_true d1, hix, hll, zO, plO]
    refine wstep_newPtr ?_
    intro t1 ht1' hst1' hnx1'
    simp (config := { maxSteps := 1000000, implicitDefEqProofs := false }) (disch := omega) only [allW, allR, oneOf, evalAll, partsA, optA, Nat.reduceLT, Nat.reduceLeDiff, Nat.reduceEqDiff, Nat.reduceAdd, ↓reduceIte, hn, h3, h15, h16, h17, hd6]
    refine wstep_storeAll szO (by decide) ht1' rfl rfl hxl hoi.ok ?_
    intro t2 ht2' hnx2' hot2'
    have ht2' : Thing t2 t.next xs := ht2'
    have hstt2 : Stay t.next t t2 := hst1'.trans ⟨by omega, fun j hj => hot2' j (by omega)⟩
    have l22 : loadA Try.prog t2 26 (.pointer (some ⟨t.next, 0, some 6⟩)) = some (.agg xs.toArray) := Thing.loadO ht2' hxl
    have hdp := depO_part hk (List.getElem_mem hlt)
    simp (config := { maxSteps := 1000000, implicitDefEqProofs := false }) (disch := omega) only [allW, allR, oneOf, evalAll, partsA, optA, Nat.reduceLT, Nat.reduceLeDiff, Nat.reduceEqDiff, Nat.reduceAdd, ↓reduceIte, hn, h3, h15, h16, h17, l22]
    refine (ih (partsO o)[i] (by have := partsO_lt (List.getElem_mem hlt); omega) _ t2 xs (hoi.keeps hstt2) (hps _ (List.getElem_mem hlt)) (by omega)).mono ?_
    rintro _ t3 ⟨rfl, hst3'⟩
    have em := max_next hlt
    simp (config := { maxSteps := 1000000, implicitDefEqProofs := false }) (disch := omega) only [allW, allR, oneOf, evalAll, partsA, optA, Nat.reduceLT, Nat.reduceLeDiff, Nat.reduceEqDiff, Nat.reduceAdd, ↓reduceIte, hn, h3, h15, h16, h17, builtin_max, em, wrapI]
    exact wround_next ((partsO o).length - (i + 1)) (by omega) ⟨i + 1, rfl, by omega, hst.trans ((hstt2.trans (hst3'.weaken hstt2.next)).weaken hst.next), by simp only [get_put, n_put, ↓reduceIte, Nat.reduceEqDiff, hn], by simp only [get_put, n_put, ↓reduceIte, Nat.reduceEqDiff], by simp only [get_put, n_put, ↓reduceIte, Nat.reduceEqDiff, h15], by simp only [get_put, n_put, ↓reduceIte, Nat.reduceEqDiff, h16], by simp only [get_put, n_put, ↓reduceIte, Nat.reduceEqDiff]; rfl⟩
  clear hn h1 h13 f
  rintro z f t ⟨rfl, hst, hn, h3⟩
  have hle := depU_le hk (partsO o).length
  rw [depU_all] at h3 hle
  simp (config := { maxSteps := 1000000, implicitDefEqProofs := false }) (disch := omega) only [allW, allR, wfn_ret, wfn_normal, oneOf, evalAll, partsA, optA, Nat.reduceLT, Nat.reduceLeDiff, Nat.reduceEqDiff, Nat.reduceAdd, ↓reduceIte, hn, h3, wrapI, Try.results33]
  exact ⟨by rw [depO_eq, if_pos hk]; rfl, hs3.trans (hst.weaken hs3.next)⟩
set_option maxHeartbeats 4000000 in
theorem rdepth_any {lib : Prims} (hl : lib.at 34 = none) : ∀ (N : Nat) (o : O), SizeOf.sizeOf o ≤ N → ∀ (F : Nat → Prop) (s : ASt) (cs : List Value), OIs F s cs o → Small o → depO o ≤ 10000000 →
    Runs Try.prog lib 34 [.agg cs.toArray] s (Deep s o) := by
  intro N
  induction N with
  | zero => intro o h; have := o.size_pos; omega
  | succ N ih =>
  intro o hN F s cs ho hsm hdep
  obtain ⟨hpl, -⟩ := partsO_small hsm
  cases o with
  | mk kind num b l d =>
  obtain ⟨bv, lv, dv, lc, dc, rfl, hb, hL, hD, fb, fl, fd, rl, rd⟩ := ho.parts
  cases hsm with
  | mk hb1 hl2 hd1 hK1 hL1 hD1 =>
  refine Runs.enter 46 Try.func34 rfl hl rfl rfl ?_
  intro f hn hf
  have h0 : f.get 0 = .agg #[.int .i64 kind, .int .i64 num, bv, lv, dv] := hf 0
  clear hf
  simp (config := { maxSteps := 1000000, implicitDefEqProofs := false }) (disch := omega) only [allW, allR, oneOf, evalAll, partsA, optA, Nat.reduceLT, Nat.reduceLeDiff, Nat.reduceEqDiff, Nat.reduceAdd, ↓reduceIte, hn, h0]
  refine wstep_newPtr ?_
  intro s1 ht1 hst1 hnx1
  have l7 : loadA Try.prog s1 3 (.pointer (some ⟨s.next, 0, some 6⟩)) = some (.int .i64 kind) := ht1.load agInt (off := 0) (c := 6) rfl (by simp)
  by_cases c6 : kind = 6
  · have hk : (O.mk kind num b l d).kind = 6 ∨ (O.mk kind num b l d).kind = 7 ∨ (O.mk kind num b l d).kind = 8 := .inl c6
    have e : partsO (.mk kind num b l d) = l := by rw [partsO_mk, if_pos c6]
    have el : (partsO (.mk kind num b l d)).length = l.length := by rw [e]
    have hpe : ∀ i (h : i < (partsO (.mk kind num b l d)).length) (h' : i < l.length), (partsO (.mk kind num b l d))[i] = l[i] := fun i h h' => by simp only [e]
    clear e
    simp (config := { maxSteps := 1000000, implicitDefEqProofs := false }) (disch := omega) only [allW, allR, oneOf, evalAll, partsA, optA, Nat.reduceLT, Nat.reduceLeDiff, Nat.reduceEqDiff, Nat.reduceAdd, ↓reduceIte, hn, h0, List.length_cons, List.length_nil, of0, l7, eq_true c6]
    refine Comes.loopOut (fun z f t => ∃ (i : Nat), z = (partsO (.mk kind num b l d)).length - i ∧ i ≤ (partsO (.mk kind num b l d)).length ∧ Stay s1.next s1 t ∧ f.n = 46 ∧ f.get 1 = .pointer (some ⟨s.next, 0, some 6⟩) ∧ f.get 3 = .int .i64 (depU (partsO (.mk kind num b l d)) i : Nat) ∧ f.get 4 = .int .i64 (i : Nat))
      (fun z f t => z = .exit 1 ∧ Stay s1.next s1 t ∧ f.n = 46 ∧ f.get 3 = .int .i64 (depU (partsO (.mk kind num b l d)) (partsO (.mk kind num b l d)).length : Nat))
      ⟨0, rfl, by omega, Stay.refl _ _, by simp only [get_put, n_put, ↓reduceIte, Nat.reduceEqDiff, hn], by simp only [get_put, n_put, ↓reduceIte, Nat.reduceEqDiff], by simp only [get_put, n_put, ↓reduceIte, Nat.reduceEqDiff]; rfl, by simp only [get_put, n_put, ↓reduceIte, Nat.reduceEqDiff]; rfl⟩ ?_ ?_
    · clear hn h0 f
      rintro Q hQ z f t ⟨i, rfl, hi, hst, hn, h1, h3, h4⟩
      have hs0 : Stay s.next s t := hst1.trans (hst.weaken hst1.next)
      have hxt := hL.keeps hs0
      have lS : loadA Try.prog t 23 (.pointer (some ⟨s.next, 3, some 6⟩)) = some lv := (ht1.keeps hst).load agLs (off := 3) (c := 6) rfl (by simp)
      by_cases hlt : i < l.length
      rotate_left
      · obtain rfl : i = (partsO (.mk kind num b l d)).length := by omega
        have d1 : ¬ (((partsO (.mk kind num b l d)).length : Nat) : Int) < ((l.length : Nat) : Int) := by omega
        simp (config := { maxSteps := 1000000, implicitDefEqProofs := false }) (disch := omega) only [allW, allR, oneOf, evalAll, partsA, optA, Nat.reduceLT, Nat.reduceLeDiff, Nat.reduceEqDiff, Nat.reduceAdd, ↓reduceIte, hn, h1, h3, h4, of3, lS, hxt.lenA Try.underlying23, eq_false d1]
        exact hQ _ _ _ ⟨rfl, hst, by simp only [get_put, n_put, ↓reduceIte, Nat.reduceEqDiff, hn], by simp only [get_put, n_put, ↓reduceIte, Nat.reduceEqDiff, h3]⟩
      have hlt2 : i < (partsO (.mk kind num b l d)).length := by omega
      have d1 : (i : Int) < (l.length : Int) := by omega
      have hix := hxt.indexAddr (P := Try.prog) (k := .i64) (x := (i : Int)) Try.underlying23 szO (by omega) (by omega)
      rw [Int.toNat_natCast] at hix
      have hll := hxt.loadAgg (P := Try.prog) agO szO hlt
      have hoi := (rl.row i hlt).keeps hs0
      obtain ⟨xs, hxs⟩ : ∃ xs, xs = (lc.drop (i * 5)).take 5 := ⟨_, rfl⟩
      rw [← hxs] at hll hoi
      have hme : (partsO (.mk kind num b l d))[i] = l[i] := hpe i hlt2 hlt
      have hdp := depO_part hk (List.getElem_mem hlt2)
      rw [hme] at hdp
      simp (config := { maxSteps := 1000000, implicitDefEqProofs := false }) (disch := omega) only [allW, allR, oneOf, evalAll, partsA, optA, Nat.reduceLT, Nat.reduceLeDiff, Nat.reduceEqDiff, Nat.reduceAdd, ↓reduceIte, hn, h1, h3, h4, of3, lS, hxt.lenA Try.underlying23, eq_true d1, hix, hll]
      refine (ih l[i] (by have := O.items_lt (k := kind) (n := num) (b := b) (l := l) (d := d) (List.getElem_mem hlt); omega) _ t xs hoi (hL1 _ (List.getElem_mem hlt)) (by omega)).mono ?_
      rintro _ t3 ⟨rfl, hst3'⟩
      have em := max_next hlt2
      rw [hme] at em
      simp (config := { maxSteps := 1000000, implicitDefEqProofs := false }) (disch := omega) only [allW, allR, oneOf, evalAll, partsA, optA, Nat.reduceLT, Nat.reduceLeDiff, Nat.reduceEqDiff, Nat.reduceAdd, ↓reduceIte, hn, h1, h3, h4, builtin_max, em, wrapI]
      exact wround_next ((partsO (.mk kind num b l d)).length - (i + 1)) (by omega) ⟨i + 1, rfl, by omega, hst.trans (hst3'.weaken hst.next), by simp only [get_put, n_put, ↓reduceIte, Nat.reduceEqDiff, hn], by simp only [get_put, n_put, ↓reduceIte, Nat.reduceEqDiff, h1], by simp only [get_put, n_put, ↓reduceIte, Nat.reduceEqDiff], by simp only [get_put, n_put, ↓reduceIte, Nat.reduceEqDiff]; rfl⟩
    clear hn h0 f
    rintro z f t ⟨rfl, hst, hn, h3⟩
    have hle := depU_le hk (partsO (.mk kind num b l d)).length
    rw [depU_all] at h3 hle
    simp (config := { maxSteps := 1000000, implicitDefEqProofs := false }) (disch := omega) only [allW, allR, wfn_ret, wfn_normal, oneOf, evalAll, partsA, optA, Nat.reduceLT, Nat.reduceLeDiff, Nat.reduceEqDiff, Nat.reduceAdd, ↓reduceIte, hn, h3, wrapI, Try.results34]
    exact ⟨by rw [depO_eq, if_pos hk]; rfl, hst1.trans (hst.weaken hst1.next)⟩
  by_cases c78 : kind = 7 ∨ kind = 8
  · have hk : (O.mk kind num b l d).kind = 6 ∨ (O.mk kind num b l d).kind = 7 ∨ (O.mk kind num b l d).kind = 8 := .inr c78
    have e : partsO (.mk kind num b l d) = d.map (·.2) := by rw [partsO_mk, if_neg c6, if_pos c78]
    have el : (partsO (.mk kind num b l d)).length = d.length := by rw [e, List.length_map]
    have hpe : ∀ i (h : i < (partsO (.mk kind num b l d)).length) (h' : i < d.length), (partsO (.mk kind num b l d))[i] = d[i].2 := fun i h h' => by simp only [e, List.getElem_map]
    clear e
    by_cases c7 : kind = 7
    · simp (config := { maxSteps := 1000000, implicitDefEqProofs := false }) (disch := omega) only [allW, allR, oneOf, evalAll, partsA, optA, Nat.reduceLT, Nat.reduceLeDiff, Nat.reduceEqDiff, Nat.reduceAdd, ↓reduceIte, hn, h0, List.length_cons, List.length_nil, of0, l7, eq_false c6, eq_true c7]
      refine Comes.loopOut (fun z f t => ∃ (i : Nat), z = (partsO (.mk kind num b l d)).length - i ∧ i ≤ (partsO (.mk kind num b l d)).length ∧ Stay s1.next s1 t ∧ f.n = 46 ∧ f.get 1 = .pointer (some ⟨s.next, 0, some 6⟩) ∧ f.get 3 = .int .i64 (depU (partsO (.mk kind num b l d)) i : Nat) ∧ f.get 5 = .int .i64 (i : Nat))
        (fun z f t => z = .exit 3 ∧ Stay s1.next s1 t ∧ f.n = 46 ∧ f.get 3 = .int .i64 (depU (partsO (.mk kind num b l d)) (partsO (.mk kind num b l d)).length : Nat))
        ⟨0, rfl, by omega, Stay.refl _ _, by simp only [get_put, n_put, ↓reduceIte, Nat.reduceEqDiff, hn], by simp only [get_put, n_put, ↓reduceIte, Nat.reduceEqDiff], by simp only [get_put, n_put, ↓reduceIte, Nat.reduceEqDiff]; rfl, by simp only [get_put, n_put, ↓reduceIte, Nat.reduceEqDiff]; rfl⟩ ?_ ?_
      · clear hn h0 f
        rintro Q hQ z f t ⟨i, rfl, hi, hst, hn, h1, h3, h5⟩
        have hs0 : Stay s.next s t := hst1.trans (hst.weaken hst1.next)
        have hxt := hD.keeps hs0
        have lS : loadA Try.prog t 24 (.pointer (some ⟨s.next, 4, some 6⟩)) = some dv := (ht1.keeps hst).load agDs (off := 4) (c := 6) rfl (by simp)
        by_cases hlt : i < d.length
        rotate_left
        · obtain rfl : i = (partsO (.mk kind num b l d)).length := by omega
          have d1 : ¬ (((partsO (.mk kind num b l d)).length : Nat) : Int) < ((d.length : Nat) : Int) := by omega
          simp (config := { maxSteps := 1000000, implicitDefEqProofs := false }) (disch := omega) only [allW, allR, oneOf, evalAll, partsA, optA, Nat.reduceLT, Nat.reduceLeDiff, Nat.reduceEqDiff, Nat.reduceAdd, ↓reduceIte, hn, h1, h3, h5, of4, lS, hxt.lenA Try.underlying24, eq_false d1]
          exact hQ _ _ _ ⟨rfl, hst, by simp only [get_put, n_put, ↓reduceIte, Nat.reduceEqDiff, hn], by simp only [get_put, n_put, ↓reduceIte, Nat.reduceEqDiff, h3]⟩
        have hlt2 : i < (partsO (.mk kind num b l d)).length := by omega
        have d1 : (i : Int) < (d.length : Int) := by omega
        have hix := hxt.indexAddr (P := Try.prog) (k := .i64) (x := (i : Int)) Try.underlying24 szE (by omega) (by omega)
        rw [Int.toNat_natCast] at hix
        obtain ⟨q0, q1⟩ := efE hxt hlt
        obtain ⟨r, hr1, hr2, hr3⟩ := rd.row i hlt
        obtain ⟨hk6, hv6⟩ := chunk6 hr1
        have hlv := hxt.loadPart (P := Try.prog) agO szO hlt (j := 1) (by omega)
        rw [hv6] at hlv
        have hme : (partsO (.mk kind num b l d))[i] = d[i].2 := hpe i hlt2 hlt
        have hdp := depO_part hk (List.getElem_mem hlt2)
        rw [hme] at hdp
        simp (config := { maxSteps := 1000000, implicitDefEqProofs := false }) (disch := omega) only [allW, allR, oneOf, evalAll, partsA, optA, Nat.reduceLT, Nat.reduceLeDiff, Nat.reduceEqDiff, Nat.reduceAdd, ↓reduceIte, hn, h1, h3, h5, of4, lS, hxt.lenA Try.underlying24, eq_true d1, hix, q1, hlv]
        refine (ih d[i].2 (by have := O.ents_lt (k := kind) (n := num) (b := b) (l := l) (d := d) (List.getElem_mem hlt); omega) _ t r (hr2.keeps hs0) (hD1 _ (List.getElem_mem hlt)) (by omega)).mono ?_
        rintro _ t3 ⟨rfl, hst3'⟩
        have em := max_next hlt2
        rw [hme] at em
        simp (config := { maxSteps := 1000000, implicitDefEqProofs := false }) (disch := omega) only [allW, allR, oneOf, evalAll, partsA, optA, Nat.reduceLT, Nat.reduceLeDiff, Nat.reduceEqDiff, Nat.reduceAdd, ↓reduceIte, hn, h1, h3, h5, builtin_max, em, wrapI]
        exact wround_next ((partsO (.mk kind num b l d)).length - (i + 1)) (by omega) ⟨i + 1, rfl, by omega, hst.trans (hst3'.weaken hst.next), by simp only [get_put, n_put, ↓reduceIte, Nat.reduceEqDiff, hn], by simp only [get_put, n_put, ↓reduceIte, Nat.reduceEqDiff, h1], by simp only [get_put, n_put, ↓reduceIte, Nat.reduceEqDiff], by simp only [get_put, n_put, ↓reduceIte, Nat.reduceEqDiff]; rfl⟩
      clear hn h0 f
      rintro z f t ⟨rfl, hst, hn, h3⟩
      have hle := depU_le hk (partsO (.mk kind num b l d)).length
      rw [depU_all] at h3 hle
      simp (config := { maxSteps := 1000000, implicitDefEqProofs := false }) (disch := omega) only [allW, allR, wfn_ret, wfn_normal, oneOf, evalAll, partsA, optA, Nat.reduceLT, Nat.reduceLeDiff, Nat.reduceEqDiff, Nat.reduceAdd, ↓reduceIte, hn, h3, wrapI, Try.results34]
      exact ⟨by rw [depO_eq, if_pos hk]; rfl, hst1.trans (hst.weaken hst1.next)⟩
    · have c8 : kind = 8 := by omega
      simp (config := { maxSteps := 1000000, implicitDefEqProofs := false }) (disch := omega) only [allW, allR, oneOf, evalAll, partsA, optA, Nat.reduceLT, Nat.reduceLeDiff, Nat.reduceEqDiff, Nat.reduceAdd, ↓reduceIte, hn, h0, List.length_cons, List.length_nil, of0, l7, eq_false c6, eq_false c7, eq_true c8]
      refine Comes.loopOut (fun z f t => ∃ (i : Nat), z = (partsO (.mk kind num b l d)).length - i ∧ i ≤ (partsO (.mk kind num b l d)).length ∧ Stay s1.next s1 t ∧ f.n = 46 ∧ f.get 1 = .pointer (some ⟨s.next, 0, some 6⟩) ∧ f.get 3 = .int .i64 (depU (partsO (.mk kind num b l d)) i : Nat) ∧ f.get 5 = .int .i64 (i : Nat))
        (fun z f t => z = .exit 3 ∧ Stay s1.next s1 t ∧ f.n = 46 ∧ f.get 3 = .int .i64 (depU (partsO (.mk kind num b l d)) (partsO (.mk kind num b l d)).length : Nat))
        ⟨0, rfl, by omega, Stay.refl _ _, by simp only [get_put, n_put, ↓reduceIte, Nat.reduceEqDiff, hn], by simp only [get_put, n_put, ↓reduceIte, Nat.reduceEqDiff], by simp only [get_put, n_put, ↓reduceIte, Nat.reduceEqDiff]; rfl, by simp only [get_put, n_put, ↓reduceIte, Nat.reduceEqDiff]; rfl⟩ ?_ ?_
      · clear hn h0 f
        rintro Q hQ z f t ⟨i, rfl, hi, hst, hn, h1, h3, h5⟩
        have hs0 : Stay s.next s t := hst1.trans (hst.weaken hst1.next)
        have hxt := hD.keeps hs0
        have lS : loadA Try.prog t 24 (.pointer (some ⟨s.next, 4, some 6⟩)) = some dv := (ht1.keeps hst).load agDs (off := 4) (c := 6) rfl (by simp)
        by_cases hlt : i < d.length
        rotate_left
        · obtain rfl : i = (partsO (.mk kind num b l d)).length := by omega
          have d1 : ¬ (((partsO (.mk kind num b l d)).length : Nat) : Int) < ((d.length : Nat) : Int) := by omega
          simp (config := { maxSteps := 1000000, implicitDefEqProofs := false }) (disch := omega) only [allW, allR, oneOf, evalAll, partsA, optA, Nat.reduceLT, Nat.reduceLeDiff, Nat.reduceEqDiff, Nat.reduceAdd, ↓reduceIte, hn, h1, h3, h5, of4, lS, hxt.lenA Try.underlying24, eq_false d1]
          exact hQ _ _ _ ⟨rfl, hst, by simp only [get_put, n_put, ↓reduceIte, Nat.reduceEqDiff, hn], by simp only [get_put, n_put, ↓reduceIte, Nat.reduceEqDiff, h3]⟩
        have hlt2 : i < (partsO (.mk kind num b l d)).length := by omega
        have d1 : (i : Int) < (d.length : Int) := by omega
        have hix := hxt.indexAddr (P := Try.prog) (k := .i64) (x := (i : Int)) Try.underlying24 szE (by omega) (by omega)
        rw [Int.toNat_natCast] at hix
        obtain ⟨q0, q1⟩ := efE hxt hlt
        obtain ⟨r, hr1, hr2, hr3⟩ := rd.row i hlt
        obtain ⟨hk6, hv6⟩ := chunk6 hr1
        have hlv := hxt.loadPart (P := Try.prog) agO szO hlt (j := 1) (by omega)
        rw [hv6] at hlv
        have hme : (partsO (.mk kind num b l d))[i] = d[i].2 := hpe i hlt2 hlt
        have hdp := depO_part hk (List.getElem_mem hlt2)
        rw [hme] at hdp
        simp (config := { maxSteps := 1000000, implicitDefEqProofs := false }) (disch := omega) only [allW, allR, oneOf, evalAll, partsA, optA, Nat.reduceLT, Nat.reduceLeDiff, Nat.reduceEqDiff, Nat.reduceAdd, ↓reduceIte, hn, h1, h3, h5, of4, lS, hxt.lenA Try.underlying24, eq_true d1, hix, q1, hlv]
        refine (ih d[i].2 (by have := O.ents_lt (k := kind) (n := num) (b := b) (l := l) (d := d) (List.getElem_mem hlt); omega) _ t r (hr2.keeps hs0) (hD1 _ (List.getElem_mem hlt)) (by omega)).mono ?_
        rintro _ t3 ⟨rfl, hst3'⟩
        have em := max_next hlt2
        rw [hme] at em
        simp (config := { maxSteps := 1000000, implicitDefEqProofs := false }) (disch := omega) only [allW, allR, oneOf, evalAll, partsA, optA, Nat.reduceLT, Nat.reduceLeDiff, Nat.reduceEqDiff, Nat.reduceAdd, ↓reduceIte, hn, h1, h3, h5, builtin_max, em, wrapI]
        exact wround_next ((partsO (.mk kind num b l d)).length - (i + 1)) (by omega) ⟨i + 1, rfl, by omega, hst.trans (hst3'.weaken hst.next), by simp only [get_put, n_put, ↓reduceIte, Nat.reduceEqDiff, hn], by simp only [get_put, n_put, ↓reduceIte, Nat.reduceEqDiff, h1], by simp only [get_put, n_put, ↓reduceIte, Nat.reduceEqDiff], by simp only [get_put, n_put, ↓reduceIte, Nat.reduceEqDiff]; rfl⟩
      clear hn h0 f
      rintro z f t ⟨rfl, hst, hn, h3⟩
      have hle := depU_le hk (partsO (.mk kind num b l d)).length
      rw [depU_all] at h3 hle
      simp (config := { maxSteps := 1000000, implicitDefEqProofs := false }) (disch := omega) only [allW, allR, wfn_ret, wfn_normal, oneOf, evalAll, partsA, optA, Nat.reduceLT, Nat.reduceLeDiff, Nat.reduceEqDiff, Nat.reduceAdd, ↓reduceIte, hn, h3, wrapI, Try.results34]
      exact ⟨by rw [depO_eq, if_pos hk]; rfl, hst1.trans (hst.weaken hst1.next)⟩
  · have c7 : ¬ kind = 7 := fun e => c78 (.inl e)
    have c8 : ¬ kind = 8 := fun e => c78 (.inr e)
    simp (config := { maxSteps := 1000000, implicitDefEqProofs := false }) (disch := omega) only [allW, allR, wfn_ret, wfn_normal, oneOf, evalAll, partsA, optA, Nat.reduceLT, Nat.reduceLeDiff, Nat.reduceEqDiff, Nat.reduceAdd, ↓reduceIte, hn, h0, List.length_cons, List.length_nil, of0, l7, eq_false c6, eq_false c7, eq_false c8, Try.results34]
    exact ⟨by rw [depO_eq, if_neg (by show ¬ (kind = 6 ∨ kind = 7 ∨ kind = 8); omega)]; rfl, hst1⟩
end Go.Proofs.Ytdhdhbkikhedlaa
