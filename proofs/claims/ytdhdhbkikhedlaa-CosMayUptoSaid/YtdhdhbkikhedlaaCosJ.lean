/-
  Objects: Pair, Set.
-/
import Derived.Test.YtdhdhbkikhedlaaCosI
set_option linter.unusedSimpArgs false
set_option linter.unusedVariables false
set_option maxRecDepth 100000
namespace Go.Proofs.Ytdhdhbkikhedlaa
open Go.Cl Go.Lib
def Has (s : ASt) (o : O) (v : Value) (s' : ASt) : Prop := v = .bool o.has ∧ Stay s.next s s'
theorem entries_any {lib : Prims} (hl : lib.at 46 = none) (F : Nat → Prop) (s : ASt) (cs : List Value) (o : O) (ho : OIs F s cs o) :
    Runs Try.prog lib 46 [.agg cs.toArray] s (Has s o) := by
  cases o with
  | mk kind num b l d =>
  obtain ⟨bv, lv, dv, lc, dc, rfl, -⟩ := ho.parts
  refine Runs.enter 11 Try.func46 rfl hl rfl rfl ?_
  intro f hn hf
  have h0 : f.get 0 = .agg #[.int .i64 kind, .int .i64 num, bv, lv, dv] := hf 0
  clear hf
  simp (config := { maxSteps := 1000000, implicitDefEqProofs := false }) (disch := omega) only [allW, allR, oneOf, evalAll, partsA, optA, Nat.reduceLT, Nat.reduceLeDiff, Nat.reduceEqDiff, Nat.reduceAdd, ↓reduceIte, hn, h0]
  refine wstep_newPtr ?_
  intro s1 ht1 hst1 hnx1
  have p0 : loadA Try.prog s1 3 (.pointer (some ⟨s.next, 0, some 6⟩)) = some (.int .i64 kind) := ht1.load agInt (off := 0) (c := 6) rfl (by simp)
  by_cases c7 : kind = 7
  · simp (config := { maxSteps := 1000000, implicitDefEqProofs := false }) (disch := omega) only [allW, allR, wfn_ret, wfn_normal, oneOf, evalAll, partsA, optA, Nat.reduceLT, Nat.reduceLeDiff, Nat.reduceEqDiff, Nat.reduceAdd, ↓reduceIte, hn, h0, List.length_cons, List.length_nil, of0, p0, eq_true c7, Try.results46]
    exact ⟨by simp [O.has, O.kind, c7], hst1⟩
  · simp (config := { maxSteps := 1000000, implicitDefEqProofs := false }) (disch := omega) only [allW, allR, wfn_ret, wfn_normal, oneOf, evalAll, partsA, optA, Nat.reduceLT, Nat.reduceLeDiff, Nat.reduceEqDiff, Nat.reduceAdd, ↓reduceIte, hn, h0, List.length_cons, List.length_nil, of0, p0, eq_false c7, Try.results46]
    exact ⟨by simp [O.has, O.kind, c7]; congr, hst1⟩
def NewE (s : ASt) (k : List UInt8) (o : O) (v : Value) (s' : ASt) : Prop := ∃ cs, v = .agg (.string ⟨k.toArray⟩ :: cs).toArray ∧ OIs (fun j => s.next ≤ j) s' cs o ∧ Stay s.next s s'
theorem pair_any {lib : Prims} (hl : lib.at 39 = none) (hlc : lib.at 30 = none) (hl1 : lib.at 52 = none) (F : Nat → Prop) (s : ASt) (k : List UInt8) (cs : List Value) (o : O) (ho : OIs F s cs o) (hsm : Small o) :
    Runs Try.prog lib 39 [.string ⟨k.toArray⟩, .agg cs.toArray] s (NewE s k o) := by
  have hcl := ho.len
  refine Runs.enter 9 Try.func39 rfl hl rfl rfl ?_
  intro f hn hf
  have h0 : f.get 0 = .string ⟨k.toArray⟩ := hf 0
  have h1 : f.get 1 = .agg cs.toArray := hf 1
  clear hf
  simp (config := { maxSteps := 1000000, implicitDefEqProofs := false }) (disch := omega) only [allW, allR, oneOf, evalAll, partsA, optA, Nat.reduceLT, Nat.reduceLeDiff, Nat.reduceEqDiff, Nat.reduceAdd, ↓reduceIte, hn, h0, h1]
  refine wstep_newPtr ?_
  intro s1 ht1 hst1 hnx1
  simp (config := { maxSteps := 1000000, implicitDefEqProofs := false }) (disch := omega) only [allW, allR, oneOf, evalAll, partsA, optA, Nat.reduceLT, Nat.reduceLeDiff, Nat.reduceEqDiff, Nat.reduceAdd, ↓reduceIte, hn, h0, h1, hcl, zE, plE]
  refine wstep_newPtr ?_
  intro s2 ht2 hst2 hnx2
  have hs2 : Stay s.next s s2 := hst1.trans (hst2.weaken (by omega))
  have la : loadA Try.prog s2 26 (.pointer (some ⟨s.next, 0, some 6⟩)) = some (.agg cs.toArray) := Thing.loadAll agO (by rw [hcl]; exact szO) (ht1.keeps hst2) (by rw [hcl])
  have hd7 : noneE.length + 1 = 7 := rfl
  simp (config := { maxSteps := 1000000, implicitDefEqProofs := false }) (disch := omega) only [allW, allR, oneOf, evalAll, partsA, optA, Nat.reduceLT, Nat.reduceLeDiff, Nat.reduceEqDiff, Nat.reduceAdd, ↓reduceIte, hn, h0, h1, la, hd7]
  refine (copyO hlc hl1 _ o (Nat.le_refl _) F s2 cs (ho.keeps hs2) hsm).mono ?_
  intro v s3 h3
  obtain ⟨cs', rfl, ho3, hst3⟩ := h3.is
  have hcl' := ho3.len
  obtain ⟨es, hes⟩ : ∃ es, es = Value.string ⟨k.toArray⟩ :: cs' := ⟨_, rfl⟩
  have hel : es.length = 6 := by rw [hes]; simp [hcl']
  have hesok : es.all okCell = true := by rw [hes, List.all_cons, ho3.ok]; rfl
  have hbE := bE k hcl'
  rw [← hes] at hbE
  simp (config := { maxSteps := 1000000, implicitDefEqProofs := false }) (disch := omega) only [allW, allR, oneOf, evalAll, partsA, optA, Nat.reduceLT, Nat.reduceLeDiff, Nat.reduceEqDiff, Nat.reduceAdd, ↓reduceIte, hn, h0, h1, hbE]
  refine wstep_storeAll szE (by decide) (ht2.keeps hst3) rfl rfl hel hesok ?_
  intro s4 ht4 hnx4 hot4
  have ht4 : Thing s4 s1.next es := ht4
  have l4 : loadA Try.prog s4 32 (.pointer (some ⟨s1.next, 0, some 7⟩)) = some (.agg es.toArray) := Thing.loadAll agE (by rw [hel]; exact szE) ht4 (by rw [hel])
  simp (config := { maxSteps := 1000000, implicitDefEqProofs := false }) (disch := omega) only [allW, allR, wfn_ret, wfn_normal, oneOf, evalAll, partsA, optA, Nat.reduceLT, Nat.reduceLeDiff, Nat.reduceEqDiff, Nat.reduceAdd, ↓reduceIte, hn, l4, resultsA_cell, Try.results39]
  have hn1 := hst1.next
  have hn2 := hst2.next
  refine ⟨cs', by rw [hes], (ho3.turns (u := .pointer (some ⟨s1.next, 0, none⟩)) (Turns.ofPut hnx4 hot4) (fun j hj e => ?_)).mono (fun j hj => by omega), (hs2.trans (hst3.weaken hs2.next)).trans ⟨by omega, fun j hj => hot4 j (by omega)⟩⟩
  have e : some s1.next = some j := e
  injection e with e; omega
set_option maxHeartbeats 8000000 in
theorem set_any {lib : Prims} (hl : lib.at 13 = none) (hlp : lib.at 39 = none) (hle : lib.at 46 = none) (hlc : lib.at 30 = none) (hlcl : lib.at 52 = none)
    (hlo : lib.at 47 = none) (hl1 : lib.at 63 = none) (hl2 : lib.at 64 = none) (hld : lib.at 65 = none) (hli : lib.at 62 = none) (hlcE : lib.at 66 = none)
    (hlk : lib.at 48 = none) (hls : lib.at 67 = none) (hlb : lib.at 78 = none) (hp : lib.at 83 = some pCmpStr)
    (F : Nat → Prop) (s : ASt) (cs : List Value) (o : O) (ho : OIs F s cs o) (hsm : Small o) (x : Value) (L : List (List UInt8 × O)) (lx : List Value) (hx : Sees s 6 x L.length lx) (hL : ORows EntIs 6 F s L lx) (hLn : L.length ≤ 100000) (hLs : ∀ e ∈ L, Small e.2) :
    Runs Try.prog lib 13 [.agg cs.toArray, x] s (NewO s (setO o L)) := by
  have hcl := ho.len
  refine Runs.enter 35 Try.func13 rfl hl rfl rfl ?_
  intro f hn hf
  have h0 : f.get 0 = .agg cs.toArray := hf 0
  have h1 : f.get 1 = x := hf 1
  clear hf
  simp (config := { maxSteps := 1000000, implicitDefEqProofs := false }) (disch := omega) only [allW, allR, oneOf, evalAll, partsA, optA, Nat.reduceLT, Nat.reduceLeDiff, Nat.reduceEqDiff, Nat.reduceAdd, ↓reduceIte, hn, h0, h1]
  refine wstep_newPtr ?_
  intro s1 ht1 hst1 hnx1
  simp (config := { maxSteps := 1000000, implicitDefEqProofs := false }) (disch := omega) only [allW, allR, oneOf, evalAll, partsA, optA, Nat.reduceLT, Nat.reduceLeDiff, Nat.reduceEqDiff, Nat.reduceAdd, ↓reduceIte, hn, h0, h1, hcl, zO, plO]
  refine wstep_newPtr ?_
  intro s2 ht2 hst2 hnx2
  have hs2 : Stay s.next s s2 := hst1.trans (hst2.weaken (by omega))
  have ht12 := ht1.keeps hst2
  have hd6 : noneC.length + 1 = 6 := rfl
  have la : ∀ s', Stay s2.next s2 s' → loadA Try.prog s' 26 (.pointer (some ⟨s.next, 0, some 6⟩)) = some (.agg cs.toArray) := fun s' h => Thing.loadAll agO (by rw [hcl]; exact szO) (ht12.keeps h) (by rw [hcl])
  simp (config := { maxSteps := 1000000, implicitDefEqProofs := false }) (disch := omega) only [allW, allR, oneOf, evalAll, partsA, optA, Nat.reduceLT, Nat.reduceLeDiff, Nat.reduceEqDiff, Nat.reduceAdd, ↓reduceIte, hn, h0, h1, la s2 (Stay.refl _ _), hd6]
  refine (copyO hlc hlcl _ o (Nat.le_refl _) F s2 cs (ho.keeps hs2) hsm).mono ?_
  intro v s3 h3
  obtain ⟨cs', rfl, ho3, hst3⟩ := h3.is
  have hcl' := ho3.len
  simp (config := { maxSteps := 1000000, implicitDefEqProofs := false }) (disch := omega) only [allW, allR, oneOf, evalAll, partsA, optA, Nat.reduceLT, Nat.reduceLeDiff, Nat.reduceEqDiff, Nat.reduceAdd, ↓reduceIte, hn, h0, h1, zO, plO]
  refine wstep_newPtr ?_
  intro s4 ht4 hst4 hnx4
  simp (config := { maxSteps := 1000000, implicitDefEqProofs := false }) (disch := omega) only [allW, allR, oneOf, evalAll, partsA, optA, Nat.reduceLT, Nat.reduceLeDiff, Nat.reduceEqDiff, Nat.reduceAdd, ↓reduceIte, hn, h0, h1, hd6]
  refine wstep_storeAll szO (by decide) ht4 rfl rfl hcl' ho3.ok ?_
  intro s5 ht5 hnx5 hot5
  have ht5 : Thing s5 s3.next cs' := ht5
  have hs35 : Stay s3.next s3 s5 := hst4.trans ⟨by omega, fun j hj => hot5 j (by omega)⟩
  have hs25 : Stay s2.next s2 s5 := hst3.trans (hs35.weaken hst3.next)
  have hs05 : Stay s.next s s5 := hs2.trans (hs25.weaken hs2.next)
  simp (config := { maxSteps := 1000000, implicitDefEqProofs := false }) (disch := omega) only [allW, allR, oneOf, evalAll, partsA, optA, Nat.reduceLT, Nat.reduceLeDiff, Nat.reduceEqDiff, Nat.reduceAdd, ↓reduceIte, hn, h0, h1, la s5 hs25]
  refine (entries_any hle F s5 cs o (ho.keeps hs05)).mono ?_
  rintro _ s6 ⟨rfl, hs56⟩
  have hs36 : Stay s3.next s3 s6 := hs35.trans (hs56.weaken hs35.next)
  have hs26 : Stay s2.next s2 s6 := hs25.trans (hs56.weaken hs25.next)
  have hs06 : Stay s.next s s6 := hs05.trans (hs56.weaken hs05.next)
  have ht6 := ht5.keeps hs56
  have ho6 := ho3.keeps hs36
  have hn3 := hst3.next
  have hn2 := hst2.next
  have hn36 := hs36.next
  have l6 : loadA Try.prog s6 26 (.pointer (some ⟨s3.next, 0, some 6⟩)) = some (.agg cs'.toArray) := Thing.loadAll agO (by rw [hcl']; exact szO) ht6 (by rw [hcl'])
  
  have hend : ∀ (t : ASt) (o' : O) (cs'' : List Value) (G : Nat → Prop) (Q : Value → ASt → Prop), (∀ j, G j → s2.next ≤ j) → OIs G t cs'' o' → Stay s2.next s2 t → (∀ v s', NewO s o' v s' → Q v s') → ∀ t', Thing t' s1.next cs'' → t'.next = t.next → (∀ j, j ≠ s1.next → t'.heap.get j = t.heap.get j) → Q (.agg cs''.toArray) t' := by
    intro t o' cs'' G Q hG ho' hst' hQ t' ht' hnx' hot'
    refine hQ _ _ ⟨cs'', rfl, (ho'.turns (u := .pointer (some ⟨s1.next, 0, none⟩)) (Turns.ofPut hnx' hot') (fun j hj e => ?_)).mono (fun j hj => by have := hG j hj; omega), (hs2.trans (hst'.weaken hs2.next)).trans ⟨by omega, fun j hj => hot' j (by omega)⟩⟩
    have e : some s1.next = some j := e
    injection e with e; have := hG j hj; omega
  cases hh : o.has with
  | false =>
    simp (config := { maxSteps := 1000000, implicitDefEqProofs := false }) (disch := omega) only [allW, allR, oneOf, evalAll, partsA, optA, Nat.reduceLT, Nat.reduceLeDiff, Nat.reduceEqDiff, Nat.reduceAdd, ↓reduceIte, hn, h0, h1, l6]
    refine wstep_storeAll szO (by decide) (ht2.keeps hs26) rfl rfl hcl' ho6.ok ?_
    intro s7 ht7 hnx7 hot7
    have ht7 : Thing s7 s1.next cs' := ht7
    have l7 : loadA Try.prog s7 26 (.pointer (some ⟨s1.next, 0, some 6⟩)) = some (.agg cs'.toArray) := Thing.loadAll agO (by rw [hcl']; exact szO) ht7 (by rw [hcl'])
    simp (config := { maxSteps := 1000000, implicitDefEqProofs := false }) (disch := omega) only [allW, allR, wfn_ret, wfn_normal, oneOf, evalAll, partsA, optA, Nat.reduceLT, Nat.reduceLeDiff, Nat.reduceEqDiff, Nat.reduceAdd, ↓reduceIte, hn, l7, resultsA_cell, Try.results13]
    have e : setO o L = o := by unfold setO; rw [hh]; rfl
    rw [e]
    exact hend s6 o cs' _ _ (fun j hj => hj) ho6 hs26 (fun _ _ h => h) s7 ht7 hnx7 hot7
  | true =>
  have hx6 := hx.keeps hs06
  simp (config := { maxSteps := 1000000, implicitDefEqProofs := false }) (disch := omega) only [allW, allR, oneOf, evalAll, partsA, optA, Nat.reduceLT, Nat.reduceLeDiff, Nat.reduceEqDiff, Nat.reduceAdd, ↓reduceIte, hn, h0, h1, hx6.lenA Try.underlying24]
  clear la l6
  have ho3l := ho3.lows
  cases o with
  | mk kind num b l d =>
  obtain ⟨bv, lv, dv, lc, dc, rfl, hb3, hl3, hd3, fb3, fl3, fd3, rl3, rd3⟩ := ho3l.parts
  obtain ⟨G, hG⟩ : ∃ G : Nat → Prop, G = fun j => s2.next ≤ j ∧ j ≠ s3.next := ⟨_, rfl⟩
  have hGl : ∀ j, s2.next ≤ j ∧ j < s3.next → G j := fun j hj => by rw [hG]; exact ⟨hj.1, by omega⟩
  have hkk : setO (.mk kind num b l d) L = .mk kind num b l (putAll d L) := by unfold setO; rw [hh]; rfl
  refine Comes.loopOut (fun z f t => ∃ (i : Nat) (w : Value) (DC : List Value), z = L.length - i ∧ i ≤ L.length ∧ Sees t 6 w (putAll d (L.take i)).length DC ∧ Foot G w ∧ ORows EntIs 6 G t (putAll d (L.take i)) DC ∧ Thing t s3.next [.int .i64 kind, .int .i64 num, bv, lv, w] ∧ Stay s3.next s3 t ∧ f.n = 35 ∧ f.get 4 = .pointer (some ⟨s1.next, 0, some 6⟩) ∧ f.get 5 = .pointer (some ⟨s3.next, 0, some 6⟩) ∧ f.get 14 = x ∧ f.get 15 = .int .i64 (L.length : Nat) ∧ f.get 16 = .int .i64 (i : Nat))
    (fun z f t => z = .exit 0 ∧ ∃ (w : Value) (DC : List Value), Sees t 6 w (putAll d L).length DC ∧ Foot G w ∧ ORows EntIs 6 G t (putAll d L) DC ∧ Thing t s3.next [.int .i64 kind, .int .i64 num, bv, lv, w] ∧ Stay s3.next s3 t ∧ f.n = 35 ∧ f.get 4 = .pointer (some ⟨s1.next, 0, some 6⟩) ∧ f.get 5 = .pointer (some ⟨s3.next, 0, some 6⟩))
    ⟨0, dv, dc, rfl, by omega, by rw [List.take_zero]; exact hd3.keeps hs36, fd3.mono hGl, by rw [List.take_zero]; exact (rd3.mono rowedE hGl).keeps rowedE hs36, ht6, hs36, by simp only [get_put, n_put, ↓reduceIte, Nat.reduceEqDiff, hn], by simp only [get_put, n_put, ↓reduceIte, Nat.reduceEqDiff], by simp only [get_put, n_put, ↓reduceIte, Nat.reduceEqDiff], by simp only [get_put, n_put, ↓reduceIte, Nat.reduceEqDiff], by simp only [get_put, n_put, ↓reduceIte, Nat.reduceEqDiff], by simp only [get_put, n_put, ↓reduceIte, Nat.reduceEqDiff]; rfl⟩ ?_ ?_
  · clear hn h0 h1 f
    rintro Q hQ z f t ⟨i, w, DC, rfl, hi, hw, hwF, hwr, htt, hst, hn, h4, h5, h14, h15, h16⟩
    by_cases hlt : i < L.length
    rotate_left
    · obtain rfl : i = L.length := by omega
      rw [List.take_length] at hw hwr
      have d1 : ¬ ((L.length : Nat) : Int) < ((L.length : Nat) : Int) := by omega
      simp (config := { maxSteps := 1000000, implicitDefEqProofs := false }) (disch := omega) only [allW, allR, oneOf, evalAll, partsA, optA, Nat.reduceLT, Nat.reduceLeDiff, Nat.reduceEqDiff, Nat.reduceAdd, ↓reduceIte, hn, h4, h5, h14, h15, h16, eq_false d1]
      exact hQ _ _ _ ⟨rfl, w, DC, hw, hwF, hwr, htt, hst, by simp only [get_put, n_put, ↓reduceIte, Nat.reduceEqDiff, hn], by simp only [get_put, n_put, ↓reduceIte, Nat.reduceEqDiff, h4], by simp only [get_put, n_put, ↓reduceIte, Nat.reduceEqDiff, h5]⟩
    have d1 : (i : Int) < (L.length : Int) := by omega
    have hs2t : Stay s2.next s2 t := hst3.trans (hst.weaken hn3)
    have hs0t : Stay s.next s t := hs2.trans (hs2t.weaken hs2.next)
    have hxt := hx.keeps hs0t
    have hix := hxt.indexAddr (P := Try.prog) (k := .i64) (x := (i : Int)) Try.underlying24 szE (by omega) (by omega)
    rw [Int.toNat_natCast] at hix
    have hstn := hst.next
    have hll := hxt.loadAgg (P := Try.prog) agE szE hlt
    obtain ⟨r, hr1, hr2, hr3⟩ := hL.row i hlt
    have hrl := hr2.len
    rw [hr1] at hll
    obtain ⟨xs, hxs⟩ : ∃ xs, xs = Value.string ⟨(L[i].1).toArray⟩ :: r := ⟨_, rfl⟩
    rw [← hxs] at hll
    have hxl : xs.length = 6 := by rw [hxs]; simp [hrl]
    have hxok : xs.all okCell = true := by rw [hxs, List.all_cons, hr2.ok]; rfl
    simp (config := { maxSteps := 1000000, implicitDefEqProofs := false }) (disch := omega) only [allW, allR, oneOf, evalAll, partsA, optA, Nat.reduceLT, Nat.reduceLeDiff, Nat.reduceEqDiff, Nat.reduceAdd, ↓reduceIte, hn, h4, h5, h14, h15, h16, eq_true d1, hix, hll, zE, plE]
    refine wstep_newPtr ?_
    intro t1 ht1' hst1' hnx1'
    have hd7 : noneE.length + 1 = 7 := rfl
    simp (config := { maxSteps := 1000000, implicitDefEqProofs := false }) (disch := omega) only [allW, allR, oneOf, evalAll, partsA, optA, Nat.reduceLT, Nat.reduceLeDiff, Nat.reduceEqDiff, Nat.reduceAdd, ↓reduceIte, hn, h4, h5, h14, h15, h16, hd7]
    refine wstep_storeAll szE (by decide) ht1' rfl rfl hxl hxok ?_
    intro t2 ht2' hnx2' hot2'
    have ht2' : Thing t2 t.next xs := ht2'
    have hstt2 : Stay t.next t t2 := hst1'.trans ⟨by omega, fun j hj => hot2' j (by omega)⟩
    simp (config := { maxSteps := 1000000, implicitDefEqProofs := false }) (disch := omega) only [allW, allR, oneOf, evalAll, partsA, optA, Nat.reduceLT, Nat.reduceLeDiff, Nat.reduceEqDiff, Nat.reduceAdd, ↓reduceIte, hn, h4, h5, h14, h15, h16]
    obtain ⟨A, hA⟩ : ∃ A : Nat → Bool, A = fun j => decide (j < t2.next) := ⟨_, rfl⟩
    have hAl : ∀ j, A j = true → j < t2.next := by
      intro j h
      rw [hA] at h
      exact of_decide_eq_true h
    have hAo : ∀ j, j < t2.next → A j = true := fun j h => by rw [hA]; exact decide_eq_true h
    refine LB.Drawn.looseK A hAl 2 0 (by kernel_rfl) (by kernel_rfl) ?_
    have hsp := Stay.spare t2 0
    have hnT : (spare t2 0).next = t2.next + 0 := spare_next _ _
    have hst02 : Stay t.next t (spare t2 0) := hstt2.trans (hsp.weaken hstt2.next)
    have htO := htt.keeps hst02
    have htE := ht2'.keeps hsp
    have hw2 := hw.keeps hst02
    have hwr2 := hwr.keeps rowedE hst02
    have hnt2 := hstt2.next
    have hlow5 : ∀ k, LA.lowV A (some (.pointer (some ⟨s3.next, k, some 6⟩))) = true := fun k => LA.lowV_ptr (A := A) (i := s3.next) (hAo _ (by have := htt.lt; omega))
    have hlow7 : ∀ k, LA.lowV A (some (.pointer (some ⟨t.next, k, some 7⟩))) = true := fun k => LA.lowV_ptr (A := A) (i := t.next) (hAo _ ht2'.lt)
    cases hLi : L[i] with
    | mk ek ev =>
    rw [hLi] at hr2 hr3 hxs
    cases ev with
    | mk ekd en eb el ed =>
    obtain ⟨xb, xl, xd, xlc, xdc, rfl, -⟩ := hr2.parts
    have l20 : loadA Try.prog (spare t2 0) 24 (.pointer (some ⟨s3.next, 4, some 6⟩)) = some w := htO.load agDs (off := 4) (c := 6) rfl (by simp)
    have l22 : loadA Try.prog (spare t2 0) 9 (.pointer (some ⟨t.next, 0, some 7⟩)) = some (.string ⟨ek.toArray⟩) := by
      have := htE.load (P := Try.prog) agStr (off := 0) (c := 7) (by rw [hxl]) (by omega)
      rw [this, hxs]; rfl
    have l24 : loadA Try.prog (spare t2 0) 26 (.pointer (some ⟨t.next, 1, some 7⟩)) = some (.agg #[.int .i64 ekd, .int .i64 en, xb, xl, xd]) := by
      have := Thing.loadMid (P := Try.prog) agO szO htE (off := 1) (c := 7) (by rw [hxl]) (by omega)
      rw [this, hxs, List.drop_succ_cons, List.drop_zero, List.take_of_length_le (by simp)]
    have hoi := hr2.keeps (hs0t.trans (hst02.weaken hs0t.next))
    simp (config := { maxSteps := 1000000, implicitDefEqProofs := false }) (disch := omega) only [allW, allR, allL, allB, Nat.sub_self, Nat.add_one_sub_one, Nat.reduceSub, oneOf, evalAll, partsA, optA, Nat.reduceLT, Nat.reduceLeDiff, Nat.reduceEqDiff, Nat.reduceAdd, ↓reduceIte, hn, h4, h5, h14, h15, h16, of0, of4, ofE0, ofE1, hlow5, hlow7, l20, l22, l24, hw2.self, hoi.self, valEq_string]
    refine (pair_any hlp hlc hlcl F (spare t2 0) ek _ _ hoi (by have := hLs _ (List.getElem_mem hlt); rw [hLi] at this; exact this)).mono ?_
    rintro _ t3 ⟨cp, rfl, hcp, hst3'⟩
    have hcpl := hcp.len
    have htO3 := htO.keeps hst3'
    have htE3 := htE.keeps hst3'
    have hw3 := hw2.keeps hst3'
    have hwr3 := hwr2.keeps rowedE hst3'
    have hn3' := hst3'.next
    refine ⟨fun _ => LA.Stay.toA hAl (hst3'.weaken (by omega)), ?_⟩
    have l29 : loadA Try.prog t3 3 (.pointer (some ⟨t.next, 1, some 7⟩)) = some (.int .i64 ekd) := by
      have := htE3.load (P := Try.prog) agInt (off := 1) (c := 7) (by rw [hxl]) (by omega)
      rw [this, hxs]; rfl
    have hcps : valEq (.agg (.string ⟨ek.toArray⟩ :: cp).toArray) (.agg (.string ⟨ek.toArray⟩ :: cp).toArray) = true := by
      have := hcp.self
      match cp, hcpl, this with
      | [a, b, c, d, e], _, this =>
        simp [valEq, valEqL] at this ⊢
        exact ⟨by simp [valEq1], this⟩
    simp (config := { maxSteps := 1000000, implicitDefEqProofs := false }) (disch := omega) only [allW, allR, allL, allB, Nat.sub_self, Nat.add_one_sub_one, Nat.reduceSub, oneOf, evalAll, partsA, optA, Nat.reduceLT, Nat.reduceLeDiff, Nat.reduceEqDiff, Nat.reduceAdd, ↓reduceIte, hn, h4, h5, h14, h15, h16, of0, of4, hlow5, hlow7, l29, hw3.self, hcps]
    have hG3 : ∀ j, t3.next ≤ j → G j := fun j hj => by rw [hG]; exact ⟨by omega, by have := htO3.lt; omega⟩
    have hlen5 := putAll_len d (L.take i)
    have hdl : d.length ≤ 100000 := by cases hsm; assumption
    rw [List.length_take] at hlen5
    have hcpG : OIs G t3 cp (.mk ekd en eb el ed) := hcp.mono (fun j hj => by rw [hG]; exact ⟨by omega, by have := htO3.lt; omega⟩)
    refine (sorted_any hlo hl1 hl2 hld hli hlcE hlk hls hlb hp G t3 w _ DC hw3 hwr3 (by omega) (ek, .mk ekd en eb el ed) _ ⟨cp, rfl, hcpG, hr3⟩ (decide (ekd ≠ 0))).mono ?_
    rintro w' t4 ⟨LC, hw4, hwF4, hst4', hwr4⟩
    refine ⟨fun _ => LA.Stay.toA hAl (hst4'.weaken (by omega)), ?_⟩
    have hputE : putAll d (L.take (i + 1)) = putK (putAll d (L.take i)) (ek, .mk ekd en eb el ed) (decide (ekd ≠ 0)) := by
      rw [putAll_take hlt, hLi, putE_eq]; rfl
    rw [← hputE] at hw4 hwr4
    have htO4 := htO3.keeps hst4'
    refine LB.sstep_storeN szDs (by decide) htO4 (off := 4) (c := 6) rfl (vs := [w']) hw4.sees.cell1 rfl (by simp) (by simp [hw4.sees.okCell]) (fun h => absurd rfl h) ?_
    intro t5 ht5' hnx5' hot5'
    have ht5' : Thing t5 s3.next [.int .i64 kind, .int .i64 num, bv, lv, w'] := ht5'
    have hne : ∀ j, G j → idOf (.pointer (some ⟨s3.next, 0, none⟩)) ≠ some j := fun j hj e => by
      have e : some s3.next = some j := e
      injection e with e
      rw [hG] at hj; exact hj.2 e.symm
    have hwG : ∀ j, idOf w' = some j → G j := fun j hj => hG3 j (hwF4 j hj)
    have hst45 : Stay s3.next t4 t5 := ⟨by omega, fun j hj => hot5' j (by omega)⟩
    have hw5 : Own t5 6 w' (putAll d (L.take (i + 1))).length LC := hw4.ofPut hnx5' hot5' (fun e => hne _ (hwG _ e) rfl)
    have hwr5 := ((hwr4.mono rowedE (fun j hj => hj.1)).turns rowedE (Turns.ofPut hnx5' hot5') hne)
    simp (config := { maxSteps := 1000000, implicitDefEqProofs := false }) (disch := omega) only [allW, allR, allL, allB, Nat.sub_self, Nat.add_one_sub_one, Nat.reduceSub, oneOf, evalAll, partsA, optA, Nat.reduceLT, Nat.reduceLeDiff, Nat.reduceEqDiff, Nat.reduceAdd, ↓reduceIte, hn, h4, h5, h14, h15, h16, wrapI]
    exact wround_next (L.length - (i + 1)) (by omega) ⟨i + 1, w', LC, rfl, by omega, hw5.sees, Foot.of_id hwG, hwr5, ht5', (((hst.trans (hst02.weaken hstn)).trans (hst3'.weaken (by omega))).trans (hst4'.weaken (by omega))).trans hst45, by simp only [get_put, n_put, ↓reduceIte, Nat.reduceEqDiff, hn], by simp only [get_put, n_put, ↓reduceIte, Nat.reduceEqDiff, h4], by simp only [get_put, n_put, ↓reduceIte, Nat.reduceEqDiff, h5], by simp only [get_put, n_put, ↓reduceIte, Nat.reduceEqDiff, h14], by simp only [get_put, n_put, ↓reduceIte, Nat.reduceEqDiff, h15], by simp only [get_put, n_put, ↓reduceIte, Nat.reduceEqDiff]; rfl⟩
  clear hn h0 h1 f
  rintro z f t ⟨rfl, w, DC, hw, hwF, hwr, htt, hst, hn, h4, h5⟩
  have hfin : OIs G t [.int .i64 kind, .int .i64 num, bv, lv, w] (.mk kind num b l (putAll d L)) := OIs.whole (hb3.keeps hst) (hl3.keeps hst) hw (fb3.mono hGl) (fl3.mono hGl) hwF ((rl3.mono rowedO hGl).keeps rowedO hst) hwr
  have l9 : loadA Try.prog t 26 (.pointer (some ⟨s3.next, 0, some 6⟩)) = some (.agg #[.int .i64 kind, .int .i64 num, bv, lv, w]) := Thing.loadAll agO (cs := [.int .i64 kind, .int .i64 num, bv, lv, w]) szO htt rfl
  have hs2t : Stay s2.next s2 t := hst3.trans (hst.weaken hn3)
  simp (config := { maxSteps := 1000000, implicitDefEqProofs := false }) (disch := omega) only [allW, allR, oneOf, evalAll, partsA, optA, Nat.reduceLT, Nat.reduceLeDiff, Nat.reduceEqDiff, Nat.reduceAdd, ↓reduceIte, hn, h4, h5, l9]
  refine wstep_storeAll szO (by decide) (ht2.keeps hs2t) rfl rfl rfl hfin.ok ?_
  intro s7 ht7 hnx7 hot7
  have ht7 : Thing s7 s1.next [.int .i64 kind, .int .i64 num, bv, lv, w] := ht7
  have l7 : loadA Try.prog s7 26 (.pointer (some ⟨s1.next, 0, some 6⟩)) = some (.agg #[.int .i64 kind, .int .i64 num, bv, lv, w]) := Thing.loadAll agO (cs := [.int .i64 kind, .int .i64 num, bv, lv, w]) szO ht7 rfl
  simp (config := { maxSteps := 1000000, implicitDefEqProofs := false }) (disch := omega) only [allW, allR, wfn_ret, wfn_normal, oneOf, evalAll, partsA, optA, Nat.reduceLT, Nat.reduceLeDiff, Nat.reduceEqDiff, Nat.reduceAdd, ↓reduceIte, hn, h4, l7, resultsA_cell, Try.results13]
  rw [hkk]
  exact hend t _ _ G _ (fun j hj => by rw [hG] at hj; exact hj.1) hfin hs2t (fun _ _ h => h) s7 ht7 hnx7 hot7
end Go.Proofs.Ytdhdhbkikhedlaa
