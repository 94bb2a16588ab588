/-
  Objects: Dict, Stream, Drop, Get, Arr and the small ones.
-/
import Derived.Test.YtdhdhbkikhedlaaCosJ
set_option linter.unusedSimpArgs false
set_option linter.unusedVariables false
set_option maxRecDepth 100000
namespace Go.Cl
theorem OIs.ofPut {F : Nat → Prop} {s s' : ASt} {cs : List Value} {o : O} {i : Nat} (h : OIs F s cs o) (h1 : s'.next = s.next) (h2 : ∀ q, q ≠ i → s'.heap.get q = s.heap.get q) (hF : ¬ F i) : OIs F s' cs o :=
  h.turns (u := .pointer (some ⟨i, 0, Option.none⟩)) (Turns.ofPut h1 h2) (fun j hj e => by
    have e : some i = some j := e
    injection e with e; subst e; exact hF hj)
theorem OIs.bare (F : Nat → Prop) (s : ASt) (k n : Int) : OIs F s [.int .i64 k, .int .i64 n, .slice Option.none 0 0, .slice Option.none 0 0, .slice Option.none 0 0] (.mk k n [] [] []) :=
  OIs.whole .nil .nil .nil trivial trivial trivial ORows.nil ORows.nil
theorem Small.bare (k n : Int) : Small (.mk k n [] [] []) := .mk (by simp) (by simp) (by simp) (fun e h => by cases h) (fun e h => by cases h) (fun e h => by cases h)
theorem Small.none : Small O.none := Small.bare 0 0
def findE (d : List (List UInt8 × O)) (k : List UInt8) : O := match d.find? (fun y => y.1 == k) with
  | some e => e.2
  | Option.none => O.none
def getO (o : O) (k : List UInt8) : O := if o.has then findE o.ents k else O.none
theorem findE_at {d : List (List UInt8 × O)} {k : List UInt8} {i : Nat} (hi : i < d.length) (h1 : d[i].1 = k) (h2 : ∀ j (h : j < i), d[j].1 ≠ k) : findE d k = d[i].2 := by
  unfold findE
  have : d.find? (fun y => y.1 == k) = some d[i] := by
    rw [List.find?_eq_some_iff_getElem]
    refine ⟨by simpa using h1, i, hi, rfl, fun j hj => ?_⟩
    have := h2 j hj
    simpa using this
  rw [this]
theorem findE_none {d : List (List UInt8 × O)} {k : List UInt8} (h2 : ∀ j (h : j < d.length), d[j].1 ≠ k) : findE d k = O.none := by
  unfold findE
  have : d.find? (fun y => y.1 == k) = none := by
    rw [List.find?_eq_none]
    intro y hy
    obtain ⟨j, hj, rfl⟩ := List.mem_iff_getElem.1 hy
    simpa using h2 j hj
  rw [this]
end Go.Cl
namespace Go.Proofs.Ytdhdhbkikhedlaa
open Go.Cl Go.Lib
structure LibC (lib : Prims) : Prop where
  set : lib.at 13 = none
  pair : lib.at 39 = none
  sorted : lib.at 47 = none
  c1 : lib.at 63 = none
  c2 : lib.at 64 = none
  del : lib.at 65 = none
  idx : lib.at 62 = none
  cloneE : lib.at 66 = none
  byKey : lib.at 48 = none
  cmp : lib.at 67 = none
  cmpB : lib.at 78 = none
  prim : lib.at 83 = some pCmpStr
  entries : lib.at 46 = none
  copy : lib.at 30 = none
  clone : lib.at 52 = none
  dict : lib.at 20 = none
  stream : lib.at 22 = none
  drop : lib.at 15 = none
  get : lib.at 18 = none
  int : lib.at 41 = none
  nothing : lib.at 43 = none
  arr : lib.at 24 = none
  str : lib.at 26 = none
  name : lib.at 28 = none
theorem setC {lib : Prims} (L : LibC lib) (F : Nat → Prop) (s : ASt) (cs : List Value) (o : O) (ho : OIs F s cs o) (hsm : Small o) (x : Value) (l : List (List UInt8 × O)) (lx : List Value) (hx : Sees s 6 x l.length lx) (hL : ORows EntIs 6 F s l lx) (hLn : l.length ≤ 100000) (hLs : ∀ e ∈ l, Small e.2) :
    Runs Try.prog lib 13 [.agg cs.toArray, x] s (NewO s (setO o l)) :=
  set_any L.set L.pair L.entries L.copy L.clone L.sorted L.c1 L.c2 L.del L.idx L.cloneE L.byKey L.cmp L.cmpB L.prim F s cs o ho hsm x l lx hx hL hLn hLs
theorem bO (k n : Int) : buildA Try.prog 26 [(0, .int .i64 k), (1, .int .i64 n)] = some (.agg #[.int .i64 k, .int .i64 n, .slice none 0 0, .slice none 0 0, .slice none 0 0]) := by
  unfold buildA; rw [Try.underlying26]
  have hz : zeroB Try.prog 26 = some (.agg #[.int .i64 0, .int .i64 0, .slice none 0 0, .slice none 0 0, .slice none 0 0]) := by kernel_rfl
  rw [hz]
  have ci : ∀ k n, (Value.int k n).cells = #[.int k n] := fun _ _ => rfl
  simp [szInt, szI64, szSl, szLs, szDs, plainV, plain1, fillA, placeOf, cells_agg, setAt, ci]
theorem bO1 (k : Int) : buildA Try.prog 26 [(0, .int .i64 k)] = some (.agg #[.int .i64 k, .int .i64 0, .slice none 0 0, .slice none 0 0, .slice none 0 0]) := by
  unfold buildA; rw [Try.underlying26]
  have hz : zeroB Try.prog 26 = some (.agg #[.int .i64 0, .int .i64 0, .slice none 0 0, .slice none 0 0, .slice none 0 0]) := by kernel_rfl
  rw [hz]
  have ci : ∀ k n, (Value.int k n).cells = #[.int k n] := fun _ _ => rfl
  simp [szInt, szI64, szSl, szLs, szDs, plainV, plain1, fillA, placeOf, cells_agg, setAt, ci]
theorem bO0 : buildA Try.prog 26 [] = some (.agg #[.int .i64 0, .int .i64 0, .slice none 0 0, .slice none 0 0, .slice none 0 0]) := by kernel_rfl
theorem NewO.put {s t t' : ASt} {i : Nat} {F : Nat → Prop} {cs : List Value} {o : O} (h : OIs F t cs o) (hF : ∀ j, F j → s.next ≤ j ∧ j ≠ i) (h1 : t'.next = t.next) (h2 : ∀ q, q ≠ i → t'.heap.get q = t.heap.get q) (hs : Stay s.next s t) (hi : s.next ≤ i) : NewO s o (.agg cs.toArray) t' :=
  ⟨cs, rfl, (h.ofPut h1 h2 (fun q => (hF i q).2 rfl)).mono (fun j hj => (hF j hj).1), hs.trans ⟨by omega, fun j hj => h2 j (by omega)⟩⟩
theorem Thing.loadO {s : ASt} {i : Nat} {cs : List Value} (h : Thing s i cs) (hl : cs.length = 5) : loadA Try.prog s 26 (.pointer (some ⟨i, 0, some 6⟩)) = some (.agg cs.toArray) := Thing.loadAll agO (by rw [hl]; exact szO) h (by rw [hl])
theorem none_any {lib : Prims} (hl : lib.at 43 = none) (s : ASt) : Runs Try.prog lib 43 [] s (NewO s O.none) := by
  refine Runs.enter 2 Try.func43 rfl hl rfl rfl ?_
  intro f hn _
  simp (config := { maxSteps := 1000000, implicitDefEqProofs := false }) (disch := omega) only [allW, allR, oneOf, evalAll, partsA, optA, Nat.reduceLT, Nat.reduceLeDiff, Nat.reduceEqDiff, Nat.reduceAdd, ↓reduceIte, hn, zO, plO]
  refine wstep_newPtr ?_
  intro s1 ht1 hst1 hnx1
  have hd6 : noneC.length + 1 = 6 := rfl
  simp (config := { maxSteps := 1000000, implicitDefEqProofs := false }) (disch := omega) only [allW, allR, oneOf, evalAll, partsA, optA, Nat.reduceLT, Nat.reduceLeDiff, Nat.reduceEqDiff, Nat.reduceAdd, ↓reduceIte, hn, hd6, bO0]
  refine wstep_storeAll szO (by decide) ht1 rfl rfl rfl rfl ?_
  intro s2 ht2 hnx2 hot2
  simp (config := { maxSteps := 1000000, implicitDefEqProofs := false }) (disch := omega) only [allW, allR, wfn_ret, wfn_normal, oneOf, evalAll, partsA, optA, Nat.reduceLT, Nat.reduceLeDiff, Nat.reduceEqDiff, Nat.reduceAdd, ↓reduceIte, hn, Thing.loadO ht2 rfl, resultsA_cell, Try.results43]
  exact NewO.put (F := fun _ => False) (OIs.none _ s1) (fun j hj => hj.elim) hnx2 hot2 hst1 (Nat.le_refl _)
theorem int_any {lib : Prims} (hl : lib.at 41 = none) (s : ASt) (n : Int) : Runs Try.prog lib 41 [.int .i64 n] s (NewO s (.mk 2 n [] [] [])) := by
  refine Runs.enter 5 Try.func41 rfl hl rfl rfl ?_
  intro f hn hf
  have h0 : f.get 0 = .int .i64 n := hf 0
  clear hf
  simp (config := { maxSteps := 1000000, implicitDefEqProofs := false }) (disch := omega) only [allW, allR, oneOf, evalAll, partsA, optA, Nat.reduceLT, Nat.reduceLeDiff, Nat.reduceEqDiff, Nat.reduceAdd, ↓reduceIte, hn, zO, plO]
  refine wstep_newPtr ?_
  intro s1 ht1 hst1 hnx1
  have hd6 : noneC.length + 1 = 6 := rfl
  simp (config := { maxSteps := 1000000, implicitDefEqProofs := false }) (disch := omega) only [allW, allR, oneOf, evalAll, partsA, optA, Nat.reduceLT, Nat.reduceLeDiff, Nat.reduceEqDiff, Nat.reduceAdd, ↓reduceIte, hn, h0, hd6, bO]
  refine wstep_storeAll szO (by decide) ht1 rfl rfl rfl rfl ?_
  intro s2 ht2 hnx2 hot2
  simp (config := { maxSteps := 1000000, implicitDefEqProofs := false }) (disch := omega) only [allW, allR, wfn_ret, wfn_normal, oneOf, evalAll, partsA, optA, Nat.reduceLT, Nat.reduceLeDiff, Nat.reduceEqDiff, Nat.reduceAdd, ↓reduceIte, hn, Thing.loadO ht2 rfl, resultsA_cell, Try.results41]
  exact NewO.put (F := fun _ => False) (OIs.bare _ s1 2 n) (fun j hj => hj.elim) hnx2 hot2 hst1 (Nat.le_refl _)
theorem dict_any {lib : Prims} (L : LibC lib) (F : Nat → Prop) (s : ASt) (x : Value) (l : List (List UInt8 × O)) (lx : List Value) (hx : Sees s 6 x l.length lx) (hL : ORows EntIs 6 F s l lx) (hLn : l.length ≤ 100000) (hLs : ∀ e ∈ l, Small e.2) :
    Runs Try.prog lib 20 [x] s (NewO s (.mk 7 0 [] [] (putAll [] l))) := by
  refine Runs.enter 6 Try.func20 rfl L.dict rfl rfl ?_
  intro f hn hf
  have h0 : f.get 0 = x := hf 0
  clear hf
  simp (config := { maxSteps := 1000000, implicitDefEqProofs := false }) (disch := omega) only [allW, allR, oneOf, evalAll, partsA, optA, Nat.reduceLT, Nat.reduceLeDiff, Nat.reduceEqDiff, Nat.reduceAdd, ↓reduceIte, hn, h0, zO, plO]
  refine wstep_newPtr ?_
  intro s1 ht1 hst1 hnx1
  have hd6 : noneC.length + 1 = 6 := rfl
  simp (config := { maxSteps := 1000000, implicitDefEqProofs := false }) (disch := omega) only [allW, allR, oneOf, evalAll, partsA, optA, Nat.reduceLT, Nat.reduceLeDiff, Nat.reduceEqDiff, Nat.reduceAdd, ↓reduceIte, hn, h0, hd6, bO1]
  refine (setC L F s1 _ _ (OIs.bare F s1 7 0) (Small.bare 7 0) x l lx (hx.keeps hst1) (hL.keeps rowedE hst1) hLn hLs).mono ?_
  rintro _ s2 ⟨cs', rfl, ho2, hst2⟩
  have hcl := ho2.len
  simp (config := { maxSteps := 1000000, implicitDefEqProofs := false }) (disch := omega) only [allW, allR, oneOf, evalAll, partsA, optA, Nat.reduceLT, Nat.reduceLeDiff, Nat.reduceEqDiff, Nat.reduceAdd, ↓reduceIte, hn, h0]
  refine wstep_storeAll szO (by decide) (ht1.keeps hst2) rfl rfl hcl ho2.ok ?_
  intro s3 ht3 hnx3 hot3
  simp (config := { maxSteps := 1000000, implicitDefEqProofs := false }) (disch := omega) only [allW, allR, wfn_ret, wfn_normal, oneOf, evalAll, partsA, optA, Nat.reduceLT, Nat.reduceLeDiff, Nat.reduceEqDiff, Nat.reduceAdd, ↓reduceIte, hn, Thing.loadO ht3 hcl, resultsA_cell, Try.results20]
  exact NewO.put ho2 (fun j hj => ⟨by omega, by omega⟩) hnx3 hot3 (hst1.trans (hst2.weaken hst1.next)) (Nat.le_refl _)
end Go.Proofs.Ytdhdhbkikhedlaa
namespace Go.Cl
end Go.Cl
namespace Go.Proofs.Ytdhdhbkikhedlaa
open Go.Cl Go.Lib
set_option maxHeartbeats 4000000 in
theorem get_any {lib : Prims} (hl : lib.at 18 = none) (hle : lib.at 46 = none) (hlc : lib.at 30 = none) (hlcl : lib.at 52 = none) (hln : lib.at 43 = none) (F : Nat → Prop) (s : ASt) (cs : List Value) (o : O) (ho : OIs F s cs o) (hsm : Small o) (k : List UInt8) :
    Runs Try.prog lib 18 [.agg cs.toArray, .string ⟨k.toArray⟩] s (NewO s (getO o k)) := by
  have hcl := ho.len
  refine Runs.enter 25 Try.func18 rfl hl rfl rfl ?_
  intro f hn hf
  have h0 : f.get 0 = .agg cs.toArray := hf 0
  have h1 : f.get 1 = .string ⟨k.toArray⟩ := hf 1
  clear hf
  simp (config := { maxSteps := 1000000, implicitDefEqProofs := false }) (disch := omega) only [allW, allR, oneOf, evalAll, partsA, optA, Nat.reduceLT, Nat.reduceLeDiff, Nat.reduceEqDiff, Nat.reduceAdd, ↓reduceIte, hn, h0, h1]
  refine wstep_newPtr ?_
  intro s1 ht1 hst1 hnx1
  have hd6 : noneC.length + 1 = 6 := rfl
  simp (config := { maxSteps := 1000000, implicitDefEqProofs := false }) (disch := omega) only [allW, allR, oneOf, evalAll, partsA, optA, Nat.reduceLT, Nat.reduceLeDiff, Nat.reduceEqDiff, Nat.reduceAdd, ↓reduceIte, hn, h0, h1, hcl, zO, plO]
  refine wstep_newPtr ?_
  intro s2 ht2 hst2 hnx2
  have hs2 : Stay s.next s s2 := hst1.trans (hst2.weaken (by omega))
  have ht12 := ht1.keeps hst2
  simp (config := { maxSteps := 1000000, implicitDefEqProofs := false }) (disch := omega) only [allW, allR, oneOf, evalAll, partsA, optA, Nat.reduceLT, Nat.reduceLeDiff, Nat.reduceEqDiff, Nat.reduceAdd, ↓reduceIte, hn, h0, h1, Thing.loadO ht12 hcl, hd6]
  refine (entries_any hle F s2 cs o (ho.keeps hs2)).mono ?_
  rintro _ s3 ⟨rfl, hst3⟩
  have ht13 := ht12.keeps hst3
  have ht23 := ht2.keeps hst3
  have hs3 := hs2.trans (hst3.weaken hs2.next)
  cases hh : o.has with
  | false =>
    have e : getO o k = O.none := by unfold getO; rw [hh]; rfl
    rw [e]
    simp (config := { maxSteps := 1000000, implicitDefEqProofs := false }) (disch := omega) only [allW, allR, oneOf, evalAll, partsA, optA, Nat.reduceLT, Nat.reduceLeDiff, Nat.reduceEqDiff, Nat.reduceAdd, ↓reduceIte, hn, h0, h1]
    refine (none_any hln s3).mono ?_
    rintro _ q4 ⟨cs', rfl, ho4, hq4⟩
    have hcl4 := ho4.len
    have q24 := (hst3).trans (hq4.weaken (hst3).next)
    have hn1 := hst1.next
    have hn2 := hs2.next
    have hn3 := (hst3).next
    simp (config := { maxSteps := 1000000, implicitDefEqProofs := false }) (disch := omega) only [allW, allR, oneOf, evalAll, partsA, optA, Nat.reduceLT, Nat.reduceLeDiff, Nat.reduceEqDiff, Nat.reduceAdd, ↓reduceIte, hn, h0, h1]
    refine wstep_storeAll szO (by decide) (ht2.keeps q24) rfl rfl hcl4 ho4.ok ?_
    intro q5 ht5 hnx5 hot5
    simp (config := { maxSteps := 1000000, implicitDefEqProofs := false }) (disch := omega) only [allW, allR, wfn_ret, wfn_normal, oneOf, evalAll, partsA, optA, Nat.reduceLT, Nat.reduceLeDiff, Nat.reduceEqDiff, Nat.reduceAdd, ↓reduceIte, hn, h0, h1, Thing.loadO ht5 hcl4, resultsA_cell, Try.results18]
    exact NewO.put ho4 (fun j hj => ⟨by omega, by omega⟩) hnx5 hot5 (hs2.trans (q24.weaken hs2.next)) hn1
  | true =>
  cases o with
  | mk kind num b l d =>
  obtain ⟨bv, lv, dv, lc, dc, rfl, hb, hL, hD, fb, fl, fd, rl, rd⟩ := ho.parts
  cases hsm with
  | mk hb1 hl2 hd1 hK1 hL1 hD1 =>
  have hg : getO (.mk kind num b l d) k = findE d k := by unfold getO; rw [hh]; rfl
  have hD3 := hD.keeps hs3
  have l9 : loadA Try.prog s3 24 (.pointer (some ⟨s.next, 4, some 6⟩)) = some dv := ht13.load agDs (off := 4) (c := 6) rfl (by simp)
  simp (config := { maxSteps := 1000000, implicitDefEqProofs := false }) (disch := omega) only [allW, allR, oneOf, evalAll, partsA, optA, Nat.reduceLT, Nat.reduceLeDiff, Nat.reduceEqDiff, Nat.reduceAdd, ↓reduceIte, hn, h0, h1, of4, l9, hD3.lenA Try.underlying24]
  refine Comes.loopOut (fun z f t => ∃ i : Nat, z = d.length - i ∧ i ≤ d.length ∧ (∀ j (h : j < d.length), j < i → d[j].1 ≠ k) ∧ Stay s2.next s2 t ∧ f.n = 25 ∧ f.get 1 = .string ⟨k.toArray⟩ ∧ f.get 4 = .pointer (some ⟨s1.next, 0, some 6⟩) ∧ f.get 10 = dv ∧ f.get 11 = .int .i64 (d.length : Nat) ∧ f.get 12 = .int .i64 (i : Nat))
    (fun z f t => (z = .ret ∧ f.n = 25 ∧ f.get 4 = .pointer (some ⟨s1.next, 0, some 6⟩) ∧ ∃ cs', Thing t s1.next cs' ∧ OIs (fun j => s2.next ≤ j) t cs' (getO (.mk kind num b l d) k) ∧ Stay s.next s t) ∨ (z = .exit 0 ∧ f.n = 25 ∧ f.get 4 = .pointer (some ⟨s1.next, 0, some 6⟩) ∧ getO (.mk kind num b l d) k = O.none ∧ Stay s2.next s2 t))
    ⟨0, rfl, by omega, fun j h h' => by omega, hst3, by simp only [get_put, n_put, ↓reduceIte, Nat.reduceEqDiff, hn], by simp only [get_put, n_put, ↓reduceIte, Nat.reduceEqDiff, h1], by simp only [get_put, n_put, ↓reduceIte, Nat.reduceEqDiff], by simp only [get_put, n_put, ↓reduceIte, Nat.reduceEqDiff], by simp only [get_put, n_put, ↓reduceIte, Nat.reduceEqDiff], by simp only [get_put, n_put, ↓reduceIte, Nat.reduceEqDiff]; rfl⟩ ?_ ?_
  · clear hn h0 h1 f
    rintro Q hQ z f t ⟨i, rfl, hi, hP, hst, hn, h1, h4, h10, h11, h12⟩
    by_cases hlt : i < d.length
    rotate_left
    · obtain rfl : i = d.length := by omega
      have d1 : ¬ ((d.length : Nat) : Int) < ((d.length : Nat) : Int) := by omega
      simp (config := { maxSteps := 1000000, implicitDefEqProofs := false }) (disch := omega) only [allW, allR, oneOf, evalAll, partsA, optA, Nat.reduceLT, Nat.reduceLeDiff, Nat.reduceEqDiff, Nat.reduceAdd, ↓reduceIte, hn, h1, h4, h10, h11, h12, eq_false d1]
      exact hQ _ _ _ (.inr ⟨rfl, by simp only [get_put, n_put, ↓reduceIte, Nat.reduceEqDiff, hn], by simp only [get_put, n_put, ↓reduceIte, Nat.reduceEqDiff, h4], by rw [hg]; exact findE_none (fun j h => hP j h h), hst⟩)
    have d1 : (i : Int) < (d.length : Int) := by omega
    have hst0 : Stay s.next s t := hs2.trans (hst.weaken hs2.next)
    have hDt := hD.keeps hst0
    have hix := hDt.indexAddr (P := Try.prog) (k := .i64) (x := (i : Int)) Try.underlying24 szE (by omega) (by omega)
    rw [Int.toNat_natCast] at hix
    have hll := hDt.loadAgg (P := Try.prog) agE szE hlt
    obtain ⟨r, hr1, hr2, hr3⟩ := rd.row i hlt
    have hrl := hr2.len
    rw [hr1] at hll
    obtain ⟨xs, hxs⟩ : ∃ xs, xs = Value.string ⟨(d[i].1).toArray⟩ :: r := ⟨_, rfl⟩
    rw [← hxs] at hll
    have hxl : xs.length = 6 := by rw [hxs]; simp [hrl]
    have hxok : xs.all okCell = true := by rw [hxs, List.all_cons, hr2.ok]; rfl
    have hd7 : noneE.length + 1 = 7 := rfl
    simp (config := { maxSteps := 1000000, implicitDefEqProofs := false }) (disch := omega) only [allW, allR, oneOf, evalAll, partsA, optA, Nat.reduceLT, Nat.reduceLeDiff, Nat.reduceEqDiff, Nat.reduceAdd, ↓reduceIte, hn, h1, h4, h10, h11, h12, eq_true d1, hix, hll, zE, plE]
    refine wstep_newPtr ?_
    intro t1 ht1' hst1' hnx1'
    simp (config := { maxSteps := 1000000, implicitDefEqProofs := false }) (disch := omega) only [allW, allR, oneOf, evalAll, partsA, optA, Nat.reduceLT, Nat.reduceLeDiff, Nat.reduceEqDiff, Nat.reduceAdd, ↓reduceIte, hn, h1, h4, h10, h11, h12, hd7]
    refine wstep_storeAll szE (by decide) ht1' rfl rfl hxl hxok ?_
    intro t2 ht2' hnx2' hot2'
    have ht2' : Thing t2 t.next xs := ht2'
    have hstt2 : Stay t.next t t2 := hst1'.trans ⟨by omega, fun j hj => hot2' j (by omega)⟩
    have l17 : loadA Try.prog t2 9 (.pointer (some ⟨t.next, 0, some 7⟩)) = some (.string ⟨(d[i].1).toArray⟩) := by
      have := ht2'.load (P := Try.prog) agStr (off := 0) (c := 7) (by rw [hxl]) (by omega)
      rw [this, hxs]; rfl
    have l21 : loadA Try.prog t2 26 (.pointer (some ⟨t.next, 1, some 7⟩)) = some (.agg r.toArray) := by
      have := Thing.loadMid (P := Try.prog) agO szO ht2' (off := 1) (c := 7) (by rw [hxl]) (by omega)
      rw [this, hxs, List.drop_succ_cons, List.drop_zero, List.take_of_length_le (by omega)]
    have hs2t : Stay s2.next s2 t2 := hst.trans (hstt2.weaken hst.next)
    have hs0t : Stay s.next s t2 := hs2.trans (hs2t.weaken hs2.next)
    by_cases hke : d[i].1 = k
    · have hsmi : Small d[i].2 := hD1 _ (List.getElem_mem hlt)
      simp (config := { maxSteps := 1000000, implicitDefEqProofs := false }) (disch := omega) only [allW, allR, oneOf, evalAll, partsA, optA, Nat.reduceLT, Nat.reduceLeDiff, Nat.reduceEqDiff, Nat.reduceAdd, ↓reduceIte, hn, h1, h4, h10, h11, h12, ofE0, ofE1, l17, str_eql, l21, decide_eq_true hke]
      refine (copyO hlc hlcl _ d[i].2 (Nat.le_refl _) F t2 _ (hr2.keeps hs0t) hsmi).mono ?_
      intro v t3 h3
      obtain ⟨cs', rfl, ho3, hst3'⟩ := h3.is
      have hcl' := ho3.len
      have hs23 : Stay s2.next s2 t3 := hs2t.trans (hst3'.weaken hs2t.next)
      have hn2t := hs2t.next
      simp (config := { maxSteps := 1000000, implicitDefEqProofs := false }) (disch := omega) only [allW, allR, oneOf, evalAll, partsA, optA, Nat.reduceLT, Nat.reduceLeDiff, Nat.reduceEqDiff, Nat.reduceAdd, ↓reduceIte, hn, h1, h4, h10, h11, h12]
      refine wstep_storeAll szO (by decide) (ht2.keeps hs23) rfl rfl hcl' ho3.ok ?_
      intro t4 ht4 hnx4 hot4
      simp (config := { maxSteps := 1000000, implicitDefEqProofs := false }) (disch := omega) only [allW, allR, oneOf, evalAll, partsA, optA, Nat.reduceLT, Nat.reduceLeDiff, Nat.reduceEqDiff, Nat.reduceAdd, ↓reduceIte, hn, h1, h4, h10, h11, h12]
      have hn1 := hst1.next
      refine hQ _ _ _ (.inl ⟨rfl, by simp only [get_put, n_put, ↓reduceIte, Nat.reduceEqDiff, hn], by simp only [get_put, n_put, ↓reduceIte, Nat.reduceEqDiff, h4], cs', ht4, ?_, (hs2.trans (hs23.weaken hs2.next)).trans ⟨by omega, fun j hj => hot4 j (by omega)⟩⟩)
      rw [hg, findE_at hlt hke (fun j hj => hP j (by omega) hj)]
      exact (ho3.ofPut hnx4 hot4 (by omega)).mono (fun j hj => by omega)
    · simp (config := { maxSteps := 1000000, implicitDefEqProofs := false }) (disch := omega) only [allW, allR, oneOf, evalAll, partsA, optA, Nat.reduceLT, Nat.reduceLeDiff, Nat.reduceEqDiff, Nat.reduceAdd, ↓reduceIte, hn, h1, h4, h10, h11, h12, ofE0, ofE1, l17, str_eql, decide_eq_false hke, wrapI]
      refine wround_next (d.length - (i + 1)) (by omega) ⟨i + 1, rfl, by omega, fun j h hj => ?_, hs2t, by simp only [get_put, n_put, ↓reduceIte, Nat.reduceEqDiff, hn], by simp only [get_put, n_put, ↓reduceIte, Nat.reduceEqDiff, h1], by simp only [get_put, n_put, ↓reduceIte, Nat.reduceEqDiff, h4], by simp only [get_put, n_put, ↓reduceIte, Nat.reduceEqDiff, h10], by simp only [get_put, n_put, ↓reduceIte, Nat.reduceEqDiff, h11], by simp only [get_put, n_put, ↓reduceIte, Nat.reduceEqDiff]; rfl⟩
      by_cases hji : j = i
      · subst hji; exact hke
      · exact hP j h (by omega)
  clear hn h0 h1 f
  rintro z f t (⟨rfl, hn, h4, cs', ht4, ho4, hst4⟩ | ⟨rfl, hn, h4, hnone, hst⟩)
  · simp (config := { maxSteps := 1000000, implicitDefEqProofs := false }) (disch := omega) only [allW, allR, wfn_ret, wfn_normal, oneOf, evalAll, partsA, optA, Nat.reduceLT, Nat.reduceLeDiff, Nat.reduceEqDiff, Nat.reduceAdd, ↓reduceIte, hn, h4, Thing.loadO ht4 ho4.len, resultsA_cell, Try.results18]
    have := hs2.next
    exact ⟨cs', rfl, ho4.mono (fun j hj => by omega), hst4⟩
  · rw [hnone]
    have hst0 : Stay s.next s t := hs2.trans (hst.weaken hs2.next)
    simp (config := { maxSteps := 1000000, implicitDefEqProofs := false }) (disch := omega) only [allW, allR, oneOf, evalAll, partsA, optA, Nat.reduceLT, Nat.reduceLeDiff, Nat.reduceEqDiff, Nat.reduceAdd, ↓reduceIte, hn, h4]
    refine (none_any hln t).mono ?_
    rintro _ q4 ⟨cs', rfl, ho4, hq4⟩
    have hcl4 := ho4.len
    have q24 := (hst).trans (hq4.weaken (hst).next)
    have hn1 := hst1.next
    have hn2 := hs2.next
    have hn3 := (hst).next
    simp (config := { maxSteps := 1000000, implicitDefEqProofs := false }) (disch := omega) only [allW, allR, oneOf, evalAll, partsA, optA, Nat.reduceLT, Nat.reduceLeDiff, Nat.reduceEqDiff, Nat.reduceAdd, ↓reduceIte, hn, h4]
    refine wstep_storeAll szO (by decide) (ht2.keeps q24) rfl rfl hcl4 ho4.ok ?_
    intro q5 ht5 hnx5 hot5
    simp (config := { maxSteps := 1000000, implicitDefEqProofs := false }) (disch := omega) only [allW, allR, wfn_ret, wfn_normal, oneOf, evalAll, partsA, optA, Nat.reduceLT, Nat.reduceLeDiff, Nat.reduceEqDiff, Nat.reduceAdd, ↓reduceIte, hn, h4, Thing.loadO ht5 hcl4, resultsA_cell, Try.results18]
    exact NewO.put ho4 (fun j hj => ⟨by omega, by omega⟩) hnx5 hot5 (hs2.trans (q24.weaken hs2.next)) hn1
end Go.Proofs.Ytdhdhbkikhedlaa
namespace Go.Cl
end Go.Cl
namespace Go.Proofs.Ytdhdhbkikhedlaa
open Go.Cl Go.Lib
end Go.Proofs.Ytdhdhbkikhedlaa
