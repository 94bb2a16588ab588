/-
  Objects: Dict, Stream, Drop, Get, Arr and the small ones.
-/
import Derived.Test.YtdhdhbkikhedlaaCosJ
set_option linter.unusedSimpArgs false
set_option linter.unusedVariables false
/-
  Objects: Dict, Stream, Drop, Get and the small ones.
-/
namespace Go.Cl
theorem OIs.ofPut {F : Nat → Prop} {s s' : ASt} {cs : List Value} {o : O} {i : Nat} (h : OIs F s cs o) (h1 : s'.next = s.next) (h2 : ∀ q, q ≠ i → s'.heap.get q = s.heap.get q) (hF : ¬ F i) : OIs F s' cs o :=
  h.turns (u := .pointer (some ⟨i, 0, Option.none⟩)) (Turns.ofPut h1 h2) (fun j hj e => by
    have e : some i = some j := e
    injection e with e; subst e; exact hF hj)
theorem OIs.bare (F : Nat → Prop) (s : ASt) (k n : Int) : OIs F s [.int .i64 k, .int .i64 n, .slice Option.none 0 0, .slice Option.none 0 0, .slice Option.none 0 0] (.mk k n [] [] []) :=
  OIs.whole .nil .nil .nil trivial trivial trivial ORows.nil ORows.nil
theorem Small.bare (k n : Int) : Small (.mk k n [] [] []) := .mk (by simp) (by simp) (by simp) (fun e h => by cases h) (fun e h => by cases h) (fun e h => by cases h)
theorem Small.none : Small O.none := Small.bare 0 0
/-- A key's value. -/
def findE (d : List (List UInt8 × O)) (k : List UInt8) : O := match d.find? (fun y => y.1 == k) with
  | some e => e.2
  | Option.none => O.none
def getO (o : O) (k : List UInt8) : O := if o.has then findE o.ents k else O.none
theorem findE_at {d : List (List UInt8 × O)} {k : List UInt8} {i : Nat} (hi : i < d.length) (h1 : d[i].1 = k) (h2 : ∀ j (h : j < i), d[j].1 ≠ k) : findE d k = d[i].2 := by
  unfold findE
  have : d.find? (fun y => y.1 == k) = some d[i] := by
    rw [List.find?_eq_some_iff_getElem]
    refine ⟨by simpa using h1, i, hi, rfl, fun j hj => ?_⟩
    have := h2 j hj
    simpa using this
  rw [this]
theorem findE_none {d : List (List UInt8 × O)} {k : List UInt8} (h2 : ∀ j (h : j < d.length), d[j].1 ≠ k) : findE d k = O.none := by
  unfold findE
  have : d.find? (fun y => y.1 == k) = none := by
    rw [List.find?_eq_none]
    intro y hy
    obtain ⟨j, hj, rfl⟩ := List.mem_iff_getElem.1 hy
    simpa using h2 j hj
  rw [this]
/-- Keys to be dropped. -/
def dropsK (K : List (List UInt8)) : List (List UInt8 × O) := K.map fun k => (k, O.none)
end Go.Cl
namespace Go.Proofs.Ytdhdhbkikhedlaa
open Go.Cl Go.Lib
structure LibC (lib : Prims) : Prop where
  set : lib.at 13 = none
  pair : lib.at 39 = none
  entries : lib.at 46 = none
  copy : lib.at 30 = none
  clone : lib.at 52 = none
  sorted : lib.at 47 = none
  c1 : lib.at 63 = none
  c2 : lib.at 64 = none
  del : lib.at 65 = none
  idx : lib.at 62 = none
  cloneE : lib.at 66 = none
  byKey : lib.at 48 = none
  cmp : lib.at 67 = none
  cmpB : lib.at 78 = none
  prim : lib.at 83 = some pCmpStr
  dict : lib.at 20 = none
  stream : lib.at 22 = none
  drop : lib.at 15 = none
  get : lib.at 18 = none
  int : lib.at 41 = none
  nothing : lib.at 43 = none
  arr : lib.at 24 = none
  str : lib.at 26 = none
  name : lib.at 28 = none
theorem setC {lib : Prims} (L : LibC lib) (F : Nat → Prop) (s : ASt) (cs : List Value) (o : O) (ho : OIs F s cs o) (hsm : Small o) (x : Value) (l : List (List UInt8 × O)) (lx : List Value) (hx : Sees s 6 x l.length lx) (hL : ORows EntIs 6 F s l lx) (hLn : l.length ≤ 100000) (hLs : ∀ e ∈ l, Small e.2) :
    Runs Try.prog lib 13 [.agg cs.toArray, x] s (NewO s (setO o l)) :=
  set_any L.set L.pair L.entries L.copy L.clone L.sorted L.c1 L.c2 L.del L.idx L.cloneE L.byKey L.cmp L.cmpB L.prim F s cs o ho hsm x l lx hx hL hLn hLs
theorem bO (k n : Int) : buildA Try.prog 26 [(0, .int .i64 k), (1, .int .i64 n)] = some (.agg #[.int .i64 k, .int .i64 n, .slice none 0 0, .slice none 0 0, .slice none 0 0]) := by
  unfold buildA; rw [Try.underlying26]
  have hz : zeroB Try.prog 26 = some (.agg #[.int .i64 0, .int .i64 0, .slice none 0 0, .slice none 0 0, .slice none 0 0]) := by kernel_rfl
  rw [hz]
  have ci : ∀ k n, (Value.int k n).cells = #[.int k n] := fun _ _ => rfl
  simp [szInt, szI64, szSl, szLs, szDs, plainV, plain1, fillA, placeOf, cells_agg, setAt, ci]
theorem bO1 (k : Int) : buildA Try.prog 26 [(0, .int .i64 k)] = some (.agg #[.int .i64 k, .int .i64 0, .slice none 0 0, .slice none 0 0, .slice none 0 0]) := by
  unfold buildA; rw [Try.underlying26]
  have hz : zeroB Try.prog 26 = some (.agg #[.int .i64 0, .int .i64 0, .slice none 0 0, .slice none 0 0, .slice none 0 0]) := by kernel_rfl
  rw [hz]
  have ci : ∀ k n, (Value.int k n).cells = #[.int k n] := fun _ _ => rfl
  simp [szInt, szI64, szSl, szLs, szDs, plainV, plain1, fillA, placeOf, cells_agg, setAt, ci]
theorem bO0 : buildA Try.prog 26 [] = some (.agg #[.int .i64 0, .int .i64 0, .slice none 0 0, .slice none 0 0, .slice none 0 0]) := by kernel_rfl
theorem bO2 (k : Int) {b : Value} (hb : b.cells.toList = [b]) : buildA Try.prog 26 [(0, .int .i64 k), (2, b)] = some (.agg #[.int .i64 k, .int .i64 0, b, .slice none 0 0, .slice none 0 0]) := by
  unfold buildA; rw [Try.underlying26]
  have hz : zeroB Try.prog 26 = some (.agg #[.int .i64 0, .int .i64 0, .slice none 0 0, .slice none 0 0, .slice none 0 0]) := by kernel_rfl
  rw [hz]
  have ci : ∀ k n, (Value.int k n).cells = #[.int k n] := fun _ _ => rfl
  simp [szInt, szI64, szSl, szLs, szDs, plainV, plain1, fillA, placeOf, cells_agg, setAt, ci, hb]
theorem bE0 (a : List UInt8) : buildA Try.prog 32 [(0, .string ⟨a.toArray⟩)] = some (.agg (.string ⟨a.toArray⟩ :: noneC).toArray) := by
  unfold buildA; rw [Try.underlying32]
  have hz : zeroB Try.prog 32 = some (.agg #[.string ⟨#[]⟩, .int .i64 0, .int .i64 0, .slice none 0 0, .slice none 0 0, .slice none 0 0]) := by kernel_rfl
  rw [hz]
  have cs' : ∀ b, (Value.string b).cells = #[.string b] := fun _ => rfl
  simp [szStr, szO, plainV, plain1, fillA, placeOf, cells_agg, setAt, cs', noneC]
/-- The result's cell is filled and read. -/
theorem NewO.put {s t t' : ASt} {i : Nat} {F : Nat → Prop} {cs : List Value} {o : O} (h : OIs F t cs o) (hF : ∀ j, F j → s.next ≤ j ∧ j ≠ i) (h1 : t'.next = t.next) (h2 : ∀ q, q ≠ i → t'.heap.get q = t.heap.get q) (hs : Stay s.next s t) (hi : s.next ≤ i) : NewO s o (.agg cs.toArray) t' :=
  ⟨cs, rfl, (h.ofPut h1 h2 (fun q => (hF i q).2 rfl)).mono (fun j hj => (hF j hj).1), hs.trans ⟨by omega, fun j hj => h2 j (by omega)⟩⟩
theorem Thing.loadO {s : ASt} {i : Nat} {cs : List Value} (h : Thing s i cs) (hl : cs.length = 5) : loadA Try.prog s 26 (.pointer (some ⟨i, 0, some 6⟩)) = some (.agg cs.toArray) := Thing.loadAll agO (by rw [hl]; exact szO) h (by rw [hl])
theorem none_any {lib : Prims} (hl : lib.at 43 = none) (s : ASt) : Runs Try.prog lib 43 [] s (NewO s O.none) := by
  refine Runs.enter 2 Try.func43 rfl hl rfl rfl ?_
  intro f hn _
  simp (config := { maxSteps := 1000000, implicitDefEqProofs := false }) (disch := omega) only [allW, allR, oneOf, evalAll, partsA, optA, Nat.reduceLT, Nat.reduceLeDiff, Nat.reduceEqDiff, Nat.reduceAdd, ↓reduceIte, hn, zO, plO]
  refine wstep_newPtr ?_
  intro s1 ht1 hst1 hnx1
  have hd6 : noneC.length + 1 = 6 := rfl
  simp (config := { maxSteps := 1000000, implicitDefEqProofs := false }) (disch := omega) only [allW, allR, oneOf, evalAll, partsA, optA, Nat.reduceLT, Nat.reduceLeDiff, Nat.reduceEqDiff, Nat.reduceAdd, ↓reduceIte, hn, hd6, bO0]
  refine wstep_storeAll szO (by decide) ht1 rfl rfl rfl rfl ?_
  intro s2 ht2 hnx2 hot2
  simp (config := { maxSteps := 1000000, implicitDefEqProofs := false }) (disch := omega) only [allW, allR, wfn_ret, wfn_normal, oneOf, evalAll, partsA, optA, Nat.reduceLT, Nat.reduceLeDiff, Nat.reduceEqDiff, Nat.reduceAdd, ↓reduceIte, hn, Thing.loadO ht2 rfl, resultsA_cell, Try.results43]
  exact NewO.put (F := fun _ => False) (OIs.none _ s1) (fun j hj => hj.elim) hnx2 hot2 hst1 (Nat.le_refl _)
theorem int_any {lib : Prims} (hl : lib.at 41 = none) (s : ASt) (n : Int) : Runs Try.prog lib 41 [.int .i64 n] s (NewO s (.mk 2 n [] [] [])) := by
  refine Runs.enter 5 Try.func41 rfl hl rfl rfl ?_
  intro f hn hf
  have h0 : f.get 0 = .int .i64 n := hf 0
  clear hf
  simp (config := { maxSteps := 1000000, implicitDefEqProofs := false }) (disch := omega) only [allW, allR, oneOf, evalAll, partsA, optA, Nat.reduceLT, Nat.reduceLeDiff, Nat.reduceEqDiff, Nat.reduceAdd, ↓reduceIte, hn, zO, plO]
  refine wstep_newPtr ?_
  intro s1 ht1 hst1 hnx1
  have hd6 : noneC.length + 1 = 6 := rfl
  simp (config := { maxSteps := 1000000, implicitDefEqProofs := false }) (disch := omega) only [allW, allR, oneOf, evalAll, partsA, optA, Nat.reduceLT, Nat.reduceLeDiff, Nat.reduceEqDiff, Nat.reduceAdd, ↓reduceIte, hn, h0, hd6, bO]
  refine wstep_storeAll szO (by decide) ht1 rfl rfl rfl rfl ?_
  intro s2 ht2 hnx2 hot2
  simp (config := { maxSteps := 1000000, implicitDefEqProofs := false }) (disch := omega) only [allW, allR, wfn_ret, wfn_normal, oneOf, evalAll, partsA, optA, Nat.reduceLT, Nat.reduceLeDiff, Nat.reduceEqDiff, Nat.reduceAdd, ↓reduceIte, hn, Thing.loadO ht2 rfl, resultsA_cell, Try.results41]
  exact NewO.put (F := fun _ => False) (OIs.bare _ s1 2 n) (fun j hj => hj.elim) hnx2 hot2 hst1 (Nat.le_refl _)
theorem dict_any {lib : Prims} (L : LibC lib) (F : Nat → Prop) (s : ASt) (x : Value) (l : List (List UInt8 × O)) (lx : List Value) (hx : Sees s 6 x l.length lx) (hL : ORows EntIs 6 F s l lx) (hLn : l.length ≤ 100000) (hLs : ∀ e ∈ l, Small e.2) :
    Runs Try.prog lib 20 [x] s (NewO s (.mk 7 0 [] [] (putAll [] l))) := by
  refine Runs.enter 6 Try.func20 rfl L.dict rfl rfl ?_
  intro f hn hf
  have h0 : f.get 0 = x := hf 0
  clear hf
  simp (config := { maxSteps := 1000000, implicitDefEqProofs := false }) (disch := omega) only [allW, allR, oneOf, evalAll, partsA, optA, Nat.reduceLT, Nat.reduceLeDiff, Nat.reduceEqDiff, Nat.reduceAdd, ↓reduceIte, hn, h0, zO, plO]
  refine wstep_newPtr ?_
  intro s1 ht1 hst1 hnx1
  have hd6 : noneC.length + 1 = 6 := rfl
  simp (config := { maxSteps := 1000000, implicitDefEqProofs := false }) (disch := omega) only [allW, allR, oneOf, evalAll, partsA, optA, Nat.reduceLT, Nat.reduceLeDiff, Nat.reduceEqDiff, Nat.reduceAdd, ↓reduceIte, hn, h0, hd6, bO1]
  refine (setC L F s1 _ _ (OIs.bare F s1 7 0) (Small.bare 7 0) x l lx (hx.keeps hst1) (hL.keeps rowedE hst1) hLn hLs).mono ?_
  rintro _ s2 ⟨cs', rfl, ho2, hst2⟩
  have hcl := ho2.len
  simp (config := { maxSteps := 1000000, implicitDefEqProofs := false }) (disch := omega) only [allW, allR, oneOf, evalAll, partsA, optA, Nat.reduceLT, Nat.reduceLeDiff, Nat.reduceEqDiff, Nat.reduceAdd, ↓reduceIte, hn, h0]
  refine wstep_storeAll szO (by decide) (ht1.keeps hst2) rfl rfl hcl ho2.ok ?_
  intro s3 ht3 hnx3 hot3
  simp (config := { maxSteps := 1000000, implicitDefEqProofs := false }) (disch := omega) only [allW, allR, wfn_ret, wfn_normal, oneOf, evalAll, partsA, optA, Nat.reduceLT, Nat.reduceLeDiff, Nat.reduceEqDiff, Nat.reduceAdd, ↓reduceIte, hn, Thing.loadO ht3 hcl, resultsA_cell, Try.results20]
  exact NewO.put ho2 (fun j hj => ⟨by omega, by omega⟩) hnx3 hot3 (hst1.trans (hst2.weaken hst1.next)) (Nat.le_refl _)
end Go.Proofs.Ytdhdhbkikhedlaa
/-
  Objects: Stream, Drop, Get, Str, Name.
-/
namespace Go.Cl
/-- Strings, in memory. -/
def strs (K : List (List UInt8)) : List Value := K.map fun k => .string ⟨k.toArray⟩
theorem strs_get {K : List (List UInt8)} {i : Nat} (h : i < K.length) : (strs K).getD i undef = .string ⟨(K[i]).toArray⟩ := by
  unfold strs; rw [List.getD_eq_getElem?_getD, List.getElem?_map, List.getElem?_eq_getElem h]; rfl
end Go.Cl
namespace Go.Proofs.Ytdhdhbkikhedlaa
open Go.Cl Go.Lib
theorem str_any {lib : Prims} (hl : lib.at 26 = none) (hlc : lib.at 52 = none) (s : ASt) (x : Value) (b : List UInt8) (hx : Sees s 1 x b.length (ofBytes b)) (hb : b.length ≤ 4294967296) : Runs Try.prog lib 26 [x] s (NewO s (.mk 4 0 b [] [])) := by
  refine Runs.enter 6 Try.func26 rfl hl rfl rfl ?_
  intro f hn hf
  have h0 : f.get 0 = x := hf 0
  clear hf
  simp (config := { maxSteps := 1000000, implicitDefEqProofs := false }) (disch := omega) only [allW, allR, oneOf, evalAll, partsA, optA, Nat.reduceLT, Nat.reduceLeDiff, Nat.reduceEqDiff, Nat.reduceAdd, ↓reduceIte, hn, h0, zO, plO]
  refine wstep_newPtr ?_
  intro s1 ht1 hst1 hnx1
  have hd6 : noneC.length + 1 = 6 := rfl
  simp (config := { maxSteps := 1000000, implicitDefEqProofs := false }) (disch := omega) only [allW, allR, oneOf, evalAll, partsA, optA, Nat.reduceLT, Nat.reduceLeDiff, Nat.reduceEqDiff, Nat.reduceAdd, ↓reduceIte, hn, h0, hd6]
  refine (clone_any hlc s1 x b (hx.keeps hst1) hb).mono ?_
  rintro w s2 ⟨hw, hwF, hst2⟩
  have hok := hw.sees.okCell
  simp (config := { maxSteps := 1000000, implicitDefEqProofs := false }) (disch := omega) only [allW, allR, oneOf, evalAll, partsA, optA, Nat.reduceLT, Nat.reduceLeDiff, Nat.reduceEqDiff, Nat.reduceAdd, ↓reduceIte, hn, h0, bO2 4 hw.sees.cell1]
  refine wstep_storeAll szO (by decide) (ht1.keeps hst2) rfl rfl rfl (by simp only [List.all_cons, List.all_nil, hok]; rfl) ?_
  intro s3 ht3 hnx3 hot3
  simp (config := { maxSteps := 1000000, implicitDefEqProofs := false }) (disch := omega) only [allW, allR, wfn_ret, wfn_normal, oneOf, evalAll, partsA, optA, Nat.reduceLT, Nat.reduceLeDiff, Nat.reduceEqDiff, Nat.reduceAdd, ↓reduceIte, hn, Thing.loadO ht3 rfl, resultsA_cell, Try.results26]
  exact NewO.put (F := fun j => s1.next ≤ j) (cs := [.int .i64 4, .int .i64 0, w, .slice none 0 0, .slice none 0 0]) (OIs.whole hw.sees .nil .nil (Foot.fresh hwF) trivial trivial ORows.nil ORows.nil) (fun j hj => ⟨by omega, by omega⟩) hnx3 hot3 (hst1.trans (hst2.weaken hst1.next)) (Nat.le_refl _)
theorem name_any {lib : Prims} (hl : lib.at 28 = none) (s : ASt) (b : List UInt8) (hb : b.length ≤ 4294967296) : Runs Try.prog lib 28 [.string ⟨b.toArray⟩] s (NewO s (.mk 5 0 b [] [])) := by
  refine Runs.enter 6 Try.func28 rfl hl rfl rfl ?_
  intro f hn hf
  have h0 : f.get 0 = .string ⟨b.toArray⟩ := hf 0
  clear hf
  simp (config := { maxSteps := 1000000, implicitDefEqProofs := false }) (disch := omega) only [allW, allR, oneOf, evalAll, partsA, optA, Nat.reduceLT, Nat.reduceLeDiff, Nat.reduceEqDiff, Nat.reduceAdd, ↓reduceIte, hn, h0, zO, plO]
  refine wstep_newPtr ?_
  intro s1 ht1 hst1 hnx1
  have hd6 : noneC.length + 1 = 6 := rfl
  simp (config := { maxSteps := 1000000, implicitDefEqProofs := false }) (disch := omega) only [allW, allR, oneOf, evalAll, partsA, optA, Nat.reduceLT, Nat.reduceLeDiff, Nat.reduceEqDiff, Nat.reduceAdd, ↓reduceIte, hn, h0, hd6, str_bytes (s := s1) (a := b) Try.underlying9 Try.underlying22 Try.underlying5]
  refine wstep_newSlice (by simp [ofBytes_length]) ?_
  intro w s2 hw hwF hst2
  have hok := hw.sees.okCell
  simp (config := { maxSteps := 1000000, implicitDefEqProofs := false }) (disch := omega) only [allW, allR, oneOf, evalAll, partsA, optA, Nat.reduceLT, Nat.reduceLeDiff, Nat.reduceEqDiff, Nat.reduceAdd, ↓reduceIte, hn, h0, bO2 5 hw.sees.cell1]
  refine wstep_storeAll szO (by decide) (ht1.keeps hst2) rfl rfl rfl (by simp only [List.all_cons, List.all_nil, hok]; rfl) ?_
  intro s3 ht3 hnx3 hot3
  simp (config := { maxSteps := 1000000, implicitDefEqProofs := false }) (disch := omega) only [allW, allR, wfn_ret, wfn_normal, oneOf, evalAll, partsA, optA, Nat.reduceLT, Nat.reduceLeDiff, Nat.reduceEqDiff, Nat.reduceAdd, ↓reduceIte, hn, Thing.loadO ht3 rfl, resultsA_cell, Try.results28]
  exact NewO.put (F := fun j => s1.next ≤ j) (cs := [.int .i64 5, .int .i64 0, w, .slice none 0 0, .slice none 0 0]) (OIs.whole hw.sees .nil .nil (Foot.fresh hwF) trivial trivial ORows.nil ORows.nil) (fun j hj => ⟨by omega, by omega⟩) hnx3 hot3 (hst1.trans (hst2.weaken hst1.next)) (Nat.le_refl _)
theorem stream_any {lib : Prims} (L : LibC lib) (F : Nat → Prop) (s : ASt) (y : Value) (b : List UInt8) (hy : Sees s 1 y b.length (ofBytes b)) (hb : b.length ≤ 4294967296) (x : Value) (l : List (List UInt8 × O)) (lx : List Value) (hx : Sees s 6 x l.length lx) (hL : ORows EntIs 6 F s l lx) (hLn : l.length ≤ 100000) (hLs : ∀ e ∈ l, Small e.2) :
    Runs Try.prog lib 22 [y, x] s (NewO s (.mk 8 0 b [] (putAll [] l))) := by
  refine Runs.enter 13 Try.func22 rfl L.stream rfl rfl ?_
  intro f hn hf
  have h0 : f.get 0 = y := hf 0
  have h1 : f.get 1 = x := hf 1
  clear hf
  simp (config := { maxSteps := 1000000, implicitDefEqProofs := false }) (disch := omega) only [allW, allR, oneOf, evalAll, partsA, optA, Nat.reduceLT, Nat.reduceLeDiff, Nat.reduceEqDiff, Nat.reduceAdd, ↓reduceIte, hn, h0, h1, zO, plO]
  refine wstep_newPtr ?_
  intro s1 ht1 hst1 hnx1
  have hd6 : noneC.length + 1 = 6 := rfl
  simp (config := { maxSteps := 1000000, implicitDefEqProofs := false }) (disch := omega) only [allW, allR, oneOf, evalAll, partsA, optA, Nat.reduceLT, Nat.reduceLeDiff, Nat.reduceEqDiff, Nat.reduceAdd, ↓reduceIte, hn, h0, h1, hd6]
  refine (dict_any L F s1 x l lx (hx.keeps hst1) (hL.keeps rowedE hst1) hLn hLs).mono ?_
  rintro _ s2 ⟨cs', rfl, ho2, hst2⟩
  obtain ⟨bv, lv, dv, lc, dc, rfl, hb2, hl2, hd2, fb, fl, fd, rl, rd⟩ := ho2.lows.parts
  simp (config := { maxSteps := 1000000, implicitDefEqProofs := false }) (disch := omega) only [allW, allR, oneOf, evalAll, partsA, optA, Nat.reduceLT, Nat.reduceLeDiff, Nat.reduceEqDiff, Nat.reduceAdd, ↓reduceIte, hn, h0, h1, zO, plO]
  refine wstep_newPtr ?_
  intro s3 ht3 hst3 hnx3
  simp (config := { maxSteps := 1000000, implicitDefEqProofs := false }) (disch := omega) only [allW, allR, oneOf, evalAll, partsA, optA, Nat.reduceLT, Nat.reduceLeDiff, Nat.reduceEqDiff, Nat.reduceAdd, ↓reduceIte, hn, h0, h1, hd6]
  refine wstep_storeAll szO (by decide) ht3 rfl rfl rfl ho2.ok ?_
  intro s4 ht4 hnx4 hot4
  have ht4 : Thing s4 s2.next [.int .i64 7, .int .i64 0, bv, lv, dv] := ht4
  have hs24 : Stay s2.next s2 s4 := hst3.trans ⟨by omega, fun j hj => hot4 j (by omega)⟩
  have hs04 : Stay s.next s s4 := (hst1.trans (hst2.weaken hst1.next)).trans (hs24.weaken (by have := hst1.next; have := hst2.next; omega))
  simp (config := { maxSteps := 1000000, implicitDefEqProofs := false }) (disch := omega) only [allW, allR, oneOf, evalAll, partsA, optA, Nat.reduceLT, Nat.reduceLeDiff, Nat.reduceEqDiff, Nat.reduceAdd, ↓reduceIte, hn, h0, h1]
  refine (clone_any L.clone s4 y b (hy.keeps hs04) hb).mono ?_
  rintro w s5 ⟨hw, hwF, hst5⟩
  have hok := hw.sees.okCell
  have hn5 := hst5.next
  have hn24 := hs24.next
  have hn1 := hst1.next
  have hn2 := hst2.next
  have hlt4 := ht4.lt
  simp (config := { maxSteps := 1000000, implicitDefEqProofs := false }) (disch := omega) only [allW, allR, oneOf, evalAll, partsA, optA, Nat.reduceLT, Nat.reduceLeDiff, Nat.reduceEqDiff, Nat.reduceAdd, ↓reduceIte, hn, h0, h1, of0]
  refine wstep_storeN szInt (by decide) (ht4.keeps hst5) (off := 0) (c := 6) rfl (vs := [.int .i64 8]) rfl rfl (by simp) rfl ?_
  intro s6 ht6 hnx6 hot6
  have ht6 : Thing s6 s2.next [.int .i64 8, .int .i64 0, bv, lv, dv] := ht6
  simp (config := { maxSteps := 1000000, implicitDefEqProofs := false }) (disch := omega) only [allW, allR, oneOf, evalAll, partsA, optA, Nat.reduceLT, Nat.reduceLeDiff, Nat.reduceEqDiff, Nat.reduceAdd, ↓reduceIte, hn, h0, h1, of2]
  refine wstep_storeN szSl (by decide) ht6 (off := 2) (c := 6) rfl (vs := [w]) hw.sees.cell1 rfl (by simp) (by simp [hok]) ?_
  intro s7 ht7 hnx7 hot7
  have ht7 : Thing s7 s2.next [.int .i64 8, .int .i64 0, w, lv, dv] := ht7
  have hs27 : Stay s2.next s2 s7 := (hs24.trans (hst5.weaken hs24.next)).trans ⟨by omega, fun j hj => by rw [hot7 j (by omega), hot6 j (by omega)]⟩
  have hs17 : Stay s1.next s1 s7 := hst2.trans (hs27.weaken hn2)
  have hw7 : Own s7 1 w b.length (ofBytes b) := (hw.ofPut hnx6 hot6 (fun e => by have := hwF _ e; omega)).ofPut hnx7 hot7 (fun e => by have := hwF _ e; omega)
  have hG : ∀ j, s1.next ≤ j ∧ j < s2.next → s1.next ≤ j := fun j hj => hj.1
  have ho7 : OIs (fun j => s1.next ≤ j) s7 [.int .i64 8, .int .i64 0, w, lv, dv] (.mk 8 0 b [] (putAll [] l)) := OIs.whole hw7.sees (hl2.keeps hs27) (hd2.keeps hs27) (Foot.of_id (fun j hj => by have := hwF j hj; omega)) (fl.mono hG) (fd.mono hG) ((rl.mono rowedO hG).keeps rowedO hs27) ((rd.mono rowedE hG).keeps rowedE hs27)
  simp (config := { maxSteps := 1000000, implicitDefEqProofs := false }) (disch := omega) only [allW, allR, oneOf, evalAll, partsA, optA, Nat.reduceLT, Nat.reduceLeDiff, Nat.reduceEqDiff, Nat.reduceAdd, ↓reduceIte, hn, Thing.loadO ht7 rfl]
  refine wstep_storeAll szO (by decide) (ht1.keeps hs17) rfl rfl rfl ho7.ok ?_
  intro s8 ht8 hnx8 hot8
  simp (config := { maxSteps := 1000000, implicitDefEqProofs := false }) (disch := omega) only [allW, allR, wfn_ret, wfn_normal, oneOf, evalAll, partsA, optA, Nat.reduceLT, Nat.reduceLeDiff, Nat.reduceEqDiff, Nat.reduceAdd, ↓reduceIte, hn, Thing.loadO ht8 rfl, resultsA_cell, Try.results22]
  exact NewO.put ho7 (fun j hj => ⟨by omega, by omega⟩) hnx8 hot8 (hst1.trans (hs17.weaken hn1)) (Nat.le_refl _)
set_option maxHeartbeats 4000000 in
theorem get_any {lib : Prims} (hl : lib.at 18 = none) (hle : lib.at 46 = none) (hlc : lib.at 30 = none) (hlcl : lib.at 52 = none) (hln : lib.at 43 = none) (F : Nat → Prop) (s : ASt) (cs : List Value) (o : O) (ho : OIs F s cs o) (hsm : Small o) (k : List UInt8) :
    Runs Try.prog lib 18 [.agg cs.toArray, .string ⟨k.toArray⟩] s (NewO s (getO o k)) := by
  have hcl := ho.len
  refine Runs.enter 25 Try.func18 rfl hl rfl rfl ?_
  intro f hn hf
  have h0 : f.get 0 = .agg cs.toArray := hf 0
  have h1 : f.get 1 = .string ⟨k.toArray⟩ := hf 1
  clear hf
  simp (config := { maxSteps := 1000000, implicitDefEqProofs := false }) (disch := omega) only [allW, allR, oneOf, evalAll, partsA, optA, Nat.reduceLT, Nat.reduceLeDiff, Nat.reduceEqDiff, Nat.reduceAdd, ↓reduceIte, hn, h0, h1]
  refine wstep_newPtr ?_
  intro s1 ht1 hst1 hnx1
  have hd6 : noneC.length + 1 = 6 := rfl
  simp (config := { maxSteps := 1000000, implicitDefEqProofs := false }) (disch := omega) only [allW, allR, oneOf, evalAll, partsA, optA, Nat.reduceLT, Nat.reduceLeDiff, Nat.reduceEqDiff, Nat.reduceAdd, ↓reduceIte, hn, h0, h1, hcl, zO, plO]
  refine wstep_newPtr ?_
  intro s2 ht2 hst2 hnx2
  have hs2 : Stay s.next s s2 := hst1.trans (hst2.weaken (by omega))
  have ht12 := ht1.keeps hst2
  simp (config := { maxSteps := 1000000, implicitDefEqProofs := false }) (disch := omega) only [allW, allR, oneOf, evalAll, partsA, optA, Nat.reduceLT, Nat.reduceLeDiff, Nat.reduceEqDiff, Nat.reduceAdd, ↓reduceIte, hn, h0, h1, Thing.loadO ht12 hcl, hd6]
  refine (entries_any hle F s2 cs o (ho.keeps hs2)).mono ?_
  rintro _ s3 ⟨rfl, hst3⟩
  have ht13 := ht12.keeps hst3
  have ht23 := ht2.keeps hst3
  have hs3 := hs2.trans (hst3.weaken hs2.next)
  cases hh : o.has with
  | false =>
    have e : getO o k = O.none := by unfold getO; rw [hh]; rfl
    rw [e]
    simp (config := { maxSteps := 1000000, implicitDefEqProofs := false }) (disch := omega) only [allW, allR, oneOf, evalAll, partsA, optA, Nat.reduceLT, Nat.reduceLeDiff, Nat.reduceEqDiff, Nat.reduceAdd, ↓reduceIte, hn, h0, h1]
    refine (none_any hln s3).mono ?_
    rintro _ q4 ⟨cs', rfl, ho4, hq4⟩
    have hcl4 := ho4.len
    have q24 := (hst3).trans (hq4.weaken (hst3).next)
    have hn1 := hst1.next
    have hn2 := hs2.next
    have hn3 := (hst3).next
    simp (config := { maxSteps := 1000000, implicitDefEqProofs := false }) (disch := omega) only [allW, allR, oneOf, evalAll, partsA, optA, Nat.reduceLT, Nat.reduceLeDiff, Nat.reduceEqDiff, Nat.reduceAdd, ↓reduceIte, hn, h0, h1]
    refine wstep_storeAll szO (by decide) (ht2.keeps q24) rfl rfl hcl4 ho4.ok ?_
    intro q5 ht5 hnx5 hot5
    simp (config := { maxSteps := 1000000, implicitDefEqProofs := false }) (disch := omega) only [allW, allR, wfn_ret, wfn_normal, oneOf, evalAll, partsA, optA, Nat.reduceLT, Nat.reduceLeDiff, Nat.reduceEqDiff, Nat.reduceAdd, ↓reduceIte, hn, h0, h1, Thing.loadO ht5 hcl4, resultsA_cell, Try.results18]
    exact NewO.put ho4 (fun j hj => ⟨by omega, by omega⟩) hnx5 hot5 (hs2.trans (q24.weaken hs2.next)) hn1
  | true =>
  cases o with
  | mk kind num b l d =>
  obtain ⟨bv, lv, dv, lc, dc, rfl, hb, hL, hD, fb, fl, fd, rl, rd⟩ := ho.parts
  cases hsm with
  | mk hb1 hl2 hd1 hK1 hL1 hD1 =>
  have hg : getO (.mk kind num b l d) k = findE d k := by unfold getO; rw [hh]; rfl
  have hD3 := hD.keeps hs3
  have l9 : loadA Try.prog s3 24 (.pointer (some ⟨s.next, 4, some 6⟩)) = some dv := ht13.load agDs (off := 4) (c := 6) rfl (by simp)
  simp (config := { maxSteps := 1000000, implicitDefEqProofs := false }) (disch := omega) only [allW, allR, oneOf, evalAll, partsA, optA, Nat.reduceLT, Nat.reduceLeDiff, Nat.reduceEqDiff, Nat.reduceAdd, ↓reduceIte, hn, h0, h1, of4, l9, hD3.lenA Try.underlying24]
  refine Comes.loopOut (fun z f t => ∃ i : Nat, z = d.length - i ∧ i ≤ d.length ∧ (∀ j (h : j < d.length), j < i → d[j].1 ≠ k) ∧ Stay s2.next s2 t ∧ f.n = 25 ∧ f.get 1 = .string ⟨k.toArray⟩ ∧ f.get 4 = .pointer (some ⟨s1.next, 0, some 6⟩) ∧ f.get 10 = dv ∧ f.get 11 = .int .i64 (d.length : Nat) ∧ f.get 12 = .int .i64 (i : Nat))
    (fun z f t => (z = .ret ∧ f.n = 25 ∧ f.get 4 = .pointer (some ⟨s1.next, 0, some 6⟩) ∧ ∃ cs', Thing t s1.next cs' ∧ OIs (fun j => s2.next ≤ j) t cs' (getO (.mk kind num b l d) k) ∧ Stay s.next s t) ∨ (z = .exit 0 ∧ f.n = 25 ∧ f.get 4 = .pointer (some ⟨s1.next, 0, some 6⟩) ∧ getO (.mk kind num b l d) k = O.none ∧ Stay s2.next s2 t))
    ⟨0, rfl, by omega, fun j h h' => by omega, hst3, by simp only [get_put, n_put, ↓reduceIte, Nat.reduceEqDiff, hn], by simp only [get_put, n_put, ↓reduceIte, Nat.reduceEqDiff, h1], by simp only [get_put, n_put, ↓reduceIte, Nat.reduceEqDiff], by simp only [get_put, n_put, ↓reduceIte, Nat.reduceEqDiff], by simp only [get_put, n_put, ↓reduceIte, Nat.reduceEqDiff], by simp only [get_put, n_put, ↓reduceIte, Nat.reduceEqDiff]; rfl⟩ ?_ ?_
  · clear hn h0 h1 f
    rintro Q hQ z f t ⟨i, rfl, hi, hP, hst, hn, h1, h4, h10, h11, h12⟩
    by_cases hlt : i < d.length
    rotate_left
    · obtain rfl : i = d.length := by omega
      have d1 : ¬ ((d.length : Nat) : Int) < ((d.length : Nat) : Int) := by omega
      simp (config := { maxSteps := 1000000, implicitDefEqProofs := false }) (disch := omega) only [allW, allR, oneOf, evalAll, partsA, optA, Nat.reduceLT, Nat.reduceLeDiff, Nat.reduceEqDiff, Nat.reduceAdd, ↓reduceIte, hn, h1, h4, h10, h11, h12, eq_false d1]
      exact hQ _ _ _ (.inr ⟨rfl, by simp only [get_put, n_put, ↓reduceIte, Nat.reduceEqDiff, hn], by simp only [get_put, n_put, ↓reduceIte, Nat.reduceEqDiff, h4], by rw [hg]; exact findE_none (fun j h => hP j h h), hst⟩)
    have d1 : (i : Int) < (d.length : Int) := by omega
    have hst0 : Stay s.next s t := hs2.trans (hst.weaken hs2.next)
    have hDt := hD.keeps hst0
    have hix := hDt.indexAddr (P := Try.prog) (k := .i64) (x := (i : Int)) Try.underlying24 szE (by omega) (by omega)
    rw [Int.toNat_natCast] at hix
    have hll := hDt.loadAgg (P := Try.prog) agE szE hlt
    obtain ⟨r, hr1, hr2, hr3⟩ := rd.row i hlt
    have hrl := hr2.len
    rw [hr1] at hll
    obtain ⟨xs, hxs⟩ : ∃ xs, xs = Value.string ⟨(d[i].1).toArray⟩ :: r := ⟨_, rfl⟩
    rw [← hxs] at hll
    have hxl : xs.length = 6 := by rw [hxs]; simp [hrl]
    have hxok : xs.all okCell = true := by rw [hxs, List.all_cons, hr2.ok]; rfl
    have hd7 : noneE.length + 1 = 7 := rfl
    simp (config := { maxSteps := 1000000, implicitDefEqProofs := false }) (disch := omega) only [allW, allR, oneOf, evalAll, partsA, optA, Nat.reduceLT, Nat.reduceLeDiff, Nat.reduceEqDiff, Nat.reduceAdd, ↓reduceIte, hn, h1, h4, h10, h11, h12, eq_true d1, hix, hll, zE, plE]
    refine wstep_newPtr ?_
    intro t1 ht1' hst1' hnx1'
    simp (config := { maxSteps := 1000000, implicitDefEqProofs := false }) (disch := omega) only [allW, allR, oneOf, evalAll, partsA, optA, Nat.reduceLT, Nat.reduceLeDiff, Nat.reduceEqDiff, Nat.reduceAdd, ↓reduceIte, hn, h1, h4, h10, h11, h12, hd7]
    refine wstep_storeAll szE (by decide) ht1' rfl rfl hxl hxok ?_
    intro t2 ht2' hnx2' hot2'
    have ht2' : Thing t2 t.next xs := ht2'
    have hstt2 : Stay t.next t t2 := hst1'.trans ⟨by omega, fun j hj => hot2' j (by omega)⟩
    have l17 : loadA Try.prog t2 9 (.pointer (some ⟨t.next, 0, some 7⟩)) = some (.string ⟨(d[i].1).toArray⟩) := by
      have := ht2'.load (P := Try.prog) agStr (off := 0) (c := 7) (by rw [hxl]) (by omega)
      rw [this, hxs]; rfl
    have l21 : loadA Try.prog t2 26 (.pointer (some ⟨t.next, 1, some 7⟩)) = some (.agg r.toArray) := by
      have := Thing.loadMid (P := Try.prog) agO szO ht2' (off := 1) (c := 7) (by rw [hxl]) (by omega)
      rw [this, hxs, List.drop_succ_cons, List.drop_zero, List.take_of_length_le (by omega)]
    have hs2t : Stay s2.next s2 t2 := hst.trans (hstt2.weaken hst.next)
    have hs0t : Stay s.next s t2 := hs2.trans (hs2t.weaken hs2.next)
    by_cases hke : d[i].1 = k
    · have hsmi : Small d[i].2 := hD1 _ (List.getElem_mem hlt)
      simp (config := { maxSteps := 1000000, implicitDefEqProofs := false }) (disch := omega) only [allW, allR, oneOf, evalAll, partsA, optA, Nat.reduceLT, Nat.reduceLeDiff, Nat.reduceEqDiff, Nat.reduceAdd, ↓reduceIte, hn, h1, h4, h10, h11, h12, ofE0, ofE1, l17, str_eql, l21, decide_eq_true hke]
      refine (copyO hlc hlcl _ d[i].2 (Nat.le_refl _) F t2 _ (hr2.keeps hs0t) hsmi).mono ?_
      intro v t3 h3
      obtain ⟨cs', rfl, ho3, hst3'⟩ := h3.is
      have hcl' := ho3.len
      have hs23 : Stay s2.next s2 t3 := hs2t.trans (hst3'.weaken hs2t.next)
      have hn2t := hs2t.next
      simp (config := { maxSteps := 1000000, implicitDefEqProofs := false }) (disch := omega) only [allW, allR, oneOf, evalAll, partsA, optA, Nat.reduceLT, Nat.reduceLeDiff, Nat.reduceEqDiff, Nat.reduceAdd, ↓reduceIte, hn, h1, h4, h10, h11, h12]
      refine wstep_storeAll szO (by decide) (ht2.keeps hs23) rfl rfl hcl' ho3.ok ?_
      intro t4 ht4 hnx4 hot4
      simp (config := { maxSteps := 1000000, implicitDefEqProofs := false }) (disch := omega) only [allW, allR, oneOf, evalAll, partsA, optA, Nat.reduceLT, Nat.reduceLeDiff, Nat.reduceEqDiff, Nat.reduceAdd, ↓reduceIte, hn, h1, h4, h10, h11, h12]
      have hn1 := hst1.next
      refine hQ _ _ _ (.inl ⟨rfl, by simp only [get_put, n_put, ↓reduceIte, Nat.reduceEqDiff, hn], by simp only [get_put, n_put, ↓reduceIte, Nat.reduceEqDiff, h4], cs', ht4, ?_, (hs2.trans (hs23.weaken hs2.next)).trans ⟨by omega, fun j hj => hot4 j (by omega)⟩⟩)
      rw [hg, findE_at hlt hke (fun j hj => hP j (by omega) hj)]
      exact (ho3.ofPut hnx4 hot4 (by omega)).mono (fun j hj => by omega)
    · simp (config := { maxSteps := 1000000, implicitDefEqProofs := false }) (disch := omega) only [allW, allR, oneOf, evalAll, partsA, optA, Nat.reduceLT, Nat.reduceLeDiff, Nat.reduceEqDiff, Nat.reduceAdd, ↓reduceIte, hn, h1, h4, h10, h11, h12, ofE0, ofE1, l17, str_eql, decide_eq_false hke, wrapI]
      refine wround_next (d.length - (i + 1)) (by omega) ⟨i + 1, rfl, by omega, fun j h hj => ?_, hs2t, by simp only [get_put, n_put, ↓reduceIte, Nat.reduceEqDiff, hn], by simp only [get_put, n_put, ↓reduceIte, Nat.reduceEqDiff, h1], by simp only [get_put, n_put, ↓reduceIte, Nat.reduceEqDiff, h4], by simp only [get_put, n_put, ↓reduceIte, Nat.reduceEqDiff, h10], by simp only [get_put, n_put, ↓reduceIte, Nat.reduceEqDiff, h11], by simp only [get_put, n_put, ↓reduceIte, Nat.reduceEqDiff]; rfl⟩
      by_cases hji : j = i
      · subst hji; exact hke
      · exact hP j h (by omega)
  clear hn h0 h1 f
  rintro z f t (⟨rfl, hn, h4, cs', ht4, ho4, hst4⟩ | ⟨rfl, hn, h4, hnone, hst⟩)
  · simp (config := { maxSteps := 1000000, implicitDefEqProofs := false }) (disch := omega) only [allW, allR, wfn_ret, wfn_normal, oneOf, evalAll, partsA, optA, Nat.reduceLT, Nat.reduceLeDiff, Nat.reduceEqDiff, Nat.reduceAdd, ↓reduceIte, hn, h4, Thing.loadO ht4 ho4.len, resultsA_cell, Try.results18]
    have := hs2.next
    exact ⟨cs', rfl, ho4.mono (fun j hj => by omega), hst4⟩
  · rw [hnone]
    have hst0 : Stay s.next s t := hs2.trans (hst.weaken hs2.next)
    simp (config := { maxSteps := 1000000, implicitDefEqProofs := false }) (disch := omega) only [allW, allR, oneOf, evalAll, partsA, optA, Nat.reduceLT, Nat.reduceLeDiff, Nat.reduceEqDiff, Nat.reduceAdd, ↓reduceIte, hn, h4]
    refine (none_any hln t).mono ?_
    rintro _ q4 ⟨cs', rfl, ho4, hq4⟩
    have hcl4 := ho4.len
    have q24 := (hst).trans (hq4.weaken (hst).next)
    have hn1 := hst1.next
    have hn2 := hs2.next
    have hn3 := (hst).next
    simp (config := { maxSteps := 1000000, implicitDefEqProofs := false }) (disch := omega) only [allW, allR, oneOf, evalAll, partsA, optA, Nat.reduceLT, Nat.reduceLeDiff, Nat.reduceEqDiff, Nat.reduceAdd, ↓reduceIte, hn, h4]
    refine wstep_storeAll szO (by decide) (ht2.keeps q24) rfl rfl hcl4 ho4.ok ?_
    intro q5 ht5 hnx5 hot5
    simp (config := { maxSteps := 1000000, implicitDefEqProofs := false }) (disch := omega) only [allW, allR, wfn_ret, wfn_normal, oneOf, evalAll, partsA, optA, Nat.reduceLT, Nat.reduceLeDiff, Nat.reduceEqDiff, Nat.reduceAdd, ↓reduceIte, hn, h4, Thing.loadO ht5 hcl4, resultsA_cell, Try.results18]
    exact NewO.put ho4 (fun j hj => ⟨by omega, by omega⟩) hnx5 hot5 (hs2.trans (q24.weaken hs2.next)) hn1
end Go.Proofs.Ytdhdhbkikhedlaa
/-
  Objects: Drop, Arr.
-/
namespace Go.Cl
theorem dropsK_take {K : List (List UInt8)} {i : Nat} (h : i < K.length) : dropsK (K.take (i + 1)) = dropsK (K.take i) ++ [(K[i], O.none)] := by
  unfold dropsK; rw [List.take_add_one, List.getElem?_eq_getElem h, List.map_append]; rfl
theorem dropsK_len (K : List (List UInt8)) : (dropsK K).length = K.length := by unfold dropsK; rw [List.length_map]
theorem dropsK_small {K : List (List UInt8)} : ∀ e ∈ dropsK K, Small e.2 := by
  intro e h
  unfold dropsK at h
  obtain ⟨k, _, rfl⟩ := List.mem_map.1 h
  exact Small.none
end Go.Cl
namespace Go.Proofs.Ytdhdhbkikhedlaa
open Go.Cl Go.Lib
set_option maxHeartbeats 4000000 in
theorem drop_any {lib : Prims} (L : LibC lib) (F : Nat → Prop) (s : ASt) (cs : List Value) (o : O) (ho : OIs F s cs o) (hsm : Small o) (x : Value) (K : List (List UInt8)) (hx : Sees s 1 x K.length (strs K)) (hKn : K.length ≤ 100000) (hKl : ∀ k ∈ K, k.length ≤ 9223372036854775807) :
    Runs Try.prog lib 15 [.agg cs.toArray, x] s (NewO s (setO o (dropsK K))) := by
  have hcl := ho.len
  refine Runs.enter 23 Try.func15 rfl L.drop rfl rfl ?_
  intro f hn hf
  have h0 : f.get 0 = .agg cs.toArray := hf 0
  have h1 : f.get 1 = x := hf 1
  clear hf
  simp (config := { maxSteps := 1000000, implicitDefEqProofs := false }) (disch := omega) only [allW, allR, oneOf, evalAll, partsA, optA, Nat.reduceLT, Nat.reduceLeDiff, Nat.reduceEqDiff, Nat.reduceAdd, ↓reduceIte, hn, h0, h1]
  refine wstep_newPtr ?_
  intro s1 ht1 hst1 hnx1
  have hd6 : noneC.length + 1 = 6 := rfl
  simp (config := { maxSteps := 1000000, implicitDefEqProofs := false }) (disch := omega) only [allW, allR, oneOf, evalAll, partsA, optA, Nat.reduceLT, Nat.reduceLeDiff, Nat.reduceEqDiff, Nat.reduceAdd, ↓reduceIte, hn, h0, h1, hcl, zO, plO]
  refine wstep_newPtr ?_
  intro s2 ht2 hst2 hnx2
  have hs2 : Stay s.next s s2 := hst1.trans (hst2.weaken (by omega))
  have ht12 := ht1.keeps hst2
  have hx2 := hx.keeps hs2
  simp (config := { maxSteps := 1000000, implicitDefEqProofs := false }) (disch := omega) only [allW, allR, oneOf, evalAll, partsA, optA, Nat.reduceLT, Nat.reduceLeDiff, Nat.reduceEqDiff, Nat.reduceAdd, ↓reduceIte, hn, h0, h1, hd6, hx2.lenA Try.underlying27]
  refine Comes.loopOut (fun z f t => ∃ (i : Nat) (w : Value) (LC : List Value), z = K.length - i ∧ i ≤ K.length ∧ Own t 6 w i LC ∧ ORows EntIs 6 (fun _ => False) t (dropsK (K.take i)) LC ∧ Fresh s2.next w ∧ Stay s2.next s2 t ∧ f.n = 23 ∧ f.get 2 = .pointer (some ⟨s.next, 0, some 6⟩) ∧ f.get 4 = .pointer (some ⟨s1.next, 0, some 6⟩) ∧ f.get 5 = w ∧ f.get 8 = x ∧ f.get 9 = .int .i64 (K.length : Nat) ∧ f.get 10 = .int .i64 (i : Nat))
    (fun z f t => z = .exit 0 ∧ ∃ (w : Value) (LC : List Value), Own t 6 w K.length LC ∧ ORows EntIs 6 (fun _ => False) t (dropsK K) LC ∧ Stay s2.next s2 t ∧ f.n = 23 ∧ f.get 2 = .pointer (some ⟨s.next, 0, some 6⟩) ∧ f.get 4 = .pointer (some ⟨s1.next, 0, some 6⟩) ∧ f.get 5 = w)
    ⟨0, .slice none 0 0, [], rfl, by omega, .nil, by rw [List.take_zero]; exact ORows.nil, Fresh.nil _, Stay.refl _ _, by simp only [get_put, n_put, ↓reduceIte, Nat.reduceEqDiff, hn], by simp only [get_put, n_put, ↓reduceIte, Nat.reduceEqDiff], by simp only [get_put, n_put, ↓reduceIte, Nat.reduceEqDiff], by simp only [get_put, n_put, ↓reduceIte, Nat.reduceEqDiff], by simp only [get_put, n_put, ↓reduceIte, Nat.reduceEqDiff], by simp only [get_put, n_put, ↓reduceIte, Nat.reduceEqDiff], by simp only [get_put, n_put, ↓reduceIte, Nat.reduceEqDiff]; rfl⟩ ?_ ?_
  · clear hn h0 h1 f
    rintro Q hQ z f t ⟨i, w, LC, rfl, hi, hw, hwr, hwF, hst, hn, h2, h4, h5, h8, h9, h10⟩
    by_cases hlt : i < K.length
    rotate_left
    · obtain rfl : i = K.length := by omega
      rw [List.take_length] at hwr
      have d1 : ¬ ((K.length : Nat) : Int) < ((K.length : Nat) : Int) := by omega
      simp (config := { maxSteps := 1000000, implicitDefEqProofs := false }) (disch := omega) only [allW, allR, oneOf, evalAll, partsA, optA, Nat.reduceLT, Nat.reduceLeDiff, Nat.reduceEqDiff, Nat.reduceAdd, ↓reduceIte, hn, h2, h4, h5, h8, h9, h10, eq_false d1]
      exact hQ _ _ _ ⟨rfl, w, LC, hw, hwr, hst, by simp only [get_put, n_put, ↓reduceIte, Nat.reduceEqDiff, hn], by simp only [get_put, n_put, ↓reduceIte, Nat.reduceEqDiff, h2], by simp only [get_put, n_put, ↓reduceIte, Nat.reduceEqDiff, h4], by simp only [get_put, n_put, ↓reduceIte, Nat.reduceEqDiff, h5]⟩
    have d1 : (i : Int) < (K.length : Int) := by omega
    have hst0 : Stay s.next s t := hs2.trans (hst.weaken hs2.next)
    have hxt := hx.keeps hst0
    have hix := hxt.indexAddr (P := Try.prog) (k := .i64) (x := (i : Int)) Try.underlying27 szStr (by omega) (by omega)
    rw [Int.toNat_natCast] at hix
    have hll := hxt.load1 (P := Try.prog) agStr hlt
    rw [strs_get hlt] at hll
    obtain ⟨es, hes⟩ : ∃ es, es = Value.string ⟨(K[i]).toArray⟩ :: noneC := ⟨_, rfl⟩
    have hel : es.length = 6 := by rw [hes]; rfl
    have hesok : es.all okCell = true := by rw [hes]; rfl
    have hbE := bE0 K[i]
    rw [← hes] at hbE
    simp (config := { maxSteps := 1000000, implicitDefEqProofs := false }) (disch := omega) only [allW, allR, oneOf, evalAll, partsA, optA, Nat.reduceLT, Nat.reduceLeDiff, Nat.reduceEqDiff, Nat.reduceAdd, ↓reduceIte, hn, h2, h4, h5, h8, h9, h10, eq_true d1, hix, hll, hbE, buildAgg1 (cs := es.toArray) Try.underlying24 szE zE plE rfl hel (by decide)]
    refine wstep_newSlice (by rw [hel]) ?_
    intro b t1 hb1 hbF1 hst1'
    simp (config := { maxSteps := 1000000, implicitDefEqProofs := false }) (disch := omega) only [allW, allR, oneOf, evalAll, partsA, optA, Nat.reduceLT, Nat.reduceLeDiff, Nat.reduceEqDiff, Nat.reduceAdd, ↓reduceIte, hn, h2, h4, h5, h8, h9, h10]
    refine wstep_append Try.underlying24 Try.underlying24 (.inl ⟨_, rfl⟩) szE byE zE rfl (hw.keeps hst1') hb1.sees.src hel (by decide) hesok (by omega) (by omega) hwF (by have := hst.next; have := hst1'.next; omega) ?_
    intro w' t2 hw' hwF' hst2' htu2 _
    simp (config := { maxSteps := 1000000, implicitDefEqProofs := false }) (disch := omega) only [allW, allR, oneOf, evalAll, partsA, optA, Nat.reduceLT, Nat.reduceLeDiff, Nat.reduceEqDiff, Nat.reduceAdd, ↓reduceIte, hn, h2, h4, h5, h8, h9, h10, wrapI]
    refine wround_next (K.length - (i + 1)) (by omega) ⟨i + 1, w', LC ++ es, rfl, by omega, hw', ?_, hwF', (hst.trans (hst1'.weaken hst.next)).trans hst2', by simp only [get_put, n_put, ↓reduceIte, Nat.reduceEqDiff, hn], by simp only [get_put, n_put, ↓reduceIte, Nat.reduceEqDiff, h2], by simp only [get_put, n_put, ↓reduceIte, Nat.reduceEqDiff, h4], by simp only [get_put, n_put, ↓reduceIte, Nat.reduceEqDiff], by simp only [get_put, n_put, ↓reduceIte, Nat.reduceEqDiff, h8], by simp only [get_put, n_put, ↓reduceIte, Nat.reduceEqDiff, h9], by simp only [get_put, n_put, ↓reduceIte, Nat.reduceEqDiff]; rfl⟩
    rw [dropsK_take hlt]
    exact ((hwr.keeps rowedE hst1').turns rowedE htu2 (fun j hj => hj.elim)).snoc hel ⟨noneC, hes, OIs.none _ _, hKl _ (List.getElem_mem hlt)⟩
  clear hn h0 h1 f
  rintro z f t ⟨rfl, w, LC, hw, hwr, hst, hn, h2, h4, h5⟩
  have hst0 : Stay s.next s t := hs2.trans (hst.weaken hs2.next)
  simp (config := { maxSteps := 1000000, implicitDefEqProofs := false }) (disch := omega) only [allW, allR, oneOf, evalAll, partsA, optA, Nat.reduceLT, Nat.reduceLeDiff, Nat.reduceEqDiff, Nat.reduceAdd, ↓reduceIte, hn, h2, h4, h5, Thing.loadO (ht12.keeps hst) hcl]
  refine (setC L F t cs o (ho.keeps hst0) hsm w (dropsK K) LC (by rw [dropsK_len]; exact hw.sees) (hwr.mono rowedE (fun j hj => hj.elim)) (by rw [dropsK_len]; exact hKn) dropsK_small).mono ?_
  rintro _ t2 ⟨cs', rfl, ho2, hst2'⟩
  have hcl2 := ho2.len
  have hs2t : Stay s2.next s2 t2 := hst.trans (hst2'.weaken hst.next)
  have hn1 := hst1.next
  have hn2 := hs2.next
  have hn3 := hst.next
  simp (config := { maxSteps := 1000000, implicitDefEqProofs := false }) (disch := omega) only [allW, allR, oneOf, evalAll, partsA, optA, Nat.reduceLT, Nat.reduceLeDiff, Nat.reduceEqDiff, Nat.reduceAdd, ↓reduceIte, hn, h2, h4, h5]
  refine wstep_storeAll szO (by decide) (ht2.keeps hs2t) rfl rfl hcl2 ho2.ok ?_
  intro t3 ht3 hnx3 hot3
  simp (config := { maxSteps := 1000000, implicitDefEqProofs := false }) (disch := omega) only [allW, allR, wfn_ret, wfn_normal, oneOf, evalAll, partsA, optA, Nat.reduceLT, Nat.reduceLeDiff, Nat.reduceEqDiff, Nat.reduceAdd, ↓reduceIte, hn, h4, Thing.loadO ht3 hcl2, resultsA_cell, Try.results15]
  exact NewO.put ho2 (fun j hj => ⟨by omega, by omega⟩) hnx3 hot3 (hs2.trans (hs2t.weaken hs2.next)) hn1
set_option maxHeartbeats 4000000 in
theorem arr_any {lib : Prims} (hl : lib.at 24 = none) (hlc : lib.at 30 = none) (hlcl : lib.at 52 = none) (F : Nat → Prop) (s : ASt) (x : Value) (l : List O) (lc : List Value) (hx : Sees s 5 x l.length lc) (rl : ORows OIs 5 F s l lc) (hln : l.length ≤ 100000) (hL1 : ∀ o ∈ l, Small o) :
    Runs Try.prog lib 24 [x] s (NewO s (.mk 6 0 [] l [])) := by
  refine Runs.enter 22 Try.func24 rfl hl rfl rfl ?_
  intro f hn hf
  have h0 : f.get 0 = x := hf 0
  clear hf
  simp (config := { maxSteps := 1000000, implicitDefEqProofs := false }) (disch := omega) only [allW, allR, oneOf, evalAll, partsA, optA, Nat.reduceLT, Nat.reduceLeDiff, Nat.reduceEqDiff, Nat.reduceAdd, ↓reduceIte, hn, h0, zO, plO]
  refine wstep_newPtr ?_
  intro s1 ht1 hst1 hnx1
  have hd6 : noneC.length + 1 = 6 := rfl
  simp (config := { maxSteps := 1000000, implicitDefEqProofs := false }) (disch := omega) only [allW, allR, oneOf, evalAll, partsA, optA, Nat.reduceLT, Nat.reduceLeDiff, Nat.reduceEqDiff, Nat.reduceAdd, ↓reduceIte, hn, h0, hd6, bO1, zO, plO]
  refine wstep_newPtr ?_
  intro s2 ht2 hst2 hnx2
  simp (config := { maxSteps := 1000000, implicitDefEqProofs := false }) (disch := omega) only [allW, allR, oneOf, evalAll, partsA, optA, Nat.reduceLT, Nat.reduceLeDiff, Nat.reduceEqDiff, Nat.reduceAdd, ↓reduceIte, hn, h0, hd6]
  refine wstep_storeAll szO (by decide) ht2 rfl rfl rfl rfl ?_
  intro s3 ht3 hnx3 hot3
  have ht3 : Thing s3 s1.next [.int .i64 6, .int .i64 0, .slice none 0 0, .slice none 0 0, .slice none 0 0] := ht3
  have hs13 : Stay s1.next s1 s3 := hst2.trans ⟨by omega, fun j hj => hot3 j (by omega)⟩
  have hs3 : Stay s.next s s3 := hst1.trans (hs13.weaken (by omega))
  have ht13 := ht1.keeps hs13
  have hx3 := hx.keeps hs3
  have hn1 := hst1.next
  have hn13 := hs13.next
  have hlt3 := ht3.lt
  simp (config := { maxSteps := 1000000, implicitDefEqProofs := false }) (disch := omega) only [allW, allR, oneOf, evalAll, partsA, optA, Nat.reduceLT, Nat.reduceLeDiff, Nat.reduceEqDiff, Nat.reduceAdd, ↓reduceIte, hn, h0, hx3.lenA Try.underlying23]
  obtain ⟨FF, hFF⟩ : ∃ FF : Value → Nat → Prop, FF = fun v j => s3.next ≤ j ∧ ¬ (fun _ => False) j ∧ idOf v ≠ some j := ⟨_, rfl⟩
  refine Comes.loopOut (fun z f t => ∃ (i : Nat) (y : Value) (LC : List Value), z = l.length - i ∧ i ≤ l.length ∧ Own t 5 y i LC ∧ ORows OIs 5 (FF y) t (l.take i) LC ∧ Fresh s3.next y ∧ Thing t s1.next [.int .i64 6, .int .i64 0, .slice none 0 0, y, .slice none 0 0] ∧ Stay s1.next s1 t ∧ s3.next ≤ t.next ∧ f.n = 22 ∧ f.get 2 = .pointer (some ⟨s.next, 0, some 6⟩) ∧ f.get 3 = .pointer (some ⟨s1.next, 0, some 6⟩) ∧ f.get 7 = x ∧ f.get 8 = .int .i64 (l.length : Nat) ∧ f.get 9 = .int .i64 (i : Nat))
    (fun z f t => z = .exit 0 ∧ ∃ (y : Value) (LC : List Value), Own t 5 y l.length LC ∧ ORows OIs 5 (FF y) t l LC ∧ Fresh s3.next y ∧ Thing t s1.next [.int .i64 6, .int .i64 0, .slice none 0 0, y, .slice none 0 0] ∧ Stay s1.next s1 t ∧ f.n = 22 ∧ f.get 2 = .pointer (some ⟨s.next, 0, some 6⟩) ∧ f.get 3 = .pointer (some ⟨s1.next, 0, some 6⟩))
    ⟨0, .slice none 0 0, [], rfl, by omega, .nil, by rw [List.take_zero]; exact ORows.nil, Fresh.nil _, ht3, hs13, Nat.le_refl _, by simp only [get_put, n_put, ↓reduceIte, Nat.reduceEqDiff, hn], by simp only [get_put, n_put, ↓reduceIte, Nat.reduceEqDiff], by simp only [get_put, n_put, ↓reduceIte, Nat.reduceEqDiff], by simp only [get_put, n_put, ↓reduceIte, Nat.reduceEqDiff], by simp only [get_put, n_put, ↓reduceIte, Nat.reduceEqDiff], by simp only [get_put, n_put, ↓reduceIte, Nat.reduceEqDiff]; rfl⟩ ?_ ?_
  · clear hn h0 f
    rintro Q hQ z f s6 ⟨i, y, LC, rfl, hi, hy, hR, hyF, hb3', hst6, hn6, hn, h2, h3, h7, h8, h9⟩
    have hst06 : Stay s.next s s6 := hst1.trans (hst6.weaken hn1)
    have hL6 := hx.keeps hst06
    by_cases hlt : i < l.length
    rotate_left
    · obtain rfl : i = l.length := by omega
      rw [List.take_length] at hR
      have d1 : ¬ ((l.length : Nat) : Int) < ((l.length : Nat) : Int) := by omega
      simp (config := { maxSteps := 1000000, implicitDefEqProofs := false }) (disch := omega) only [allW, allR, oneOf, evalAll, partsA, optA, Nat.reduceLT, Nat.reduceLeDiff, Nat.reduceEqDiff, Nat.reduceAdd, ↓reduceIte, hn, h2, h3, h7, h8, h9, eq_false d1]
      exact hQ _ _ _ ⟨rfl, y, LC, hy, hR, hyF, hb3', hst6, by simp only [get_put, n_put, ↓reduceIte, Nat.reduceEqDiff, hn], by simp only [get_put, n_put, ↓reduceIte, Nat.reduceEqDiff, h2], by simp only [get_put, n_put, ↓reduceIte, Nat.reduceEqDiff, h3]⟩
    have hy2 : idOf y ≠ some s1.next := fun e => by have := hyF _ e; omega
    have d1 : (i : Int) < (l.length : Int) := by omega
    have hix := hL6.indexAddr (P := Try.prog) (k := .i64) (x := (i : Int)) Try.underlying23 szO (by omega) (by omega)
    rw [Int.toNat_natCast] at hix
    have hld := hL6.loadAgg (P := Try.prog) agO szO hlt
    have hoi := (rl.row i hlt).keeps hst06
    obtain ⟨xs, hxs⟩ : ∃ xs, xs = (lc.drop (i * 5)).take 5 := ⟨_, rfl⟩
    rw [← hxs] at hld hoi
    have hxl := hoi.len
    simp (config := { maxSteps := 1000000, implicitDefEqProofs := false }) (disch := omega) only [allW, allR, oneOf, evalAll, partsA, optA, Nat.reduceLT, Nat.reduceLeDiff, Nat.reduceEqDiff, Nat.reduceAdd, ↓reduceIte, hn, h2, h3, h7, h8, h9, eq_true d1, hix, hld, hoi.self, zO, plO]
    refine wstep_newPtr ?_
    intro s7 ht7 hst7 hnx7
    simp (config := { maxSteps := 1000000, implicitDefEqProofs := false }) (disch := omega) only [allW, allR, oneOf, evalAll, partsA, optA, Nat.reduceLT, Nat.reduceLeDiff, Nat.reduceEqDiff, Nat.reduceAdd, ↓reduceIte, hn, h2, h3, h7, h8, h9, hd6]
    refine wstep_storeAll szO (by decide) ht7 rfl rfl hxl hoi.ok ?_
    intro s8 ht8 hnx8 hot8
    have ht8 : Thing s8 s6.next xs := ht8
    have hs68 : Stay s6.next s6 s8 := hst7.trans ⟨by omega, fun j hj => hot8 j (by omega)⟩
    have hb3' := hb3'.keeps hs68
    have hy := hy.keeps hs68
    have hR := hR.keeps rowedO hs68
    have hoi := hoi.keeps hs68
    simp (config := { maxSteps := 1000000, implicitDefEqProofs := false }) (disch := omega) only [allW, allR, oneOf, evalAll, partsA, optA, Nat.reduceLT, Nat.reduceLeDiff, Nat.reduceEqDiff, Nat.reduceAdd, ↓reduceIte, hn, h2, h3, h7, h8, h9]
    obtain ⟨A, hA⟩ : ∃ A : Nat → Bool, A = fun j => decide (j < s8.next) := ⟨_, rfl⟩
    have hAl : ∀ j, A j = true → j < s8.next := by
      intro j h
      rw [hA] at h
      exact of_decide_eq_true h
    have hAo : ∀ j, j < s8.next → A j = true := fun j h => by rw [hA]; exact decide_eq_true h
    refine LB.Drawn.looseK A hAl 1 1 (by kernel_rfl) (by kernel_rfl) ?_
    have hsp := Stay.spare s8 1
    have hnT : (spare s8 1).next = s8.next + 1 := spare_next _ _
    have hlow3 : ∀ k, LA.lowV A (some (.pointer (some ⟨s1.next, k, some 6⟩))) = true := fun k => LA.lowV_ptr (A := A) (i := s1.next) (hAo _ hb3'.lt)
    have hlow5 : ∀ k, LA.lowV A (some (.pointer (some ⟨s6.next, k, some 6⟩))) = true := fun k => LA.lowV_ptr (A := A) (i := s6.next) (hAo _ ht8.lt)
    have l8 : loadA Try.prog (spare s8 1) 23 (.pointer (some ⟨s1.next, 3, some 6⟩)) = some y := (hb3'.keeps hsp).load agLs (off := 3) (c := 6) rfl (by simp)
    have l9 : loadA Try.prog (spare s8 1) 26 (.pointer (some ⟨s6.next, 0, some 6⟩)) = some (.agg xs.toArray) := Thing.loadAll agO (by rw [hxl]; exact szO) (ht8.keeps hsp) (by rw [hxl])
    have hoi := hoi.keeps hsp
    simp (config := { maxSteps := 1000000, implicitDefEqProofs := false }) (disch := omega) only [allW, allR, allL, allB, Nat.sub_self, Nat.add_one_sub_one, Nat.reduceSub, oneOf, evalAll, partsA, optA, Nat.reduceLT, Nat.reduceLeDiff, Nat.reduceEqDiff, Nat.reduceAdd, ↓reduceIte, hn, h2, h3, h7, h8, h9, of3, hlow3, hlow5, l8, l9, hy.self, hoi.self]
    refine (copyO hlc hlcl _ l[i] (Nat.le_refl _) F (spare s8 1) _ hoi (hL1 _ (List.getElem_mem hlt))).mono ?_
    intro v9 s9 h9'
    obtain ⟨cs7, rfl, ho7, hst9⟩ := h9'.is
    have hn9 := hst9.next
    refine ⟨fun _ => LA.Stay.toA hAl (hst9.weaken (by omega)), ?_⟩
    have hl7 := ho7.len
    simp (config := { maxSteps := 1000000, implicitDefEqProofs := false }) (disch := omega) only [allW, allR, allL, allB, Nat.sub_self, Nat.add_one_sub_one, Nat.reduceSub, oneOf, evalAll, partsA, optA, Nat.reduceLT, Nat.reduceLeDiff, Nat.reduceEqDiff, Nat.reduceAdd, ↓reduceIte, hn, h2, h3, h7, h8, h9, ho7.self, buildAgg1 (cs := cs7.toArray) Try.underlying23 szO zO plO rfl hl7 (by decide)]
    refine LB.smake_newSlice (base := s8.next) hl7 (by omega) (Nat.le_refl _) ?_
    intro bs sa hbs hid hsta hnxa hota
    have hst8a : Stay s8.next s8 sa := (hsp.trans (hst9.weaken (by omega))).trans hsta
    have hna := hst8a.next
    have ho8 : OIs (FF y) sa cs7 l[i] := by
      refine (ho7.turns (u := .pointer (some ⟨s8.next, 0, none⟩)) (Turns.ofPut hnxa hota) (fun j hj e => ?_)).mono (fun j hj => ?_)
      · have e : some s8.next = some j := e
        injection e with e; omega
      · rw [hFF]; exact ⟨by omega, fun h => h, fun e => by have := hy.idlt _ e; omega⟩
    simp (config := { maxSteps := 1000000, implicitDefEqProofs := false }) (disch := omega) only [allW, allR, allL, allB, Nat.sub_self, Nat.add_one_sub_one, Nat.reduceSub, oneOf, evalAll, partsA, optA, Nat.reduceLT, Nat.reduceLeDiff, Nat.reduceEqDiff, Nat.reduceAdd, ↓reduceIte, hn, h2, h3, h7, h8, h9, hy.self]
    refine LB.sstep_append Try.underlying23 Try.underlying23 (.inl ⟨_, rfl⟩) szO byO zO rfl (hy.keeps hst8a) hbs.sees.src hl7 (by decide) ho8.ok (by omega) (by omega) (base := s3.next) hyF (by omega) (fun h => absurd rfl h) (fun j hj => by have := hAl j hj; omega) ?_
    intro y' sb hyb hFb hutb hor
    have hnb := hutb.next
    have hR8 := hR.keeps rowedO hst8a
    rw [hFF] at hR8 ho8
    have hR9 := hR8.grow rowedO hl7 ho8 hutb hor
    rw [show (fun j => s3.next ≤ j ∧ ¬ (fun _ => False) j ∧ idOf y' ≠ some j) = FF y' by rw [hFF]] at hR9
    have hyb2 : idOf y' ≠ some s1.next := fun e => by have := hFb _ e; omega
    simp (config := { maxSteps := 1000000, implicitDefEqProofs := false }) (disch := omega) only [allW, allR, allL, allB, Nat.sub_self, Nat.add_one_sub_one, Nat.reduceSub, oneOf, evalAll, partsA, optA, Nat.reduceLT, Nat.reduceLeDiff, Nat.reduceEqDiff, Nat.reduceAdd, ↓reduceIte, hn, h2, h3, h7, h8, h9, of3, hlow3]
    refine LB.sstep_storeN szLs (by decide) ((hb3'.keeps hst8a).turns hutb hy2) (off := 3) (c := 6) rfl (vs := [y']) hyb.sees.cell1 rfl (by simp) (by simp [hyb.sees.okCell]) (fun h => absurd rfl h) ?_
    intro sc htc hnxc hotc
    have htc : Thing sc s1.next [.int .i64 6, .int .i64 0, .slice none 0 0, y', .slice none 0 0] := htc
    have huc : Turns (.pointer (some ⟨s1.next, 0, none⟩)) sb sc := Turns.ofPut hnxc hotc
    have hnec : ∀ j, FF y' j → idOf (.pointer (some ⟨s1.next, 0, none⟩)) ≠ some j := fun j hj e => by
      have e : some s1.next = some j := e
      injection e with e
      rw [hFF] at hj; have := hj.1; omega
    simp (config := { maxSteps := 1000000, implicitDefEqProofs := false }) (disch := omega) only [allW, allR, allL, allB, Nat.sub_self, Nat.add_one_sub_one, Nat.reduceSub, oneOf, evalAll, partsA, optA, Nat.reduceLT, Nat.reduceLeDiff, Nat.reduceEqDiff, Nat.reduceAdd, ↓reduceIte, hn, h2, h3, h7, h8, h9, wrapI]
    have hn6' := hst6.next
    refine wround_next (l.length - (i + 1)) (by omega) ⟨i + 1, y', LC ++ cs7, rfl, by omega, hyb.ofPut hnxc hotc hyb2, ?_, hFb, htc, ?_, by omega, by simp only [get_put, n_put, ↓reduceIte, Nat.reduceEqDiff, hn], by simp only [get_put, n_put, ↓reduceIte, Nat.reduceEqDiff, h2], by simp only [get_put, n_put, ↓reduceIte, Nat.reduceEqDiff, h3], by simp only [get_put, n_put, ↓reduceIte, Nat.reduceEqDiff, h7], by simp only [get_put, n_put, ↓reduceIte, Nat.reduceEqDiff, h8], by simp only [get_put, n_put, ↓reduceIte, Nat.reduceEqDiff]; rfl⟩
    · rw [List.take_add_one, List.getElem?_eq_getElem hlt]
      exact hR9.turns rowedO huc hnec
    · exact (((hst6.trans (hs68.weaken hn6')).trans (hst8a.weaken (by have := hs68.next; omega))).trans ((hutb.keeps hyF (by omega)).weaken (by omega))).trans ⟨by omega, fun j hj => hotc j (by omega)⟩
  clear hn h0 f
  rintro z f t ⟨rfl, y, LC, hy, hR, hyF, hb3', hst, hn, h2, h3⟩
  have hfin : OIs (fun j => s3.next ≤ j) t [.int .i64 6, .int .i64 0, .slice none 0 0, y, .slice none 0 0] (.mk 6 0 [] l []) := OIs.whole .nil hy.sees .nil trivial (Foot.fresh hyF) trivial (hR.mono rowedO (fun j hj => by rw [hFF] at hj; exact hj.1)) ORows.nil
  simp (config := { maxSteps := 1000000, implicitDefEqProofs := false }) (disch := omega) only [allW, allR, oneOf, evalAll, partsA, optA, Nat.reduceLT, Nat.reduceLeDiff, Nat.reduceEqDiff, Nat.reduceAdd, ↓reduceIte, hn, h2, h3, Thing.loadO hb3' rfl]
  refine wstep_storeAll szO (by decide) (ht1.keeps hst) rfl rfl rfl hfin.ok ?_
  intro s7 ht7 hnx7 hot7
  simp (config := { maxSteps := 1000000, implicitDefEqProofs := false }) (disch := omega) only [allW, allR, wfn_ret, wfn_normal, oneOf, evalAll, partsA, optA, Nat.reduceLT, Nat.reduceLeDiff, Nat.reduceEqDiff, Nat.reduceAdd, ↓reduceIte, hn, h2, Thing.loadO ht7 rfl, resultsA_cell, Try.results24]
  exact NewO.put hfin (fun j hj => ⟨by omega, by omega⟩) hnx7 hot7 (hst1.trans (hst.weaken hn1)) (Nat.le_refl _)
end Go.Proofs.Ytdhdhbkikhedlaa
