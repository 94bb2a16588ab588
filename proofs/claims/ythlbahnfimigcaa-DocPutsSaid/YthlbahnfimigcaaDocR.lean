/-
 Documents: numbered by what is reached, in plain.
-/
import Derived.Test.YthlbahnfimigcaaDocI
import Derived.Test.YthlbahnfimigcaaAgg
import Derived.Test.YthlbahnfimigcaaCosO
import Derived.Test.YthlbahnfimigcaaCosJ
import Derived.Test.YthlbahnfimigcaaCosC
import Derived.Test.YthlbahnfimigcaaCosS
namespace Go.Cl
def newN : List Int -> Int -> Int
 | [], _ => 0
 | m :: r, n => if m = n then 1 else if newN r n = 0 then 0 else newN r n + 1
theorem newN_in : ∀ {r : List Int} {n : Int}, n ∈ r -> ∃ j, ∃ h : j < r.length, newN r n = ((j + 1 : Nat) : Int) ∧ r[j] = n
 | m :: r, n, h => by
  unfold newN
  by_cases e : m = n
  ·rw [if_pos e]; exact ⟨0, by simp, rfl, e⟩
  ·rw [if_neg e]
   have h' : n ∈ r := (List.mem_cons.1 h).resolve_left (fun q => e q.symm)
   obtain ⟨j, hj, h1, h2⟩ := newN_in h'
   rw [if_neg (by omega)]
   exact ⟨j + 1, by simp; omega, by rw [h1]; simp, by simpa using h2⟩
theorem newN_at {r : List Int} (hr : r.Nodup) {j : Nat} (hj : j < r.length) : newN r r[j] = ((j + 1 : Nat) : Int) := by
 obtain ⟨i, hi, h1, h2⟩ := newN_in (List.getElem_mem hj)
 have := (List.getElem_inj hr).1 h2
 rw [h1, this]
theorem MetTo.new {r : List Int} {T : List (Int × Value)} (h : MetTo r T) (hr : r.Nodup) (n : Int) : seekJ n T = if n ∈ r then some (.int .i64 (newN r n)) else Option.none := by
 cases hs : seekJ n T with
 | none => rw [if_neg (h.none n hs)]
 | some v =>
  obtain ⟨j, hj, h1, rfl⟩ := h.found n v hs
  rw [if_pos (h1 ▸ List.getElem_mem hj), ← h1, newN_at hr hj]
theorem WalksN.pre {D : List (Int × O)} {k : Nat} {st l r : List Int} (h : WalksN D k st l r) : ∀ n ∈ l, n ∈ r := by
 induction h with
 | done l => exact fun n h => h
 | skip k n st l r _ _ ih => exact ih
 | meet k n st l r _ _ _ ih => exact fun m hm => ih m (List.mem_append_left _ hm)
end Go.Cl
namespace Go.Cl
theorem buildAgg2 {P : Program} {s : ASt} {t e : TypeId} {z : Nat} {zv : Value} {a b : Array Value} (hu : P.underlying t = some (.slice e)) (hsz : sizeB P e = some z) (hz : zeroB P e = some zv) (hpl : plainV zv = true) (hzl : Nat.beq zv.cells.toList.length z = true) (ha : a.toList.length = z) (hb : b.toList.length = z) (hz6 : z ≤ 1000) : buildSliceA P s t 2 [(0, .agg a), (1, .agg b)] = newSlice s (a.toList ++ b.toList) 2 z := by
 unfold buildSliceA; rw [hu]
 have hzl' : zv.cells.toList.length = z := by simpa [Nat.beq_eq] using hzl
 obtain ⟨u, hu'⟩ : ∃ u, u = zv.cells.toList := ⟨_, rfl⟩
 have hr : repeatL zv.cells.toList 2 = u ++ u := by rw [← hu']; simp [repeatL]
 have hul : u.length = z := by rw [hu']; exact hzl'
 have hc0 : (Nat.ble (2 * z) 65536 && plainV zv && Nat.beq zv.cells.toList.length z) = true := by rw [hpl, hzl]; simp [Nat.ble_eq]; omega
 have e1 : setAt (u ++ u) (0 * z) a.toList = some (a.toList ++ u) := by
  rw [setAt_eq _ _ _ (by simp only [List.length_append]; omega), Nat.zero_mul, List.take_zero, List.nil_append, Nat.zero_add, List.drop_append, List.drop_eq_nil_of_le (by omega), List.nil_append, ha, hul, Nat.sub_self, List.drop_zero]
 have e2 : setAt (a.toList ++ u) (1 * z) b.toList = some (a.toList ++ b.toList) := by
  rw [setAt_eq _ _ _ (by simp only [List.length_append]; omega), Nat.one_mul, List.take_append_of_le_length (by omega), List.take_of_length_le (by omega), List.drop_eq_nil_of_le (by simp only [List.length_append]; omega), List.append_nil]
 have c1 : (Nat.beq a.toList.length z && Nat.ble (0 * z + z) (u ++ u).length) = true := by simp [Nat.ble_eq, ha, hul]
 have c2 : (Nat.beq b.toList.length z && Nat.ble (1 * z + z) (a.toList ++ u).length) = true := by
  rw [hb, List.length_append, ha, hul]; simp [Nat.ble_eq] <;> omega
 simp only [hsz, hz, hc0, hr, fillA, cells_agg, e1, e2, c1, c2, if_true]
theorem buildAgg3 {P : Program} {s : ASt} {t e : TypeId} {z : Nat} {zv : Value} {a b c : Array Value} (hu : P.underlying t = some (.slice e)) (hsz : sizeB P e = some z) (hz : zeroB P e = some zv) (hpl : plainV zv = true) (hzl : Nat.beq zv.cells.toList.length z = true) (ha : a.toList.length = z) (hb : b.toList.length = z) (hc : c.toList.length = z) (hz6 : z ≤ 1000) : buildSliceA P s t 3 [(0, .agg a), (1, .agg b), (2, .agg c)] = newSlice s (a.toList ++ b.toList ++ c.toList) 3 z := by
 unfold buildSliceA; rw [hu]
 have hzl' : zv.cells.toList.length = z := by simpa [Nat.beq_eq] using hzl
 obtain ⟨u, hu'⟩ : ∃ u, u = zv.cells.toList := ⟨_, rfl⟩
 have hr : repeatL zv.cells.toList 3 = u ++ (u ++ u) := by rw [← hu']; simp [repeatL]
 have hul : u.length = z := by rw [hu']; exact hzl'
 have hc0 : (Nat.ble (3 * z) 65536 && plainV zv && Nat.beq zv.cells.toList.length z) = true := by rw [hpl, hzl]; simp [Nat.ble_eq]; omega
 have e1 : setAt (u ++ (u ++ u)) (0 * z) a.toList = some (a.toList ++ (u ++ u)) := by
  rw [setAt_eq _ _ _ (by simp only [List.length_append]; omega), Nat.zero_mul, List.take_zero, List.nil_append, Nat.zero_add, List.drop_append, List.drop_eq_nil_of_le (by omega), List.nil_append, ha, hul, Nat.sub_self, List.drop_zero]
 have e2 : setAt (a.toList ++ (u ++ u)) (1 * z) b.toList = some (a.toList ++ (b.toList ++ u)) := by
  rw [setAt_eq _ _ _ (by simp only [List.length_append]; omega), Nat.one_mul, List.take_append_of_le_length (by omega), List.take_of_length_le (by omega), List.drop_append, List.drop_eq_nil_of_le (by omega), List.nil_append, hb, ha, List.drop_append, List.drop_eq_nil_of_le (by omega), List.nil_append, hul, List.append_assoc, Nat.add_sub_cancel, Nat.sub_self, List.drop_zero]
 have e3 : setAt (a.toList ++ (b.toList ++ u)) (2 * z) c.toList = some (a.toList ++ (b.toList ++ c.toList)) := by
  rw [setAt_eq _ _ _ (by simp only [List.length_append]; omega), ← List.append_assoc, List.take_append_of_le_length (by simp only [List.length_append]; omega), List.take_of_length_le (by simp only [List.length_append]; omega), List.drop_eq_nil_of_le (by simp only [List.length_append]; omega), List.append_nil, List.append_assoc]
 have c1 : (Nat.beq a.toList.length z && Nat.ble (0 * z + z) (u ++ (u ++ u)).length) = true := by simp [Nat.ble_eq, ha, hul]
 have c2 : (Nat.beq b.toList.length z && Nat.ble (1 * z + z) (a.toList ++ (u ++ u)).length) = true := by
  rw [hb, List.length_append, List.length_append, ha, hul]; simp [Nat.ble_eq] <;> omega
 have c3 : (Nat.beq c.toList.length z && Nat.ble (2 * z + z) (a.toList ++ (b.toList ++ u)).length) = true := by
  rw [hc, List.length_append, List.length_append, ha, hb, hul]; simp [Nat.ble_eq] <;> omega
 simp only [hsz, hz, hc0, hr, fillA, cells_agg, e1, e2, e3, c1, c2, c3, if_true, List.append_assoc]
theorem build3 {P : Program} {s : ASt} {t e : TypeId} {k : IntKind} {a b c : Int} (hu : P.underlying t = some (.slice e)) (hsz : sizeB P e = some 1) (hz : zeroB P e = some (.int k 0)) : buildSliceA P s t 3 [(0, .int k a), (1, .int k b), (2, .int k c)] = newSlice s [.int k a, .int k b, .int k c] 3 1 := by
 unfold buildSliceA; rw [hu]; simp only [hsz, hz]; rfl
end Go.Cl
set_option linter.unusedSimpArgs false
set_option linter.unusedVariables false
set_option maxRecDepth 100000
namespace Go.Proofs.Ythlbahnfimigcaa
open Go.Cl Go.Lib
theorem rint_any {lib : Prims} (hl : lib.at 36 = none) (s : ASt) (n : Int) : Runs Try.prog lib 36 [.int .i64 n] s (NewO s (.mk 2 n [] [] [])) := by
 refine Runs.enter 5 Try.func36 rfl hl rfl rfl ?_
 intro f hn hf
 have h0 : f.get 0 = .int .i64 n := hf 0
 clear hf
 simp -implicitDefEqProofs (disch := omega) only [allW, allR, oneOf, evalAll, partsA, optA, Nat.reduceLT, Nat.reduceLeDiff, Nat.reduceEqDiff, Nat.reduceAdd, ↓reduceIte, hn, zO, plO]
 refine wstep_newPtr ?_
 intro s1 ht1 hst1 hnx1
 have hd6 : noneC.length + 1 = 6 := rfl
 simp -implicitDefEqProofs (disch := omega) only [allW, allR, oneOf, evalAll, partsA, optA, Nat.reduceLT, Nat.reduceLeDiff, Nat.reduceEqDiff, Nat.reduceAdd, ↓reduceIte, hn, h0, hd6, bO]
 refine wstep_storeAll szO (by decide) ht1 rfl rfl rfl rfl ?_
 intro s2 ht2 hnx2 hot2
 simp -implicitDefEqProofs (disch := omega) only [allW, allR, wfn_ret, wfn_normal, oneOf, evalAll, partsA, optA, Nat.reduceLT, Nat.reduceLeDiff, Nat.reduceEqDiff, Nat.reduceAdd, ↓reduceIte, hn, Thing.loadO ht2 rfl, resultsA_cell, Try.results36]
 exact NewO.put (F := fun _ => False) (OIs.bare _ s1 2 n) (fun j hj => hj.elim) hnx2 hot2 hst1 (Nat.le_refl _)
theorem rpair_any {lib : Prims} (hl : lib.at 30 = none) (hlc : lib.at 53 = none) (hl1 : lib.at 44 = none) (F : Nat -> Prop) (s : ASt) (k : List UInt8) (cs : List Value) (o : O) (ho : OIs F s cs o) (hsm : Small o) :
  Runs Try.prog lib 30 [.string ⟨k.toArray⟩, .agg cs.toArray] s (NewE s k o) := by
 have hcl := ho.len
 refine Runs.enter 9 Try.func30 rfl hl rfl rfl ?_
 intro f hn hf
 have h0 : f.get 0 = .string ⟨k.toArray⟩ := hf 0
 have h1 : f.get 1 = .agg cs.toArray := hf 1
 clear hf
 simp -implicitDefEqProofs (disch := omega) only [allW, allR, oneOf, evalAll, partsA, optA, Nat.reduceLT, Nat.reduceLeDiff, Nat.reduceEqDiff, Nat.reduceAdd, ↓reduceIte, hn, h0, h1]
 refine wstep_newPtr ?_
 intro s1 ht1 hst1 hnx1
 simp -implicitDefEqProofs (disch := omega) only [allW, allR, oneOf, evalAll, partsA, optA, Nat.reduceLT, Nat.reduceLeDiff, Nat.reduceEqDiff, Nat.reduceAdd, ↓reduceIte, hn, h0, h1, hcl, zE, plE]
 refine wstep_newPtr ?_
 intro s2 ht2 hst2 hnx2
 have hs2 : Stay s.next s s2 := hst1.trans (hst2.weaken (by omega))
 have la : loadA Try.prog s2 26 (.pointer (some ⟨s.next, 0, some 6⟩)) = some (.agg cs.toArray) := Thing.loadAll agO (by rw [hcl]; exact szO) (ht1.keeps hst2) (by rw [hcl])
 have hd7 : noneE.length + 1 = 7 := rfl
 simp -implicitDefEqProofs (disch := omega) only [allW, allR, oneOf, evalAll, partsA, optA, Nat.reduceLT, Nat.reduceLeDiff, Nat.reduceEqDiff, Nat.reduceAdd, ↓reduceIte, hn, h0, h1, la, hd7]
 refine (rcopyO hlc hl1 _ o (Nat.le_refl _) F s2 cs (ho.keeps hs2) hsm).mono ?_
 rintro _ s3 ⟨cs', rfl, ho3, hst3⟩
 have hcl' := ho3.len
 obtain ⟨es, hes⟩ : ∃ es, es = Value.string ⟨k.toArray⟩ :: cs' := ⟨_, rfl⟩
 have hel : es.length = 6 := by rw [hes]; simp [hcl']
 have hesok : es.all okCell = true := by rw [hes, List.all_cons, ho3.ok]; rfl
 have hbE := bE k hcl'
 rw [← hes] at hbE
 simp -implicitDefEqProofs (disch := omega) only [allW, allR, oneOf, evalAll, partsA, optA, Nat.reduceLT, Nat.reduceLeDiff, Nat.reduceEqDiff, Nat.reduceAdd, ↓reduceIte, hn, h0, h1, hbE]
 refine wstep_storeAll szE (by decide) (ht2.keeps hst3) rfl rfl hel hesok ?_
 intro s4 ht4 hnx4 hot4
 have ht4 : Thing s4 s1.next es := ht4
 have l4 : loadA Try.prog s4 51 (.pointer (some ⟨s1.next, 0, some 7⟩)) = some (.agg es.toArray) := Thing.loadAll agE (by rw [hel]; exact szE) ht4 (by rw [hel])
 simp -implicitDefEqProofs (disch := omega) only [allW, allR, wfn_ret, wfn_normal, oneOf, evalAll, partsA, optA, Nat.reduceLT, Nat.reduceLeDiff, Nat.reduceEqDiff, Nat.reduceAdd, ↓reduceIte, hn, l4, resultsA_cell, Try.results30]
 have hn1 := hst1.next
 have hn2 := hst2.next
 refine ⟨cs', by rw [hes], (ho3.turns (u := .pointer (some ⟨s1.next, 0, none⟩)) (Turns.ofPut hnx4 hot4) (fun j hj e => ?_)).mono (fun j hj => by omega), (hs2.trans (hst3.weaken hs2.next)).trans ⟨by omega, fun j hj => hot4 j (by omega)⟩⟩
 have e : some s1.next = some j := e
 injection e with e; omega
end Go.Proofs.Ythlbahnfimigcaa
set_option linter.unusedSimpArgs false
set_option linter.unusedVariables false
set_option maxRecDepth 100000
namespace Go.Proofs.Ythlbahnfimigcaa
open Go.Cl Go.Lib
theorem rref_any {lib : Prims} (hl : lib.at 31 = none) (s : ASt) (n : Int) : Runs Try.prog lib 31 [.int .i64 n] s (NewO s (.mk 9 n [] [] [])) := by
 refine Runs.enter 5 Try.func31 rfl hl rfl rfl ?_
 intro f hn hf
 have h0 : f.get 0 = .int .i64 n := hf 0
 clear hf
 simp -implicitDefEqProofs (disch := omega) only [allW, allR, oneOf, evalAll, partsA, optA, Nat.reduceLT, Nat.reduceLeDiff, Nat.reduceEqDiff, Nat.reduceAdd, ↓reduceIte, hn, zO, plO]
 refine wstep_newPtr ?_
 intro s1 ht1 hst1 hnx1
 have hd6 : noneC.length + 1 = 6 := rfl
 simp -implicitDefEqProofs (disch := omega) only [allW, allR, oneOf, evalAll, partsA, optA, Nat.reduceLT, Nat.reduceLeDiff, Nat.reduceEqDiff, Nat.reduceAdd, ↓reduceIte, hn, h0, hd6, bO]
 refine wstep_storeAll szO (by decide) ht1 rfl rfl rfl rfl ?_
 intro s2 ht2 hnx2 hot2
 simp -implicitDefEqProofs (disch := omega) only [allW, allR, wfn_ret, wfn_normal, oneOf, evalAll, partsA, optA, Nat.reduceLT, Nat.reduceLeDiff, Nat.reduceEqDiff, Nat.reduceAdd, ↓reduceIte, hn, Thing.loadO ht2 rfl, resultsA_cell, Try.results31]
 exact NewO.put (F := fun _ => False) (OIs.bare _ s1 9 n) (fun j hj => hj.elim) hnx2 hot2 hst1 (Nat.le_refl _)
theorem bItem (n : Int) {cs : List Value} (hl : cs.length = 5) : buildA Try.prog 55 [(0, .int .i64 n), (1, .agg cs.toArray)] = some (.agg (.int .i64 n :: cs).toArray) := by
 obtain ⟨a, b, c, d, e, rfl⟩ := five hl
 kernel_rfl
def noneD : List Value := docC ⟨0, [], 0, O.none, []⟩ (.slice none 0 0) noneC (.slice none 0 0)
theorem zD : zeroB Try.prog 29 = some (.agg noneD.toArray) := by kernel_rfl
theorem plD : plainV (.agg noneD.toArray) = true := by kernel_rfl
theorem bDoc {tc : List Value} (hl : tc.length = 5) (a : Option Addr) (n c : Nat) : buildA Try.prog 29 [(3, .agg tc.toArray), (4, .slice a n c)] = some (.agg (.int .i64 0 :: .slice none 0 0 :: .int .i64 0 :: (tc ++ [.slice a n c])).toArray) := by
 obtain ⟨a, b, c, d, e, rfl⟩ := five hl
 kernel_rfl
def D0 : Dc := ⟨0, [], 0, .mk 7 0 [] [] [([82, 111, 111, 116], .mk 9 5 [] [] [])], [(5, .mk 6 0 [] [.mk 9 9 [] [] [], .mk 9 7 [] [] []] []), (7, .mk 9 5 [] [] []), (9, .mk 2 1 [] [] [])]⟩
theorem refs0 (k n : Int) (h : k ≠ 9 ∧ k ≠ 6 ∧ k ≠ 7 ∧ k ≠ 8) : refsO (.mk k n [] [] []) = [] := by
 rw [refsO_eq, if_neg (show ¬ (O.mk k n [] [] []).kind = 9 from h.1), partsO_mk, if_neg h.2.1, if_neg (by omega)]; rfl
theorem refsD0 : refsO D0.trailer = [5] := by
 show refsO (.mk 7 0 [] [] [([82, 111, 111, 116], .mk 9 5 [] [] [])]) = [5]
 rw [refsO_eq, if_neg (by decide), partsO_mk, if_neg (by decide), if_pos (by decide)]
 simp [refsO_ref (k := 9) rfl]
theorem refsA : refsO (.mk 6 0 [] [.mk 9 9 [] [] [], .mk 9 7 [] [] []] []) = [9, 7] := by
 rw [refsO_eq, if_neg (by decide), partsO_mk, if_pos rfl]
 simp [refsO_ref (k := 9) rfl]
theorem walks0 : WalksN D0.items 4 (refsO D0.trailer) [] [5, 9, 7] := by
 rw [refsD0]
 refine .meet 3 5 [] [] _ rfl (by simp) ?_
 have e1 : refsO (findD D0.items 5).1 = [9, 7] := refsA
 rw [e1]
 refine .meet 2 9 [7] [5] _ rfl (by simp) ?_
 have e2 : refsO (findD D0.items 9).1 = [] := refs0 2 1 (by decide)
 rw [e2]
 refine .meet 1 7 [] [5, 9] _ rfl (by simp) ?_
 have e3 : refsO (findD D0.items 7).1 = [5] := refsO_ref (k := 9) rfl
 rw [e3]
 exact .skip 0 5 [] _ _ (.inr (by simp)) (.done _)
theorem small0 : SmallD D0 where
 mark := by simp [D0]
 len := by simp [D0]
 trailer := .mk (by simp) (by simp) (by simp) (fun e he => by simp at he; subst he; decide) (fun x hx => by cases hx) (fun e he => by simp at he; subst he; exact Small.bare 9 5)
 items := fun e he => by
  simp only [D0, List.mem_cons, List.not_mem_nil, or_false] at he
  rcases he with rfl | rfl | rfl
  ·refine .mk (by simp) (by simp) (by simp) (fun e he => by cases he) (fun x hx => ?_) (fun e he => by cases he)
   simp only [List.mem_cons, List.not_mem_nil, or_false] at hx
   rcases hx with rfl | rfl
   ·exact Small.bare 9 9
   ·exact Small.bare 9 7
  ·exact Small.bare 9 5
  ·exact Small.bare 2 1
 nodes := by
  simp [D0, nodesO_mk]
set_option maxHeartbeats 8000000 in
theorem awake_any {lib : Prims} (hl : lib.at 8 = none) (R : LibRf lib) (r1 : lib.at 31 = none) (r2 : lib.at 36 = none) (r3 : lib.at 30 = none) (hi : lib.at 25 = none)
  (hre : lib.at 10 = none) (hwd : lib.at 38 = none) (ho : lib.at 59 = none) (hw : lib.at 60 = none) (hrv : lib.at 78 = none) (hrf : lib.at 61 = none) (hlp : lib.at 79 = none) (hle : lib.at 67 = none) (s : ASt) :
  Runs Try.prog lib 8 [] s (BoolsI s true) := by
 refine Runs.enter 21 Try.func8 rfl hl rfl rfl ?_
 intro f hn _
 simp -implicitDefEqProofs (disch := omega) only [allW, allR, oneOf, evalAll, partsA, optA, Nat.reduceLT, Nat.reduceLeDiff, Nat.reduceEqDiff, Nat.reduceAdd, ↓reduceIte, hn]
 refine (rref_any r1 s 5).mono ?_
 rintro _ s1 ⟨c1, rfl, o1, h1⟩
 simp -implicitDefEqProofs (disch := omega) only [allW, allR, oneOf, evalAll, partsA, optA, Nat.reduceLT, Nat.reduceLeDiff, Nat.reduceEqDiff, Nat.reduceAdd, ↓reduceIte, hn]
 refine (rpair_any r3 R.copy R.copyB _ s1 [82, 111, 111, 116] c1 _ o1 (Small.bare 9 5)).mono ?_
 rintro _ s2 ⟨p2, rfl, e2, h2⟩
 have q2 := e2.len
 simp -implicitDefEqProofs (disch := omega) only [allW, allR, oneOf, evalAll, partsA, optA, Nat.reduceLT, Nat.reduceLeDiff, Nat.reduceEqDiff, Nat.reduceAdd, ↓reduceIte, hn, buildAgg1 (cs := (.string ⟨([82, 111, 111, 116] : List UInt8).toArray⟩ :: p2).toArray) Try.underlying24 szE zE plE rfl (by simp [q2]) (by decide)]
 refine wstep_newSlice (by simp [q2]) ?_
 intro x3 s3 hx3 _ h3
 have r3' : EntIs (fun _ => True) s3 (.string ⟨([82, 111, 111, 116] : List UInt8).toArray⟩ :: p2) ([82, 111, 111, 116], .mk 9 5 [] [] []) := ⟨p2, rfl, (e2.keeps h3).mono (fun _ _ => trivial), by decide⟩
 have rows3 : ORows EntIs 6 (fun _ => True) s3 [([82, 111, 111, 116], .mk 9 5 [] [] [])] (.string ⟨([82, 111, 111, 116] : List UInt8).toArray⟩ :: p2) := by
  have := ORows.nil.snoc (cs := .string ⟨([82, 111, 111, 116] : List UInt8).toArray⟩ :: p2) (by rw [List.length_cons, q2]) r3'
  simpa using this
 simp -implicitDefEqProofs (disch := omega) only [allW, allR, oneOf, evalAll, partsA, optA, Nat.reduceLT, Nat.reduceLeDiff, Nat.reduceEqDiff, Nat.reduceAdd, ↓reduceIte, hn]
 refine (rdict_any R (fun _ => True) s3 x3 [([82, 111, 111, 116], .mk 9 5 [] [] [])] _ hx3.sees rows3 (by decide) (fun e he => by simp at he; subst he; exact Small.bare 9 5)).mono ?_
 rintro _ s4 ⟨tc, rfl, o4, h4⟩
 have o4 : OIs (fun j => s3.next ≤ j) s4 tc D0.trailer := o4
 simp -implicitDefEqProofs (disch := omega) only [allW, allR, oneOf, evalAll, partsA, optA, Nat.reduceLT, Nat.reduceLeDiff, Nat.reduceEqDiff, Nat.reduceAdd, ↓reduceIte, hn]
 refine (rref_any r1 s4 9).mono ?_
 rintro _ s5 ⟨c5, rfl, o5, h5⟩
 simp -implicitDefEqProofs (disch := omega) only [allW, allR, oneOf, evalAll, partsA, optA, Nat.reduceLT, Nat.reduceLeDiff, Nat.reduceEqDiff, Nat.reduceAdd, ↓reduceIte, hn]
 refine (rref_any r1 s5 7).mono ?_
 rintro _ s6 ⟨c6, rfl, o6, h6⟩
 have q5 := o5.len
 have q6 := o6.len
 simp -implicitDefEqProofs (disch := omega) only [allW, allR, oneOf, evalAll, partsA, optA, Nat.reduceLT, Nat.reduceLeDiff, Nat.reduceEqDiff, Nat.reduceAdd, ↓reduceIte, hn, buildAgg2 (a := c5.toArray) (b := c6.toArray) Try.underlying23 szO zO plO rfl (by simp [q5]) (by simp [q6]) (by decide)]
 refine wstep_newSlice (by simp [q5, q6]) ?_
 intro x7 s7 hx7 _ h7
 have rows7 : ORows OIs 5 (fun _ => True) s7 [.mk 9 9 [] [] [], .mk 9 7 [] [] []] (c5 ++ c6) := by
  have := (ORows.nil.snoc (cs := c5) q5 ((o5.keeps (h6.trans (h7.weaken h6.next))).mono (fun _ _ => trivial))).snoc (cs := c6) q6 ((o6.keeps h7).mono (fun _ _ => trivial))
  simpa using this
 simp -implicitDefEqProofs (disch := omega) only [allW, allR, oneOf, evalAll, partsA, optA, Nat.reduceLT, Nat.reduceLeDiff, Nat.reduceEqDiff, Nat.reduceAdd, ↓reduceIte, hn]
 refine (rarr_any R.arr R.copy R.copyB (fun _ => True) s7 x7 [.mk 9 9 [] [] [], .mk 9 7 [] [] []] _ hx7.sees rows7 (by decide) (fun x hx => by
  simp only [List.mem_cons, List.not_mem_nil, or_false] at hx
  rcases hx with rfl | rfl
  ·exact Small.bare 9 9
  ·exact Small.bare 9 7)).mono ?_
 rintro _ s8 ⟨c8, rfl, o8, h8⟩
 have q8 := o8.len
 simp -implicitDefEqProofs (disch := omega) only [allW, allR, oneOf, evalAll, partsA, optA, Nat.reduceLT, Nat.reduceLeDiff, Nat.reduceEqDiff, Nat.reduceAdd, ↓reduceIte, hn, bItem 5 q8]
 refine (rref_any r1 s8 5).mono ?_
 rintro _ s9 ⟨c9, rfl, o9, h9⟩
 have q9 := o9.len
 simp -implicitDefEqProofs (disch := omega) only [allW, allR, oneOf, evalAll, partsA, optA, Nat.reduceLT, Nat.reduceLeDiff, Nat.reduceEqDiff, Nat.reduceAdd, ↓reduceIte, hn, bItem 7 q9]
 refine (rint_any r2 s9 1).mono ?_
 rintro _ s10 ⟨c10, rfl, o10, h10⟩
 have q10 := o10.len
 simp -implicitDefEqProofs (disch := omega) only [allW, allR, oneOf, evalAll, partsA, optA, Nat.reduceLT, Nat.reduceLeDiff, Nat.reduceEqDiff, Nat.reduceAdd, ↓reduceIte, hn, bItem 9 q10, buildAgg3 (a := (.int .i64 5 :: c8).toArray) (b := (.int .i64 7 :: c9).toArray) (c := (.int .i64 9 :: c10).toArray) Try.underlying27 szI zI plI rfl (by simp [q8]) (by simp [q9]) (by simp [q10]) (by decide)]
 refine wstep_newSlice (by simp [q8, q9, q10]) ?_
 intro x11 s11 hx11 _ h11
 have rows11 : ORows ItIs 6 (fun _ => True) s11 D0.items (.int .i64 5 :: (c8 ++ .int .i64 7 :: c9 ++ .int .i64 9 :: c10)) := by
  have r1 : ItIs (fun _ => True) s11 (.int .i64 5 :: c8) (5, .mk 6 0 [] [.mk 9 9 [] [] [], .mk 9 7 [] [] []] []) := ⟨c8, rfl, (o8.keeps ((h9.trans (h10.weaken h9.next)).trans (h11.weaken (Nat.le_trans h9.next h10.next)))).mono (fun _ _ => trivial)⟩
  have r2 : ItIs (fun _ => True) s11 (.int .i64 7 :: c9) (7, .mk 9 5 [] [] []) := ⟨c9, rfl, (o9.keeps (h10.trans (h11.weaken h10.next))).mono (fun _ _ => trivial)⟩
  have r3 : ItIs (fun _ => True) s11 (.int .i64 9 :: c10) (9, .mk 2 1 [] [] []) := ⟨c10, rfl, (o10.keeps h11).mono (fun _ _ => trivial)⟩
  have := ((ORows.nil.snoc (cs := .int .i64 5 :: c8) (by rw [List.length_cons, q8]) r1).snoc (cs := .int .i64 7 :: c9) (by rw [List.length_cons, q9]) r2).snoc (cs := .int .i64 9 :: c10) (by rw [List.length_cons, q10]) r3
  simpa [D0] using this
 obtain ⟨ia, il, ib, rfl⟩ : ∃ a n c, x11 = .slice a n c := by cases hx11 <;> exact ⟨_, _, _, rfl⟩
 have q4 := o4.len
 simp -implicitDefEqProofs (disch := omega) only [allW, allR, oneOf, evalAll, partsA, optA, Nat.reduceLT, Nat.reduceLeDiff, Nat.reduceEqDiff, Nat.reduceAdd, ↓reduceIte, hn, bDoc q4, zD, plD]
 refine wstep_newPtr ?_
 intro s12 ht12 hst12 hnx12
 have hd10 : noneD.length + 1 = 10 := rfl
 have n1 := h1.next
 have n2 := h2.next
 have n3 := h3.next
 have n4 := h4.next
 have n5 := h5.next
 have n6 := h6.next
 have n7 := h7.next
 have n8 := h8.next
 have n9 := h9.next
 have n10 := h10.next
 have n11 := h11.next
 have n12 := hst12.next
 have k4 : Stay s4.next s4 s11 := (((((h5.trans (h6.weaken (by omega))).trans (h7.weaken (by omega))).trans (h8.weaken (by omega))).trans (h9.weaken (by omega))).trans (h10.weaken (by omega))).trans (h11.weaken (by omega))
 have k0 : Stay s.next s s11 := (((h1.trans (h2.weaken (by omega))).trans (h3.weaken (by omega))).trans (h4.weaken (by omega))).trans (k4.weaken (by omega))
 have hD11 : DocIs (fun _ => True) s11 (.slice none 0 0) tc (.slice ia il ib) _ D0 := ⟨.nil, Foot.of_id (fun j hj => trivial), (o4.keeps k4).mono (fun _ _ => trivial), hx11.sees, Foot.of_id (fun j hj => trivial), rows11⟩
 have hDl := docC_len hD11
 have hDo := docC_ok hD11
 simp -implicitDefEqProofs (disch := omega) only [allW, allR, oneOf, evalAll, partsA, optA, Nat.reduceLT, Nat.reduceLeDiff, Nat.reduceEqDiff, Nat.reduceAdd, ↓reduceIte, hn, hd10]
 refine wstep_storeAll szD (by decide) ht12 rfl rfl hDl hDo ?_
 intro s13 ht13 hnx13 hot13
 have ht13 : Thing s13 s11.next (docC D0 (.slice none 0 0) tc (.slice ia il ib)) := ht13
 have k13 : Stay s11.next s11 s13 := hst12.trans ⟨by omega, fun j hj => hot13 j (by omega)⟩
 simp -implicitDefEqProofs (disch := omega) only [allW, allR, oneOf, evalAll, partsA, optA, Nat.reduceLT, Nat.reduceLeDiff, Nat.reduceEqDiff, Nat.reduceAdd, ↓reduceIte, hn, db_all ht13 q4]
 refine (reach_any hre hwd ho hw hrv hrf hlp hle (fun _ => True) s13 D0 _ tc _ _ (hD11.keeps k13) small0 4 _ walks0 (by decide)).mono ?_
 rintro v s14 ⟨hv, -, h14⟩
 simp -implicitDefEqProofs (disch := omega) only [allW, allR, oneOf, evalAll, partsA, optA, Nat.reduceLT, Nat.reduceLeDiff, Nat.reduceEqDiff, Nat.reduceAdd, ↓reduceIte, hn, build3 Try.underlying32 szInt zInt]
 refine wstep_newSlice rfl ?_
 intro y s15 hy _ h15
 simp -implicitDefEqProofs (disch := omega) only [allW, allR, oneOf, evalAll, partsA, optA, Nat.reduceLT, Nat.reduceLeDiff, Nat.reduceEqDiff, Nat.reduceAdd, ↓reduceIte, hn]
 refine (ints_any hi s15 v y [5, 9, 7] [5, 9, 7] (hv.keeps h15).sees hy.sees (by decide)).mono ?_
 rintro _ s16 ⟨rfl, h16⟩
 simp -implicitDefEqProofs (disch := omega) only [allW, allR, oneOf, evalAll, partsA, optA, Nat.reduceLT, Nat.reduceLeDiff, Nat.reduceEqDiff, Nat.reduceAdd, ↓reduceIte, allW, allR, wfn_ret, wfn_normal, oneOf, evalAll, partsA, optA, Nat.reduceLT, Nat.reduceLeDiff, Nat.reduceEqDiff, Nat.reduceAdd, ↓reduceIte, hn, Try.results8]
 have m13 := k13.next
 have m14 := h14.next
 have m15 := h15.next
 exact ⟨rfl, (((k0.trans (k13.weaken (by omega))).trans (h14.weaken (by omega))).trans (h15.weaken (by omega))).trans (h16.weaken (by omega))⟩
end Go.Proofs.Ythlbahnfimigcaa
set_option linter.unusedSimpArgs false
set_option linter.unusedVariables false
set_option maxRecDepth 100000
namespace Go.Cl
def MetIs (s : ASt) (w : Nat) (r : List Int) : Prop := ∃ (D : Dc) (mv : Value) (tc : List Value) (iv : Value) (a m : Nat) (lv : Value) (TM : List (Int × Value)), tc.length = 5 ∧ Thing s w (wkC D mv tc iv a m lv) ∧ MapJ s m TM ∧ MetTo r TM
theorem MetIs.keeps {s s' : ASt} {w : Nat} {r : List Int} (h : MetIs s w r) (k : Stay s.next s s') : MetIs s' w r := by
 obtain ⟨D, mv, tc, iv, a, m, lv, TM, h1, h2, h3, h4⟩ := h
 exact ⟨D, mv, tc, iv, a, m, lv, TM, h1, h2.keeps k, h3.keeps k, h4⟩
end Go.Cl
namespace Go.Proofs.Ythlbahnfimigcaa
open Go.Cl Go.Lib
end Go.Proofs.Ythlbahnfimigcaa
namespace Go.Proofs.Ythlbahnfimigcaa
open Go.Cl Go.Lib
end Go.Proofs.Ythlbahnfimigcaa
set_option linter.unusedSimpArgs false
set_option linter.unusedVariables false
set_option maxRecDepth 100000
namespace Go.Cl
def Once (l : List Int) (T : List (Int × Value)) : Prop := ∀ n, seekJ n T = if n ∈ l then some (.int .i64 1) else none
theorem Once.start : Once [] [] := fun n => by simp [seekJ]
theorem Once.snoc {l : List Int} {T : List (Int × Value)} (h : Once l T) (n : Int) : Once (l ++ [n]) (putJ n (.int .i64 1) T) := by
 intro m
 rw [seekJ_put]
 by_cases e : m = n
 ·rw [if_pos e, if_pos (by rw [e]; exact List.mem_append_right _ (List.mem_singleton.2 rfl))]
 ·rw [if_neg e, h m]
  by_cases hm : m ∈ l
  ·rw [if_pos hm, if_pos (List.mem_append_left _ hm)]
  ·rw [if_neg hm, if_neg (fun q => (List.mem_append.1 q).elim hm (fun q => e (List.mem_singleton.1 q)))]
end Go.Cl
namespace Go.Proofs.Ythlbahnfimigcaa
open Go.Cl Go.Lib
end Go.Proofs.Ythlbahnfimigcaa
set_option linter.unusedSimpArgs false
set_option linter.unusedVariables false
set_option maxRecDepth 100000
namespace Go.Cl
def NewD (s : ASt) (D : Dc) (v : Value) (s' : ASt) : Prop := ∃ mv tc iv ic, v = .agg (docC D mv tc iv).toArray ∧ DocIs (fun j => s.next ≤ j) s' mv tc iv ic D ∧ Stay s.next s s'
theorem Own.slice {s : ASt} {z : Nat} {v : Value} {n : Nat} {l : List Value} (h : Own s z v n l) : ∃ a n c, v = .slice a n c := by cases h <;> exact ⟨_, _, _, rfl⟩
theorem item_self {cs : List Value} (n : Int) (h : valEq (.agg cs.toArray) (.agg cs.toArray) = true) : valEq (.agg (.int .i64 n :: cs).toArray) (.agg (.int .i64 n :: cs).toArray) = true := by
 have h : valEqL cs cs = true := h
 show valEqL (.int .i64 n :: cs) (.int .i64 n :: cs) = true
 simp [valEqL, valEq1, h]
end Go.Cl
namespace Go.Proofs.Ythlbahnfimigcaa
open Go.Cl Go.Lib
theorem bDoc4 (mi ta : Int) (a : Option Addr) (n c : Nat) {tc : List Value} (hl : tc.length = 5) : buildA Try.prog 29 [(0, .int .i64 mi), (1, .slice a n c), (2, .int .i64 ta), (3, .agg tc.toArray)] = some (.agg (.int .i64 mi :: .slice a n c :: .int .i64 ta :: (tc ++ [.slice none 0 0])).toArray) := by
 obtain ⟨a, b, c, d, e, rfl⟩ := five hl
 kernel_rfl
theorem dc_over {D : Dc} {mv iv : Value} {tc : List Value} (hl : tc.length = 5) (iv' : Value) : over (docC D mv tc iv) 8 [iv'] = docC D mv tc iv' := by
 obtain ⟨a, b, c, d, e, rfl⟩ := five hl
 rfl
end Go.Proofs.Ythlbahnfimigcaa
namespace Go.Proofs.Ythlbahnfimigcaa
open Go.Cl Go.Lib
theorem answersT {p : Prop} {v : Value} (h : Answers p v) (hp : p) : v = .bool true := by
 obtain ⟨t, rfl, ht⟩ := h
 rw [ht.2 hp]
set_option maxHeartbeats 8000000 in
theorem sameItems_any {lib : Prims} (hl : lib.at 47 = none) (hls : lib.at 20 = none) (hlb : lib.at 46 = none) (F G : Nat -> Prop) (s : ASt) (D : Dc) (mv : Value) (tc : List Value) (iv : Value) (ic : List Value) (hD : DocIs F s mv tc iv ic D)
  (nv : Value) (uc : List Value) (jv : Value) (jc : List Value) (hE : DocIs G s nv uc jv jc D) (hs : SmallP D) :
  Runs Try.prog lib 47 [.agg (docC D mv tc iv).toArray, .agg (docC D nv uc jv).toArray] s (BoolsI s true) := by
 have htl := hD.trailer.len
 have hul := hE.trailer.len
 have dl := db_len (D := D) (mv := mv) (iv := iv) htl
 have el := db_len (D := D) (mv := nv) (iv := jv) hul
 have hlen := hs.len
 have wB : ∀ b, valEq (.bool b) (.bool b) = true := fun b => by cases b <;> rfl
 refine Runs.enter 57 Try.func47 rfl hl rfl rfl ?_
 intro f hn hf
 have h0 : f.get 0 = .agg (docC D mv tc iv).toArray := hf 0
 have h1 : f.get 1 = .agg (docC D nv uc jv).toArray := hf 1
 clear hf
 simp -implicitDefEqProofs (disch := omega) only [allW, allR, oneOf, evalAll, partsA, optA, Nat.reduceLT, Nat.reduceLeDiff, Nat.reduceEqDiff, Nat.reduceAdd, ↓reduceIte, hn, h0, h1]
 refine wstep_newPtr ?_
 intro s1 ht1 hst1 hnx1
 have ht1 : Thing s1 s.next (docC D mv tc iv) := ht1
 simp -implicitDefEqProofs (disch := omega) only [allW, allR, oneOf, evalAll, partsA, optA, Nat.reduceLT, Nat.reduceLeDiff, Nat.reduceEqDiff, Nat.reduceAdd, ↓reduceIte, hn, h0, h1, dl]
 refine wstep_newPtr ?_
 intro s2 ht2 hst2 hnx2
 have ht2 : Thing s2 s1.next (docC D nv uc jv) := ht2
 have n1 := hst1.next
 have n2 := hst2.next
 have hs2 : Stay s.next s s2 := hst1.trans (hst2.weaken n1)
 have ht12 := ht1.keeps hst2
 have hD2 := hD.keeps hs2
 have hE2 := hE.keeps hs2
 simp -implicitDefEqProofs (disch := omega) only [allW, allR, oneOf, evalAll, partsA, optA, Nat.reduceLT, Nat.reduceLeDiff, Nat.reduceEqDiff, Nat.reduceAdd, ↓reduceIte, hn, h0, h1, el, df3, db_trailer ht12 htl, db_trailer ht2 hul]
 refine (rsame_any hls hlb _ D.trailer D.trailer (Nat.le_refl _) F G s2 tc uc hD2.trailer hE2.trailer hs.trailer hs.trailer).mono ?_
 rintro v3 s3 ⟨hv3, k3⟩
 obtain rfl := answersT hv3 (SameO.self _)
 have n3 := k3.next
 have hD3 := hD2.keeps k3
 have hE3 := hE2.keeps k3
 have ht13 := ht12.keeps k3
 have ht23 := ht2.keeps k3
 simp -implicitDefEqProofs (disch := omega) only [allW, allR, oneOf, evalAll, partsA, optA, Nat.reduceLT, Nat.reduceLeDiff, Nat.reduceEqDiff, Nat.reduceAdd, ↓reduceIte, undef, hn, h0, h1, df4, db_items ht13 htl, db_items ht23 hul, hD3.items.lenA Try.underlying27, hE3.items.lenA Try.underlying27, Bool.not_true, not_true_eq_false, decide_false]
 refine Comes.loopOut (fun z f t => ∃ i : Nat, z = D.items.length - i ∧ i ≤ D.items.length ∧ Stay s3.next s3 t ∧ f.n = 57 ∧ f.get 2 = .pointer (some ⟨s.next, 0, some 10⟩) ∧ f.get 3 = .pointer (some ⟨s1.next, 0, some 10⟩) ∧ f.get 5 = .int .i64 (i : Nat))
  (fun z f t => z = .exit 0 ∧ Stay s3.next s3 t ∧ f.n = 57)
  ⟨0, rfl, by omega, Stay.refl _ _, by simp only [get_put, n_put, ↓reduceIte, Nat.reduceEqDiff, hn], by simp only [get_put, n_put, ↓reduceIte, Nat.reduceEqDiff], by simp only [get_put, n_put, ↓reduceIte, Nat.reduceEqDiff], by simp only [get_put, n_put, ↓reduceIte, Nat.reduceEqDiff]; rfl⟩ ?_ ?_
 ·clear hn h0 h1 f
  rintro Q hQ z f t ⟨i, rfl, hi, hst, hn, h2, h3, h5⟩
  have hnt := hst.next
  have hDt := hD3.keeps hst
  have hEt := hE3.keeps hst
  have hat := ht13.keeps hst
  have hbt := ht23.keeps hst
  by_cases hlt : i < D.items.length
  rotate_left
  ·obtain rfl : i = D.items.length := by omega
   have d1 : ¬ ((D.items.length : Nat) : Int) < ((D.items.length : Nat) : Int) := by omega
   simp -implicitDefEqProofs (disch := omega) only [allW, allR, oneOf, evalAll, partsA, optA, Nat.reduceLT, Nat.reduceLeDiff, Nat.reduceEqDiff, Nat.reduceAdd, ↓reduceIte, hn, h2, h3, h5, df4, db_items hat htl, hDt.items.lenA Try.underlying27, eq_false d1]
   exact hQ _ _ _ ⟨rfl, hst, by simp only [get_put, n_put, ↓reduceIte, Nat.reduceEqDiff, hn]⟩
  have d1 : (i : Int) < (D.items.length : Int) := by omega
  simp -implicitDefEqProofs (disch := omega) only [allW, allR, oneOf, evalAll, partsA, optA, Nat.reduceLT, Nat.reduceLeDiff, Nat.reduceEqDiff, Nat.reduceAdd, ↓reduceIte, hn, h2, h3, h5, df4, db_items hat htl, hDt.items.lenA Try.underlying27, eq_true d1]
  obtain ⟨B, hB⟩ : ∃ B : Nat -> Bool, B = fun j => decide (j < t.next) := ⟨_, rfl⟩
  have hBl : ∀ j, B j = true -> j < t.next := by
   intro j h
   rw [hB] at h
   exact of_decide_eq_true h
  have hBo : ∀ j, j < t.next -> B j = true := fun j h => by rw [hB]; exact decide_eq_true h
  refine LB.Drawn.looseK B hBl 0 0 (by kernel_rfl) (by kernel_rfl) ?_
  have hsq := Stay.spare t 0
  have hla : ∀ k, LA.lowV B (some (.pointer (some ⟨s.next, k, some 10⟩))) = true := fun k => LA.lowV_ptr (A := B) (i := s.next) (hBo _ hat.lt)
  have hlb' : ∀ k, LA.lowV B (some (.pointer (some ⟨s1.next, k, some 10⟩))) = true := fun k => LA.lowV_ptr (A := B) (i := s1.next) (hBo _ hbt.lt)
  have haq := hat.keeps hsq
  have hbq := hbt.keeps hsq
  have hDq := hDt.keeps hsq
  have hEq := hEt.keeps hsq
  have hix := hDq.items.indexAddr (P := Try.prog) (k := .i64) (x := (i : Int)) Try.underlying27 szI (by omega) (by omega)
  have hjx := hEq.items.indexAddr (P := Try.prog) (k := .i64) (x := (i : Int)) Try.underlying27 szI (by omega) (by omega)
  rw [Int.toNat_natCast] at hix hjx
  obtain ⟨q0, q1⟩ := efI hDq.items hlt
  obtain ⟨p0, p1⟩ := efI hEq.items hlt
  obtain ⟨b1, b2, b3, -⟩ := itemB (hDq.rows.row i hlt)
  obtain ⟨c1, c2, c3, -⟩ := itemB (hEq.rows.row i hlt)
  have hlv := hDq.items.loadPart (P := Try.prog) agO szO hlt (j := 1) (by omega)
  have hlw := hEq.items.loadPart (P := Try.prog) agO szO hlt (j := 1) (by omega)
  have hln := hDq.items.loadField (P := Try.prog) agInt hlt (j := 0) (by omega)
  have hlm := hEq.items.loadField (P := Try.prog) agInt hlt (j := 0) (by omega)
  rw [Nat.add_zero, b1] at hln
  rw [Nat.add_zero, c1] at hlm
  simp -implicitDefEqProofs (disch := omega) only [allW, allR, allL, allB, Nat.sub_self, Nat.add_one_sub_one, Nat.reduceSub, oneOf, evalAll, partsA, optA, Nat.reduceLT, Nat.reduceLeDiff, Nat.reduceEqDiff, Nat.reduceAdd, ↓reduceIte, undef, hn, h2, h3, h5, df4, hla, hlb', db_items haq htl, db_items hbq hul, hDq.items.self, hEq.items.self, hix, hjx, q0, q1, p0, p1, hlv, hlw, hln, hlm, b3.self, c3.self, valEq_plus, valEq_int, LA.lowV_plus hDt.items hBo hlt, LA.lowV_plus hEt.items hBo hlt, not_true_eq_false, decide_false, wB]
  refine (rsame_any hls hlb _ D.items[i].2 D.items[i].2 (Nat.le_refl _) F G (spare t 0) _ _ b3 c3 (hs.items _ (List.getElem_mem hlt)) (hs.items _ (List.getElem_mem hlt))).mono ?_
  rintro v4 s4 ⟨hv4, k4⟩
  obtain rfl := answersT hv4 (SameO.self _)
  have n4 := k4.next
  refine ⟨fun h => h.elim, ?_⟩
  simp -implicitDefEqProofs (disch := omega) only [allW, allR, allL, allB, Nat.sub_self, Nat.add_one_sub_one, Nat.reduceSub, oneOf, evalAll, partsA, optA, Nat.reduceLT, Nat.reduceLeDiff, Nat.reduceEqDiff, Nat.reduceAdd, ↓reduceIte, allW, allR, oneOf, evalAll, partsA, optA, Nat.reduceLT, Nat.reduceLeDiff, Nat.reduceEqDiff, Nat.reduceAdd, ↓reduceIte, undef, hn, h2, h3, h5, Bool.not_true, wB, wrapI]
  exact wround_next (D.items.length - (i + 1)) (by omega) ⟨i + 1, rfl, by omega, hst.trans ((hsq.trans (k4.weaken hsq.next)).weaken hnt), by simp only [get_put, n_put, ↓reduceIte, Nat.reduceEqDiff, hn], by simp only [get_put, n_put, ↓reduceIte, Nat.reduceEqDiff, h2], by simp only [get_put, n_put, ↓reduceIte, Nat.reduceEqDiff, h3], by simp only [get_put, n_put, ↓reduceIte, Nat.reduceEqDiff]; rfl⟩
 clear hn h0 h1 f
 rintro z f t ⟨rfl, hst, hn⟩
 simp -implicitDefEqProofs (disch := omega) only [allW, allR, wfn_ret, wfn_normal, oneOf, evalAll, partsA, optA, Nat.reduceLT, Nat.reduceLeDiff, Nat.reduceEqDiff, Nat.reduceAdd, ↓reduceIte, hn, Try.results47]
 exact ⟨rfl, (hs2.trans (k3.weaken (by omega))).trans (hst.weaken (by omega))⟩
set_option maxHeartbeats 8000000 in
theorem sameDoc_any {lib : Prims} (hl0 : lib.at 16 = none) (hl : lib.at 47 = none) (hls : lib.at 20 = none) (hlb : lib.at 46 = none) (F G : Nat -> Prop) (s : ASt) (D : Dc) (mv : Value) (tc : List Value) (iv : Value) (ic : List Value) (hD : DocIs F s mv tc iv ic D)
  (nv : Value) (uc : List Value) (jv : Value) (jc : List Value) (hE : DocIs G s nv uc jv jc D) (hs : SmallP D) :
  Runs Try.prog lib 16 [.agg (docC D mv tc iv).toArray, .agg (docC D nv uc jv).toArray] s (BoolsI s true) := by
 have htl := hD.trailer.len
 have hul := hE.trailer.len
 have dl := db_len (D := D) (mv := mv) (iv := iv) htl
 have el := db_len (D := D) (mv := nv) (iv := jv) hul
 have hmk := hs.mark
 refine Runs.enter 29 Try.func16 rfl hl0 rfl rfl ?_
 intro f hn hf
 have h0 : f.get 0 = .agg (docC D mv tc iv).toArray := hf 0
 have h1 : f.get 1 = .agg (docC D nv uc jv).toArray := hf 1
 clear hf
 simp -implicitDefEqProofs (disch := omega) only [allW, allR, oneOf, evalAll, partsA, optA, Nat.reduceLT, Nat.reduceLeDiff, Nat.reduceEqDiff, Nat.reduceAdd, ↓reduceIte, hn, h0, h1]
 refine wstep_newPtr ?_
 intro s1 ht1 hst1 hnx1
 have ht1 : Thing s1 s.next (docC D mv tc iv) := ht1
 simp -implicitDefEqProofs (disch := omega) only [allW, allR, oneOf, evalAll, partsA, optA, Nat.reduceLT, Nat.reduceLeDiff, Nat.reduceEqDiff, Nat.reduceAdd, ↓reduceIte, hn, h0, h1, dl]
 refine wstep_newPtr ?_
 intro s2 ht2 hst2 hnx2
 have ht2 : Thing s2 s1.next (docC D nv uc jv) := ht2
 have n1 := hst1.next
 have hs2 : Stay s.next s s2 := hst1.trans (hst2.weaken n1)
 have ht12 := ht1.keeps hst2
 have hD2 := hD.keeps hs2
 have hE2 := hE.keeps hs2
 simp -implicitDefEqProofs (disch := omega) only [allW, allR, oneOf, evalAll, partsA, optA, Nat.reduceLT, Nat.reduceLeDiff, Nat.reduceEqDiff, Nat.reduceAdd, ↓reduceIte, undef, hn, h0, h1, el, df0, df1, db_minor ht12 htl, db_minor ht2 hul, db_mark ht12 htl, db_mark ht2 hul, decide_true]
 refine (same_any hlb s2 mv nv D.mark D.mark hD2.mark hE2.mark (by omega) (by omega)).mono ?_
 rintro _ s3 ⟨rfl, rfl⟩
 simp -implicitDefEqProofs (disch := omega) only [allW, allR, oneOf, evalAll, partsA, optA, Nat.reduceLT, Nat.reduceLeDiff, Nat.reduceEqDiff, Nat.reduceAdd, ↓reduceIte, undef, hn, h0, h1, df2, db_tail ht12 htl, db_tail ht2 hul, decide_true, db_all ht12 htl, db_all ht2 hul]
 refine (sameItems_any hl hls hlb F G s3 D mv tc iv ic hD2 nv uc jv jc hE2 hs).mono ?_
 rintro _ s4 ⟨rfl, k4⟩
 simp -implicitDefEqProofs (disch := omega) only [allW, allR, oneOf, evalAll, partsA, optA, Nat.reduceLT, Nat.reduceLeDiff, Nat.reduceEqDiff, Nat.reduceAdd, ↓reduceIte, allW, allR, wfn_ret, wfn_normal, oneOf, evalAll, partsA, optA, Nat.reduceLT, Nat.reduceLeDiff, Nat.reduceEqDiff, Nat.reduceAdd, ↓reduceIte, undef, hn, h0, h1, Try.results16]
 exact ⟨rfl, hs2.trans (k4.weaken (by have := hs2.next; omega))⟩
end Go.Proofs.Ythlbahnfimigcaa
