import Derived.Test.YthlbahnfimigcaaObjB
import Derived.Test.YthlbahnfimigcaaCopy
import Derived.Test.YthlbahnfimigcaaLooseB
import Derived.Test.YthlbahnfimigcaaCopyW
import Derived.Test.YthlbahnfimigcaaStr
import Derived.Test.YthlbahnfimigcaaLibR
set_option linter.unusedSimpArgs false
set_option linter.unusedVariables false
set_option maxRecDepth 100000
namespace Go.Proofs.Ythlbahnfimigcaa
open Go.Cl
theorem szO : sizeB Try.prog 26 = some 5 := by kernel_rfl
theorem agO : isAggB Try.prog 26 = some true := by kernel_rfl
theorem zO : zeroB Try.prog 26 = some (.agg noneC.toArray) := by kernel_rfl
theorem plO : plainV (.agg noneC.toArray) = true := by kernel_rfl
theorem byO : bytesB Try.prog 26 = some 88 := by kernel_rfl
theorem szE : sizeB Try.prog 51 = some 6 := by kernel_rfl
theorem agE : isAggB Try.prog 51 = some true := by kernel_rfl
theorem byE : bytesB Try.prog 51 = some 104 := by kernel_rfl
def noneE : List Value := .string ⟨#[]⟩ :: noneC
theorem zE : zeroB Try.prog 51 = some (.agg noneE.toArray) := by kernel_rfl
theorem plE : plainV (.agg noneE.toArray) = true := by kernel_rfl
theorem szI64 : sizeB Try.prog 2 = some 1 := by kernel_rfl
theorem agI64 : isAggB Try.prog 2 = some false := by kernel_rfl
theorem szStr : sizeB Try.prog 9 = some 1 := by kernel_rfl
theorem agStr : isAggB Try.prog 9 = some false := by kernel_rfl
theorem szLs : sizeB Try.prog 23 = some 1 := by kernel_rfl
theorem agLs : isAggB Try.prog 23 = some false := by kernel_rfl
theorem szDs : sizeB Try.prog 24 = some 1 := by kernel_rfl
theorem agDs : isAggB Try.prog 24 = some false := by kernel_rfl
theorem of0 (i o c : Nat) : fieldAddrA Try.prog 26 (.pointer (some ⟨i, o, some c⟩)) 0 = some (.pointer (some ⟨i, o + 0, some c⟩)) := by
 unfold fieldAddrA; rw [Try.underlying26]; simp [szInt, szI64, szSl, szLs, szDs]
theorem of1 (i o c : Nat) : fieldAddrA Try.prog 26 (.pointer (some ⟨i, o, some c⟩)) 1 = some (.pointer (some ⟨i, o + 1, some c⟩)) := by
 unfold fieldAddrA; rw [Try.underlying26]; simp [szInt, szI64, szSl, szLs, szDs]
theorem of2 (i o c : Nat) : fieldAddrA Try.prog 26 (.pointer (some ⟨i, o, some c⟩)) 2 = some (.pointer (some ⟨i, o + 2, some c⟩)) := by
 unfold fieldAddrA; rw [Try.underlying26]; simp [szInt, szI64, szSl, szLs, szDs]
theorem of3 (i o c : Nat) : fieldAddrA Try.prog 26 (.pointer (some ⟨i, o, some c⟩)) 3 = some (.pointer (some ⟨i, o + 3, some c⟩)) := by
 unfold fieldAddrA; rw [Try.underlying26]; simp [szInt, szI64, szSl, szLs, szDs]
theorem of4 (i o c : Nat) : fieldAddrA Try.prog 26 (.pointer (some ⟨i, o, some c⟩)) 4 = some (.pointer (some ⟨i, o + 4, some c⟩)) := by
 unfold fieldAddrA; rw [Try.underlying26]; simp [szInt, szI64, szSl, szLs, szDs]
theorem efE {s : ASt} {v : Value} {n : Nat} {l : List Value} (h : Sees s 6 v n l) {k : Nat} (hk : k < n) : fieldAddrA Try.prog 51 (elemPtr 6 v k) 0 = some (plusPtr (elemPtr 6 v k) 0) ∧ fieldAddrA Try.prog 51 (elemPtr 6 v k) 1 = some (plusPtr (elemPtr 6 v k) 1) := by
 obtain ⟨i, off, c, e, _⟩ := h.cells hk
 rw [e]
 refine ⟨?_, ?_⟩ <;> · unfold fieldAddrA; rw [Try.underlying51]; simp [szStr, szO, plusPtr]
theorem bO3 (k n : Int) {b : Value} (hb : b.cells.toList = [b]) : buildA Try.prog 26 [(0, .int .i64 k), (1, .int .i64 n), (2, b)] = some (.agg #[.int .i64 k, .int .i64 n, b, .slice none 0 0, .slice none 0 0]) := by
 unfold buildA; rw [Try.underlying26]
 have hz : zeroB Try.prog 26 = some (.agg #[.int .i64 0, .int .i64 0, .slice none 0 0, .slice none 0 0, .slice none 0 0]) := by kernel_rfl
 rw [hz]
 have ci : ∀ k n, (Value.int k n).cells = #[.int k n] := fun _ _ => rfl
 simp [szInt, szI64, szSl, szLs, szDs, plainV, plain1, fillA, placeOf, cells_agg, setAt, ci, hb]
theorem bE (a : List UInt8) {cs : List Value} (hc : cs.length = 5) : buildA Try.prog 51 [(0, .string ⟨a.toArray⟩), (1, .agg cs.toArray)] = some (.agg (.string ⟨a.toArray⟩ :: cs).toArray) := by
 unfold buildA; rw [Try.underlying51]
 have hz : zeroB Try.prog 51 = some (.agg #[.string ⟨#[]⟩, .int .i64 0, .int .i64 0, .slice none 0 0, .slice none 0 0, .slice none 0 0]) := by kernel_rfl
 rw [hz]
 have cs' : ∀ b, (Value.string b).cells = #[.string b] := fun _ => rfl
 match cs, hc with
 | [a, b, c, d, e], _ => simp [szStr, szO, plainV, plain1, fillA, placeOf, cells_agg, setAt, cs']
def NewO (s : ASt) (o : O) (v : Value) (s' : ASt) : Prop := ∃ cs, v = .agg cs.toArray ∧ OIs (fun j => s.next ≤ j) s' cs o ∧ Stay s.next s s'
def NewL (s : ASt) (o : O) (v : Value) (s' : ASt) : Prop := ∃ k n b l d bv lv dv lc dc, o = .mk k n b l d ∧ v = .agg #[.int .i64 k, .int .i64 n, bv, lv, dv] ∧ Own s' 5 lv l.length lc ∧ Fresh s.next lv ∧ Sees s' 1 bv b.length (ofBytes b) ∧ Sees s' 6 dv d.length dc ∧ Foot (fun j => s.next ≤ j ∧ idOf lv ≠ some j) bv ∧ Foot (fun j => s.next ≤ j ∧ idOf lv ≠ some j) dv ∧ ORows OIs 5 (fun j => s.next ≤ j ∧ idOf lv ≠ some j) s' l lc ∧ ORows EntIs 6 (fun j => s.next ≤ j ∧ idOf lv ≠ some j) s' d dc ∧ Stay s.next s s'
theorem NewL.new {s s' : ASt} {o : O} {v : Value} (h : NewL s o v s') : NewO s o v s' := by
 obtain ⟨k, n, b, l, d, bv, lv, dv, lc, dc, rfl, rfl, h1, h2, h3, h4, h5, h6, h7, h8, h9⟩ := h
 have hm : ∀ j, s.next ≤ j ∧ idOf lv ≠ some j -> s.next ≤ j := fun j hj => hj.1
 exact ⟨_, rfl, OIs.whole h3 h1.sees h4 (h5.mono hm) (Foot.fresh h2) (h6.mono hm) (h7.mono rowedO hm) (h8.mono rowedE hm), h9⟩
set_option maxHeartbeats 8000000 in
theorem rcopyL {lib : Prims} (hl : lib.at 53 = none) (hl1 : lib.at 44 = none) : ∀ (N : Nat) (o : O), SizeOf.sizeOf o ≤ N -> ∀ (F : Nat -> Prop) (s : ASt) (cs : List Value), OIs F s cs o -> Small o ->
  Runs Try.prog lib 53 [.agg cs.toArray] s (NewL s o) := by
 intro N
 induction N with
 | zero => intro o h; cases o; simp at h
 | succ N ih =>
 intro o hN F s cs ho hsm
 cases o with
 | mk kind num b l d =>
 obtain ⟨bv, lv, dv, lc, dc, rfl, hb, hL, hD, fb, fl, fd, rl, rd⟩ := ho.parts
 cases hsm with
 | mk hb1 hl2 hd1 hK1 hL1 hD1 =>
 refine Runs.enter 59 Try.func53 rfl hl rfl rfl ?_
 intro f hn hf
 have h0 : f.get 0 = .agg #[.int .i64 kind, .int .i64 num, bv, lv, dv] := hf 0
 clear hf
 simp -implicitDefEqProofs (disch := omega) only [allW, allR, allL, allB, Nat.sub_self, Nat.add_one_sub_one, Nat.reduceSub, oneOf, evalAll, partsA, optA, Nat.reduceLT, Nat.reduceLeDiff, Nat.reduceEqDiff, Nat.reduceAdd, ↓reduceIte, hn, h0]
 refine wstep_newPtr ?_
 intro s1 ht1 hst1 hnx1
 have hd6 : noneC.length + 1 = 6 := rfl
 simp -implicitDefEqProofs (disch := omega) only [allW, allR, allL, allB, Nat.sub_self, Nat.add_one_sub_one, Nat.reduceSub, oneOf, evalAll, partsA, optA, Nat.reduceLT, Nat.reduceLeDiff, Nat.reduceEqDiff, Nat.reduceAdd, ↓reduceIte, hn, h0, List.length_cons, List.length_nil, zO, plO]
 refine wstep_newPtr ?_
 intro s2 ht2 hst2 hnx2
 have ht12 := ht1.keeps hst2
 have hs2 : Stay s.next s s2 := hst1.trans (hst2.weaken (by omega))
 have hb2 := hb.keeps hs2
 simp -implicitDefEqProofs (disch := omega) only [allW, allR, allL, allB, Nat.sub_self, Nat.add_one_sub_one, Nat.reduceSub, oneOf, evalAll, partsA, optA, Nat.reduceLT, Nat.reduceLeDiff, Nat.reduceEqDiff, Nat.reduceAdd, ↓reduceIte, hn, h0, hd6]
 obtain ⟨A, hA⟩ : ∃ A : Nat -> Bool, A = fun j => decide (j < s2.next) := ⟨_, rfl⟩
 have hAl : ∀ j, A j = true -> j < s2.next := by
  intro j h
  rw [hA] at h
  exact of_decide_eq_true h
 have hAo : ∀ j, j < s2.next -> A j = true := fun j h => by rw [hA]; exact decide_eq_true h
 refine LB.Drawn.looseK A hAl 1 1 (by kernel_rfl) (by kernel_rfl) ?_
 have hsp := Stay.spare s2 1
 have hnT : (spare s2 1).next = s2.next + 1 := spare_next _ _
 have ht13 := ht12.keeps hsp
 have hlow : ∀ k, LA.lowV A (some (.pointer (some ⟨s.next, k, some 6⟩))) = true := fun k => LA.lowV_ptr (A := A) (i := s.next) (hAo _ ht12.lt)
 have l0 : loadA Try.prog (spare s2 1) 3 (.pointer (some ⟨s.next, 0, some 6⟩)) = some (.int .i64 kind) := ht13.load agInt (off := 0) (c := 6) rfl (by simp)
 have l1 : loadA Try.prog (spare s2 1) 2 (.pointer (some ⟨s.next, 1, some 6⟩)) = some (.int .i64 num) := ht13.load agI64 (off := 1) (c := 6) rfl (by simp)
 have l2 : loadA Try.prog (spare s2 1) 22 (.pointer (some ⟨s.next, 2, some 6⟩)) = some bv := ht13.load agSl (off := 2) (c := 6) rfl (by simp)
 simp -implicitDefEqProofs (disch := omega) only [allW, allR, allL, allB, Nat.sub_self, Nat.add_one_sub_one, Nat.reduceSub, oneOf, evalAll, partsA, optA, Nat.reduceLT, Nat.reduceLeDiff, Nat.reduceEqDiff, Nat.reduceAdd, ↓reduceIte, hn, h0, of0, of1, of2, hlow, l0, l1, l2, hb2.self]
 refine (copy_any hl1 (spare s2 1) bv b (hb2.keeps hsp) (by omega)).mono ?_
 rintro bv' s3 ⟨hbo, hbF, hst3⟩
 have hn3 := hst3.next
 refine ⟨fun _ => LA.Stay.toA hAl (hst3.weaken (by omega)), ?_⟩
 have hself3 : valEq (.agg #[.int .i64 kind, .int .i64 num, bv', .slice none 0 0, .slice none 0 0]) (.agg #[.int .i64 kind, .int .i64 num, bv', .slice none 0 0, .slice none 0 0]) = true := valEq_agg5 (by simp [valEq1]) (by simp [valEq1]) hbo.sees.self1 (by simp [valEq1]) (by simp [valEq1])
 simp -implicitDefEqProofs (disch := omega) only [allW, allR, allL, allB, Nat.sub_self, Nat.add_one_sub_one, Nat.reduceSub, oneOf, evalAll, partsA, optA, Nat.reduceLT, Nat.reduceLeDiff, Nat.reduceEqDiff, Nat.reduceAdd, ↓reduceIte, hn, h0, bO3 kind num hbo.sees.cell1, hself3, zO, plO]
 refine LB.smake_newPtr (by omega) ?_
 intro s4 ht4 hnx4 hot4
 simp -implicitDefEqProofs (disch := omega) only [allW, allR, allL, allB, Nat.sub_self, Nat.add_one_sub_one, Nat.reduceSub, oneOf, evalAll, partsA, optA, Nat.reduceLT, Nat.reduceLeDiff, Nat.reduceEqDiff, Nat.reduceAdd, ↓reduceIte, hn, h0, hd6]
 have hvok := hbo.sees.okCell
 refine LB.sstep_storeAll szO (by decide) ht4 rfl rfl rfl (by simp only [List.all_cons, List.all_nil, hvok]; rfl) (fun h => absurd rfl h) ?_
 intro s5 ht5 hnx5 hot5
 have ht5 : Thing s5 s2.next [.int .i64 kind, .int .i64 num, bv', .slice none 0 0, .slice none 0 0] := ht5
 have hs25 : Stay s2.next s2 s5 := ((hsp.trans (hst3.weaken (by omega))).trans ⟨by omega, fun j hj => hot4 j (by omega)⟩).trans ⟨by omega, fun j hj => hot5 j (by omega)⟩
 have hs5 : Stay s.next s s5 := hs2.trans (hs25.weaken (by omega))
 have hbo5 : Own s5 1 bv' b.length (ofBytes b) := (hbo.ofPut hnx4 hot4 (fun e => by have := hbF _ e; omega)).ofPut hnx5 hot5 (fun e => by have := hbF _ e; omega)
 have ht15 := ht12.keeps hs25
 have ht25 := ht2.keeps hs25
 simp -implicitDefEqProofs (disch := omega) only [allW, allR, allL, allB, Nat.sub_self, Nat.add_one_sub_one, Nat.reduceSub, oneOf, evalAll, partsA, optA, Nat.reduceLT, Nat.reduceLeDiff, Nat.reduceEqDiff, Nat.reduceAdd, ↓reduceIte, hn, h0]
 obtain ⟨FF, hFF⟩ : ∃ FF : Value -> Nat -> Prop, FF = fun v j => s2.next + 1 ≤ j ∧ ¬ j = s2.next ∧ idOf v ≠ some j := ⟨_, rfl⟩
 have hn2 := hst2.next
 have hn25 := hs25.next
 have ht5lt : s2.next < s5.next := ht5.lt
 refine Comes.loopOut (fun z f s6 => ∃ (i : Nat) (y : Value) (LC : List Value), z = l.length - i ∧ i ≤ l.length ∧ Own s6 5 y i LC ∧ ORows OIs 5 (FF y) s6 (l.take i) LC ∧ Fresh s5.next y ∧ Sees s6 1 bv' b.length (ofBytes b) ∧ Foot (FF y) bv' ∧ Thing s6 s.next [.int .i64 kind, .int .i64 num, bv, lv, dv] ∧ Thing s6 s1.next noneC ∧ Thing s6 s2.next [.int .i64 kind, .int .i64 num, bv', y, .slice none 0 0] ∧ Stay s.next s s6 ∧ s5.next ≤ s6.next ∧ f.n = 59 ∧ f.get 1 = .pointer (some ⟨s.next, 0, some 6⟩) ∧ f.get 2 = .pointer (some ⟨s1.next, 0, some 6⟩) ∧ f.get 3 = .pointer (some ⟨s2.next, 0, some 6⟩) ∧ f.get 4 = .int .i64 (i : Nat))
  (fun z f s6 => z = .exit 0 ∧ ∃ (y : Value) (LC : List Value), Own s6 5 y l.length LC ∧ ORows OIs 5 (FF y) s6 l LC ∧ Fresh s5.next y ∧ Sees s6 1 bv' b.length (ofBytes b) ∧ Foot (FF y) bv' ∧ Thing s6 s.next [.int .i64 kind, .int .i64 num, bv, lv, dv] ∧ Thing s6 s1.next noneC ∧ Thing s6 s2.next [.int .i64 kind, .int .i64 num, bv', y, .slice none 0 0] ∧ Stay s.next s s6 ∧ s5.next ≤ s6.next ∧ f.n = 59 ∧ f.get 1 = .pointer (some ⟨s.next, 0, some 6⟩) ∧ f.get 2 = .pointer (some ⟨s1.next, 0, some 6⟩) ∧ f.get 3 = .pointer (some ⟨s2.next, 0, some 6⟩))
  ⟨0, .slice none 0 0, [], rfl, by omega, .nil, by rw [List.take_zero]; exact ORows.nil, Fresh.nil _, hbo5.sees, Foot.of_id (fun j hj => by rw [hFF]; have := hbF j hj; exact ⟨by omega, by omega, fun e => by cases e⟩), ht15, ht25, ht5, hs5, Nat.le_refl _, by simp only [get_put, n_put, ↓reduceIte, Nat.reduceEqDiff, hn], by simp only [get_put, n_put, ↓reduceIte, Nat.reduceEqDiff], by simp only [get_put, n_put, ↓reduceIte, Nat.reduceEqDiff], by simp only [get_put, n_put, ↓reduceIte, Nat.reduceEqDiff], by simp only [get_put, n_put, ↓reduceIte, Nat.reduceEqDiff]; rfl⟩ ?_ ?_
 ·clear hn h0 f hself3 ht4 ht5 hot4 hot5 hbo hbo5 ht15 ht25 l0 l1 l2 hlow ht13 hAl hAo hA A
  rintro Q hQ z f s6 ⟨i, y, LC, rfl, hi, hy, hR, hyF, hbv, hbf, hb1', hb2', hb3', hst6, hn6, hn, h1, h2, h3, h4⟩
  have hL6 := hL.keeps hst6
  have l6 : loadA Try.prog s6 23 (.pointer (some ⟨s.next, 3, some 6⟩)) = some lv := hb1'.load agLs (off := 3) (c := 6) rfl (by simp)
  by_cases hlt : i < l.length
  rotate_left
  ·obtain rfl : i = l.length := by omega
   rw [List.take_length] at hR
   have d1 : ¬ ((l.length : Nat) : Int) < ((l.length : Nat) : Int) := by omega
   simp -implicitDefEqProofs (disch := omega) only [allW, allR, oneOf, evalAll, partsA, optA, Nat.reduceLT, Nat.reduceLeDiff, Nat.reduceEqDiff, Nat.reduceAdd, ↓reduceIte, hn, h1, h2, h3, h4, of3, l6, hL6.lenA Try.underlying23, eq_false d1]
   refine hQ _ _ _ ⟨rfl, y, LC, hy, hR, hyF, hbv, hbf, hb1', hb2', hb3', hst6, hn6, by simp only [get_put, n_put, ↓reduceIte, Nat.reduceEqDiff, hn], by simp only [get_put, n_put, ↓reduceIte, Nat.reduceEqDiff, h1], by simp only [get_put, n_put, ↓reduceIte, Nat.reduceEqDiff, h2], by simp only [get_put, n_put, ↓reduceIte, Nat.reduceEqDiff, h3]⟩
  have hy2 : idOf y ≠ some s2.next := fun e => by have := hyF _ e; have := hb3'.lt; have := ht5lt; omega
  have d1 : (i : Int) < (l.length : Int) := by omega
  simp -implicitDefEqProofs (disch := omega) only [allW, allR, allL, allB, Nat.sub_self, Nat.add_one_sub_one, Nat.reduceSub, oneOf, evalAll, partsA, optA, Nat.reduceLT, Nat.reduceLeDiff, Nat.reduceEqDiff, Nat.reduceAdd, ↓reduceIte, hn, h1, h2, h3, h4, of3, l6, hL6.lenA Try.underlying23, eq_true d1]
  obtain ⟨A, hA⟩ : ∃ A : Nat -> Bool, A = fun j => decide (j < s6.next) := ⟨_, rfl⟩
  have hAl : ∀ j, A j = true -> j < s6.next := by
   intro j h
   rw [hA] at h
   exact of_decide_eq_true h
  have hAo : ∀ j, j < s6.next -> A j = true := fun j h => by rw [hA]; exact decide_eq_true h
  refine LB.Drawn.looseK A hAl 1 1 (by kernel_rfl) (by kernel_rfl) ?_
  have hsp := Stay.spare s6 1
  have hnT : (spare s6 1).next = s6.next + 1 := spare_next _ _
  have hlow1 : ∀ k, LA.lowV A (some (.pointer (some ⟨s.next, k, some 6⟩))) = true := fun k => LA.lowV_ptr (A := A) (i := s.next) (hAo _ hb1'.lt)
  have hlow3 : ∀ k, LA.lowV A (some (.pointer (some ⟨s2.next, k, some 6⟩))) = true := fun k => LA.lowV_ptr (A := A) (i := s2.next) (hAo _ hb3'.lt)
  have l7 : loadA Try.prog (spare s6 1) 23 (.pointer (some ⟨s.next, 3, some 6⟩)) = some lv := (hb1'.keeps hsp).load agLs (off := 3) (c := 6) rfl (by simp)
  have l8 : loadA Try.prog (spare s6 1) 23 (.pointer (some ⟨s2.next, 3, some 6⟩)) = some y := (hb3'.keeps hsp).load agLs (off := 3) (c := 6) rfl (by simp)
  have hL7 := hL6.keeps hsp
  have hix := hL7.indexAddr (P := Try.prog) (k := .i64) (x := (i : Int)) Try.underlying23 szO (by omega) (by omega)
  rw [Int.toNat_natCast] at hix
  have hld := hL7.loadAgg (P := Try.prog) agO szO hlt
  have hoi := ((rl.row i hlt).keeps hst6).keeps hsp
  simp -implicitDefEqProofs (disch := omega) only [allW, allR, allL, allB, Nat.sub_self, Nat.add_one_sub_one, Nat.reduceSub, oneOf, evalAll, partsA, optA, Nat.reduceLT, Nat.reduceLeDiff, Nat.reduceEqDiff, Nat.reduceAdd, ↓reduceIte, hn, h1, h2, h3, h4, of3, hlow1, hlow3, l7, l8, hL7.self, hy.self, hix, hld, LA.lowV_elemOld hL6 hAo hlt, hoi.self]
  refine (ih l[i] (by have := O.items_lt (k := kind) (n := num) (b := b) (l := l) (d := d) (List.getElem_mem hlt); omega) F (spare s6 1) _ hoi (hL1 _ (List.getElem_mem hlt))).mono ?_
  rintro _ s7 h7
  obtain ⟨cs7, rfl, ho7, hst7⟩ := h7.new
  have hn7 := hst7.next
  refine ⟨fun _ => LA.Stay.toA hAl (hst7.weaken (by omega)), ?_⟩
  have hl7 := ho7.len
  simp -implicitDefEqProofs (disch := omega) only [allW, allR, allL, allB, Nat.sub_self, Nat.add_one_sub_one, Nat.reduceSub, oneOf, evalAll, partsA, optA, Nat.reduceLT, Nat.reduceLeDiff, Nat.reduceEqDiff, Nat.reduceAdd, ↓reduceIte, hn, h1, h2, h3, h4, ho7.self, buildAgg1 (cs := cs7.toArray) Try.underlying23 szO zO plO rfl hl7 (by decide)]
  refine LB.smake_newSlice (base := s6.next) hl7 (by omega) (Nat.le_refl _) ?_
  intro bs s8 hbs hid hst8 hnx8 hot8
  have hst68 : Stay s6.next s6 s8 := (hsp.trans (hst7.weaken (by omega))).trans hst8
  have hn8 := hst68.next
  have ho8 : OIs (FF y) s8 cs7 l[i] := by
   refine (ho7.turns (u := .pointer (some ⟨s6.next, 0, none⟩)) (Turns.ofPut hnx8 hot8) (fun j hj e => ?_)).mono (fun j hj => ?_)
   ·have e : some s6.next = some j := e
    injection e with e; omega
   ·rw [hFF]; exact ⟨by have := hst6.next; omega, by omega, fun e => by have := hy.idlt _ e; omega⟩
  simp -implicitDefEqProofs (disch := omega) only [allW, allR, allL, allB, Nat.sub_self, Nat.add_one_sub_one, Nat.reduceSub, oneOf, evalAll, partsA, optA, Nat.reduceLT, Nat.reduceLeDiff, Nat.reduceEqDiff, Nat.reduceAdd, ↓reduceIte, hn, h1, h2, h3, h4, hy.self]
  refine LB.sstep_append Try.underlying23 Try.underlying23 (.inl ⟨_, rfl⟩) szO byO zO rfl (hy.keeps hst68) hbs.sees.src hl7 (by decide) ho8.ok (by omega) (by omega) (base := s5.next) hyF (by omega) (fun h => absurd rfl h) (fun j hj => by have := hAl j hj; omega) ?_
  intro y' s9 hy9 hF9 hut9 hor
  have hn9 := hut9.next
  have hR8 := hR.keeps rowedO hst68
  rw [hFF] at hR8 ho8
  have hR9 := hR8.grow rowedO hl7 ho8 hut9 hor
  have hbv9 : Sees s9 1 bv' b.length (ofBytes b) ∧ Foot (FF y') bv' := by
   have hb8 := hbv.keeps hst68
   have hf8 := hbf.below hb8
   refine ⟨hb8.turnsF hbf hut9 (fun j hj => by rw [hFF] at hj; exact hj.2.2), hf8.mono (fun j hj => ?_)⟩
   rw [hFF] at hj ⊢
   refine ⟨hj.1.1, hj.1.2.1, fun e => ?_⟩
   rcases hor with h1 | ⟨q, h1, h2⟩
   ·exact hj.1.2.2 (by rw [← h1]; exact e)
   ·rw [h1] at e; injection e with e; have := hj.2; omega
  have hy92 : idOf y' ≠ some s2.next := fun e => by
   rcases hor with h1 | ⟨q, h1, h2⟩
   ·exact hy2 (by rw [← h1]; exact e)
   ·rw [h1] at e; injection e with e; have := hb3'.lt; omega
  simp -implicitDefEqProofs (disch := omega) only [allW, allR, allL, allB, Nat.sub_self, Nat.add_one_sub_one, Nat.reduceSub, oneOf, evalAll, partsA, optA, Nat.reduceLT, Nat.reduceLeDiff, Nat.reduceEqDiff, Nat.reduceAdd, ↓reduceIte, hn, h1, h2, h3, h4, of3, hlow3]
  refine LB.sstep_storeN szLs (by decide) ((hb3'.keeps hst68).turns hut9 hy2) (off := 3) (c := 6) rfl (vs := [y']) hy9.sees.cell1 rfl (by simp) (by simp [hy9.sees.okCell]) (fun h => absurd rfl h) ?_
  intro sa hta hnxa hota
  have hta : Thing sa s2.next [.int .i64 kind, .int .i64 num, bv', y', .slice none 0 0] := hta
  have hua : Turns (.pointer (some ⟨s2.next, 0, none⟩)) s9 sa := Turns.ofPut hnxa hota
  have hnea : ∀ v j, FF v j -> idOf (.pointer (some ⟨s2.next, 0, none⟩)) ≠ some j := fun v j hj e => by
   have e : some s2.next = some j := e
   injection e with e
   rw [hFF] at hj; exact hj.2.1 e.symm
  rw [show (fun j => s2.next + 1 ≤ j ∧ ¬ j = s2.next ∧ idOf y' ≠ some j) = FF y' by rw [hFF]] at hR9
  simp -implicitDefEqProofs (disch := omega) only [allW, allR, allL, allB, Nat.sub_self, Nat.add_one_sub_one, Nat.reduceSub, oneOf, evalAll, partsA, optA, Nat.reduceLT, Nat.reduceLeDiff, Nat.reduceEqDiff, Nat.reduceAdd, ↓reduceIte, hn, h1, h2, h3, h4, wrapI]
  refine wround_next (l.length - (i + 1)) (by omega) ⟨i + 1, y', LC ++ cs7, rfl, by omega, hy9.ofPut hnxa hota hy92, ?_, hF9, hbv9.1.turnsF hbv9.2 hua (hnea y'), hbv9.2, ((hb1'.keeps hst68).turns hut9 (fun e => by have := hyF _ e; have := hs5.next; have := ht5lt; omega)).ofPut hnxa hota (by omega), ((hb2'.keeps hst68).turns hut9 (fun e => by have := hyF _ e; have := ht5lt; omega)).ofPut hnxa hota (by omega), hta, ?_, by omega, by simp only [get_put, n_put, ↓reduceIte, Nat.reduceEqDiff, hn], by simp only [get_put, n_put, ↓reduceIte, Nat.reduceEqDiff, h1], by simp only [get_put, n_put, ↓reduceIte, Nat.reduceEqDiff, h2], by simp only [get_put, n_put, ↓reduceIte, Nat.reduceEqDiff, h3], by simp only [get_put, n_put, ↓reduceIte, Nat.reduceEqDiff]; rfl⟩
  ·rw [List.take_add_one, List.getElem?_eq_getElem hlt]
   exact hR9.turns rowedO hua (hnea y')
  ·exact ((hst6.trans (hst68.weaken hst6.next)).trans ((hut9.keeps hyF (by omega)).weaken hs5.next)).trans ⟨by omega, fun j hj => hota j (by omega)⟩
 clear hn h0 f hself3 ht4 ht5 hot4 hot5 hbo hbo5 ht15 ht25 l0 l1 l2 hlow ht13 hAl hAo hA A
 rintro z f s6 ⟨rfl, y, LC, hyo, hR, hyF, hbv, hbf, hb1', hb2', hb3', hst6, hn6, hn, h1, h2, h3⟩
 obtain ⟨FG, hFG⟩ : ∃ FG : Value -> Nat -> Prop, FG = fun v j => s2.next + 1 ≤ j ∧ ¬ (j = s2.next ∨ idOf y = some j) ∧ idOf v ≠ some j := ⟨_, rfl⟩
 have hmono : ∀ j, FF y j -> FG (.slice none 0 0) j := fun j hj => by
  rw [hFF] at hj; rw [hFG]
  exact ⟨hj.1, fun e => e.elim hj.2.1 hj.2.2, fun e => by cases e⟩
 replace hR := hR.mono rowedO hmono
 replace hbf := hbf.mono hmono
 simp -implicitDefEqProofs (disch := omega) only [allW, allR, oneOf, evalAll, partsA, optA, Nat.reduceLT, Nat.reduceLeDiff, Nat.reduceEqDiff, Nat.reduceAdd, ↓reduceIte, hn, h1, h2, h3]
 refine Comes.loopOut (fun z f s7 => ∃ (i : Nat) (w : Value) (DC : List Value), z = d.length - i ∧ i ≤ d.length ∧ Own s7 6 w i DC ∧ ORows EntIs 6 (FG w) s7 (d.take i) DC ∧ Fresh s5.next w ∧ Sees s7 1 bv' b.length (ofBytes b) ∧ Foot (FG w) bv' ∧ Own s7 5 y l.length LC ∧ (∀ j, idOf y = some j -> idOf w ≠ some j) ∧ ORows OIs 5 (FG w) s7 l LC ∧ Thing s7 s.next [.int .i64 kind, .int .i64 num, bv, lv, dv] ∧ Thing s7 s1.next noneC ∧ Thing s7 s2.next [.int .i64 kind, .int .i64 num, bv', y, w] ∧ Stay s.next s s7 ∧ s5.next ≤ s7.next ∧ f.n = 59 ∧ f.get 1 = .pointer (some ⟨s.next, 0, some 6⟩) ∧ f.get 2 = .pointer (some ⟨s1.next, 0, some 6⟩) ∧ f.get 3 = .pointer (some ⟨s2.next, 0, some 6⟩) ∧ f.get 5 = .int .i64 (i : Nat))
  (fun z f s7 => z = .exit 2 ∧ ∃ (w : Value) (DC : List Value), Own s7 6 w d.length DC ∧ ORows EntIs 6 (FG w) s7 d DC ∧ Fresh s5.next w ∧ Sees s7 1 bv' b.length (ofBytes b) ∧ Foot (FG w) bv' ∧ Own s7 5 y l.length LC ∧ (∀ j, idOf y = some j -> idOf w ≠ some j) ∧ ORows OIs 5 (FG w) s7 l LC ∧ Thing s7 s1.next noneC ∧ Thing s7 s2.next [.int .i64 kind, .int .i64 num, bv', y, w] ∧ Stay s.next s s7 ∧ s5.next ≤ s7.next ∧ f.n = 59 ∧ f.get 2 = .pointer (some ⟨s1.next, 0, some 6⟩) ∧ f.get 3 = .pointer (some ⟨s2.next, 0, some 6⟩))
  ⟨0, .slice none 0 0, [], rfl, by omega, .nil, by rw [List.take_zero]; exact ORows.nil, Fresh.nil _, hbv, hbf, hyo, (fun j _ e => by cases e), hR, hb1', hb2', hb3', hst6, hn6, by simp only [get_put, n_put, ↓reduceIte, Nat.reduceEqDiff, hn], by simp only [get_put, n_put, ↓reduceIte, Nat.reduceEqDiff, h1], by simp only [get_put, n_put, ↓reduceIte, Nat.reduceEqDiff, h2], by simp only [get_put, n_put, ↓reduceIte, Nat.reduceEqDiff, h3], by simp only [get_put, n_put, ↓reduceIte, Nat.reduceEqDiff]; rfl⟩ ?_ ?_
 ·clear hn h1 h2 h3 f hb1' hb2' hb3' hst6 hn6 hbv hbf hyo hR s6
  rintro Q hQ z f s6 ⟨i, w, DC, rfl, hi, hw, hRE, hwF, hbv, hbf, hys, hyf, hR, hb1', hb2', hb3', hst6, hn6, hn, h1, h2, h3, h5⟩
  have hD6 := hD.keeps hst6
  have l6 : loadA Try.prog s6 24 (.pointer (some ⟨s.next, 4, some 6⟩)) = some dv := hb1'.load agDs (off := 4) (c := 6) rfl (by simp)
  by_cases hlt : i < d.length
  rotate_left
  ·obtain rfl : i = d.length := by omega
   rw [List.take_length] at hRE
   have d1 : ¬ ((d.length : Nat) : Int) < ((d.length : Nat) : Int) := by omega
   simp -implicitDefEqProofs (disch := omega) only [allW, allR, oneOf, evalAll, partsA, optA, Nat.reduceLT, Nat.reduceLeDiff, Nat.reduceEqDiff, Nat.reduceAdd, ↓reduceIte, hn, h1, h2, h3, h5, of4, l6, hD6.lenA Try.underlying24, eq_false d1]
   refine hQ _ _ _ ⟨rfl, w, DC, hw, hRE, hwF, hbv, hbf, hys, hyf, hR, hb2', hb3', hst6, hn6, by simp only [get_put, n_put, ↓reduceIte, Nat.reduceEqDiff, hn], by simp only [get_put, n_put, ↓reduceIte, Nat.reduceEqDiff, h2], by simp only [get_put, n_put, ↓reduceIte, Nat.reduceEqDiff, h3]⟩
  have hw2 : idOf w ≠ some s2.next := fun e => by have := hwF _ e; have := hb3'.lt; have := ht5lt; omega
  have d1 : (i : Int) < (d.length : Int) := by omega
  simp -implicitDefEqProofs (disch := omega) only [allW, allR, allL, allB, Nat.sub_self, Nat.add_one_sub_one, Nat.reduceSub, oneOf, evalAll, partsA, optA, Nat.reduceLT, Nat.reduceLeDiff, Nat.reduceEqDiff, Nat.reduceAdd, ↓reduceIte, hn, h1, h2, h3, h5, of4, l6, hD6.lenA Try.underlying24, eq_true d1]
  obtain ⟨A, hA⟩ : ∃ A : Nat -> Bool, A = fun j => decide (j < s6.next) := ⟨_, rfl⟩
  have hAl : ∀ j, A j = true -> j < s6.next := by
   intro j h
   rw [hA] at h
   exact of_decide_eq_true h
  have hAo : ∀ j, j < s6.next -> A j = true := fun j h => by rw [hA]; exact decide_eq_true h
  refine LB.Drawn.looseK A hAl 1 1 (by kernel_rfl) (by kernel_rfl) ?_
  have hsp := Stay.spare s6 1
  have hnT : (spare s6 1).next = s6.next + 1 := spare_next _ _
  have hlow1 : ∀ k, LA.lowV A (some (.pointer (some ⟨s.next, k, some 6⟩))) = true := fun k => LA.lowV_ptr (A := A) (i := s.next) (hAo _ hb1'.lt)
  have hlow3 : ∀ k, LA.lowV A (some (.pointer (some ⟨s2.next, k, some 6⟩))) = true := fun k => LA.lowV_ptr (A := A) (i := s2.next) (hAo _ hb3'.lt)
  have l7 : loadA Try.prog (spare s6 1) 24 (.pointer (some ⟨s.next, 4, some 6⟩)) = some dv := (hb1'.keeps hsp).load agDs (off := 4) (c := 6) rfl (by simp)
  have l8 : loadA Try.prog (spare s6 1) 24 (.pointer (some ⟨s2.next, 4, some 6⟩)) = some w := (hb3'.keeps hsp).load agDs (off := 4) (c := 6) rfl (by simp)
  have hD7 := hD6.keeps hsp
  have hix := hD7.indexAddr (P := Try.prog) (k := .i64) (x := (i : Int)) Try.underlying24 szE (by omega) (by omega)
  rw [Int.toNat_natCast] at hix
  obtain ⟨q0, q1⟩ := efE hD7 hlt
  obtain ⟨r, hr1, hr2, hr3⟩ := rd.row i hlt
  obtain ⟨hk6, hv6⟩ := chunk6 hr1
  have hlk := hD7.loadField (P := Try.prog) agStr hlt (j := 0) (by omega)
  rw [Nat.add_zero, hk6] at hlk
  have hlv := hD7.loadPart (P := Try.prog) agO szO hlt (j := 1) (by omega)
  rw [hv6] at hlv
  have hoi := (hr2.keeps hst6).keeps hsp
  simp -implicitDefEqProofs (disch := omega) only [allW, allR, allL, allB, Nat.sub_self, Nat.add_one_sub_one, Nat.reduceSub, oneOf, evalAll, partsA, optA, Nat.reduceLT, Nat.reduceLeDiff, Nat.reduceEqDiff, Nat.reduceAdd, ↓reduceIte, hn, h1, h2, h3, h5, of4, hlow1, hlow3, l7, l8, hD7.self, hw.self, hix, q0, q1, hlk, hlv, valEq_plus, valEq_string, LA.lowV_plus hD6 hAo hlt, hoi.self]
  refine (ih d[i].2 (by have := O.ents_lt (k := kind) (n := num) (b := b) (l := l) (d := d) (List.getElem_mem hlt); omega) F (spare s6 1) _ hoi (hD1 _ (List.getElem_mem hlt))).mono ?_
  rintro _ s7 h7
  obtain ⟨cs7, rfl, ho7, hst7⟩ := h7.new
  have hn7 := hst7.next
  refine ⟨fun _ => LA.Stay.toA hAl (hst7.weaken (by omega)), ?_⟩
  have hl7 := ho7.len
  obtain ⟨es, hes⟩ : ∃ es, es = Value.string ⟨(d[i].1).toArray⟩ :: cs7 := ⟨_, rfl⟩
  have hel : es.length = 6 := by rw [hes]; simp [hl7]
  have hself6 : valEq (.agg es.toArray) (.agg es.toArray) = true := by
   have := ho7.self
   rw [hes]
   match cs7, hl7, this with
   | [a, b, c, d, e], _, this =>
    simp [valEq, valEqL] at this ⊢
    exact ⟨by simp [valEq1], this⟩
  have hbE := bE d[i].1 hl7
  rw [← hes] at hbE
  simp -implicitDefEqProofs (disch := omega) only [allW, allR, allL, allB, Nat.sub_self, Nat.add_one_sub_one, Nat.reduceSub, oneOf, evalAll, partsA, optA, Nat.reduceLT, Nat.reduceLeDiff, Nat.reduceEqDiff, Nat.reduceAdd, ↓reduceIte, hn, h1, h2, h3, h5, ho7.self, hbE, hself6, buildAgg1 (cs := es.toArray) Try.underlying24 szE zE plE rfl hel (by decide)]
  refine LB.smake_newSlice (base := s6.next) hel (by omega) (Nat.le_refl _) ?_
  intro bs s8 hbs hid hst8 hnx8 hot8
  have hst68 : Stay s6.next s6 s8 := (hsp.trans (hst7.weaken (by omega))).trans hst8
  have hn8 := hst68.next
  have ho8 : EntIs (FG w) s8 es d[i] := by
   refine ⟨cs7, hes, (ho7.turns (u := .pointer (some ⟨s6.next, 0, none⟩)) (Turns.ofPut hnx8 hot8) (fun j hj e => ?_)).mono (fun j hj => ?_), hr3⟩
   ·have e : some s6.next = some j := e
    injection e with e; omega
   ·rw [hFG]; exact ⟨by have := hst6.next; omega, fun e => e.elim (fun e => by omega) (fun e => by have := hys.idlt _ e; omega), fun e => by have := hw.idlt _ e; omega⟩
  have hesok : es.all okCell = true := by rw [hes, List.all_cons, ho7.ok]; rfl
  simp -implicitDefEqProofs (disch := omega) only [allW, allR, allL, allB, Nat.sub_self, Nat.add_one_sub_one, Nat.reduceSub, oneOf, evalAll, partsA, optA, Nat.reduceLT, Nat.reduceLeDiff, Nat.reduceEqDiff, Nat.reduceAdd, ↓reduceIte, hn, h1, h2, h3, h5, hw.self]
  refine LB.sstep_append Try.underlying24 Try.underlying24 (.inl ⟨_, rfl⟩) szE byE zE rfl (hw.keeps hst68) hbs.sees.src hel (by decide) hesok (by omega) (by omega) (base := s5.next) hwF (by omega) (fun h => absurd rfl h) (fun j hj => by have := hAl j hj; omega) ?_
  intro w' s9 hw9 hF9 hut9 hor
  have hn9 := hut9.next
  have hnew : ∀ j, FG w j ∧ j < s8.next -> FG w' j := fun j hj => by
   rw [hFG] at hj ⊢
   refine ⟨hj.1.1, hj.1.2.1, fun e => ?_⟩
   rcases hor with h1 | ⟨q, h1, h2⟩
   ·exact hj.1.2.2 (by rw [← h1]; exact e)
   ·rw [h1] at e; injection e with e; have := hj.2; omega
  have hnw : ∀ j, FG w j -> idOf w ≠ some j := fun j hj => by rw [hFG] at hj; exact hj.2.2
  have hRE8 := hRE.keeps rowedE hst68
  have ho8' := ho8
  rw [hFG] at hRE8 ho8'
  have hRE9 := hRE8.grow (X := fun j => j = s2.next ∨ idOf y = some j) rowedE hel ho8' hut9 hor
  rw [show (fun j => s2.next + 1 ≤ j ∧ ¬ (j = s2.next ∨ idOf y = some j) ∧ idOf w' ≠ some j) = FG w' by rw [hFG]] at hRE9
  have hbv8 := hbv.keeps hst68
  have hys8 := hys.keeps hst68
  have hbv9 := hbv8.turnsF hbf hut9 hnw
  have hys9 := hys8.turns hut9 hyf
  have hbf9 := (hbf.below hbv8).mono hnew
  have hyf9 : ∀ j, idOf y = some j -> idOf w' ≠ some j := fun j hj e => by
   rcases hor with h1 | ⟨q, h1, h2⟩
   ·exact hyf j hj (by rw [← h1]; exact e)
   ·rw [h1] at e; injection e with e; have := hys8.idlt _ hj; omega
  have hR9 := ((hR.keeps rowedO hst68).below rowedO |>.turns rowedO hut9 (fun j hj => hnw j hj.1)).mono rowedO hnew
  have hy92 : idOf w' ≠ some s2.next := fun e => by
   rcases hor with h1 | ⟨q, h1, h2⟩
   ·exact hw2 (by rw [← h1]; exact e)
   ·rw [h1] at e; injection e with e; have := hb3'.lt; omega
  simp -implicitDefEqProofs (disch := omega) only [allW, allR, allL, allB, Nat.sub_self, Nat.add_one_sub_one, Nat.reduceSub, oneOf, evalAll, partsA, optA, Nat.reduceLT, Nat.reduceLeDiff, Nat.reduceEqDiff, Nat.reduceAdd, ↓reduceIte, hn, h1, h2, h3, h5, of4, hlow3]
  refine LB.sstep_storeN szDs (by decide) ((hb3'.keeps hst68).turns hut9 hw2) (off := 4) (c := 6) rfl (vs := [w']) hw9.sees.cell1 rfl (by simp) (by simp [hw9.sees.okCell]) (fun h => absurd rfl h) ?_
  intro sa hta hnxa hota
  have hta : Thing sa s2.next [.int .i64 kind, .int .i64 num, bv', y, w'] := hta
  have hua : Turns (.pointer (some ⟨s2.next, 0, none⟩)) s9 sa := Turns.ofPut hnxa hota
  have hnea : ∀ v j, FG v j -> idOf (.pointer (some ⟨s2.next, 0, none⟩)) ≠ some j := fun v j hj e => by
   have e : some s2.next = some j := e
   injection e with e
   rw [hFG] at hj; exact hj.2.1 (.inl e.symm)
  simp -implicitDefEqProofs (disch := omega) only [allW, allR, allL, allB, Nat.sub_self, Nat.add_one_sub_one, Nat.reduceSub, oneOf, evalAll, partsA, optA, Nat.reduceLT, Nat.reduceLeDiff, Nat.reduceEqDiff, Nat.reduceAdd, ↓reduceIte, hn, h1, h2, h3, h5, wrapI]
  refine wround_next (d.length - (i + 1)) (by omega) ⟨i + 1, w', DC ++ es, rfl, by omega, hw9.ofPut hnxa hota hy92, ?_, hF9, hbv9.turnsF hbf9 hua (hnea w'), hbf9, hys9.turns hua (fun j hj e => by have e : some s2.next = some j := e; injection e with e; have := hyF _ hj; omega), hyf9, hR9.turns rowedO hua (hnea w'), ((hb1'.keeps hst68).turns hut9 (fun e => by have := hwF _ e; have := hs5.next; have := ht5lt; omega)).ofPut hnxa hota (by omega), ((hb2'.keeps hst68).turns hut9 (fun e => by have := hwF _ e; have := ht5lt; omega)).ofPut hnxa hota (by omega), hta, ?_, by omega, by simp only [get_put, n_put, ↓reduceIte, Nat.reduceEqDiff, hn], by simp only [get_put, n_put, ↓reduceIte, Nat.reduceEqDiff, h1], by simp only [get_put, n_put, ↓reduceIte, Nat.reduceEqDiff, h2], by simp only [get_put, n_put, ↓reduceIte, Nat.reduceEqDiff, h3], by simp only [get_put, n_put, ↓reduceIte, Nat.reduceEqDiff]; rfl⟩
  ·rw [List.take_add_one, List.getElem?_eq_getElem hlt]
   exact hRE9.turns rowedE hua (hnea w')
  ·exact ((hst6.trans (hst68.weaken hst6.next)).trans ((hut9.keeps hwF (by omega)).weaken hs5.next)).trans ⟨by omega, fun j hj => hota j (by omega)⟩
 clear hn h1 h2 h3 f hb1' hb2' hb3' hst6 hn6 hbv hbf hyo hR s6
 rintro z f s6 ⟨rfl, w, DC, hw, hRE, hwF, hbv, hbf, hys, hyf, hR, hb2', hb3', hst6, hn6, hn, h2, h3⟩
 have la := Thing.loadAll (P := Try.prog) (cs := [.int .i64 kind, .int .i64 num, bv', y, w]) agO szO hb3' (c := 6) rfl
 have ok1 := hbv.okCell
 have ok2 := hys.sees.okCell
 have ok3 := hw.sees.okCell
 simp -implicitDefEqProofs (disch := omega) only [allW, allR, oneOf, evalAll, partsA, optA, Nat.reduceLT, Nat.reduceLeDiff, Nat.reduceEqDiff, Nat.reduceAdd, ↓reduceIte, hn, h2, h3, la]
 refine wstep_storeAll szO (by decide) hb2' rfl rfl rfl (by simp only [List.all_cons, List.all_nil, ok1, ok2, ok3]; rfl) ?_
 intro s7 ht7 hnx7 hot7
 have l7 := Thing.loadAll (P := Try.prog) (cs := [.int .i64 kind, .int .i64 num, bv', y, w]) agO szO ht7 (c := 6) rfl
 simp -implicitDefEqProofs (disch := omega) only [allW, allR, wfn_ret, wfn_normal, oneOf, evalAll, partsA, optA, Nat.reduceLT, Nat.reduceLeDiff, Nat.reduceEqDiff, Nat.reduceAdd, ↓reduceIte, hn, h2, l7, resultsA_cell, Try.results53]
 have hu7 : Turns (.pointer (some ⟨s1.next, 0, none⟩)) s6 s7 := Turns.ofPut hnx7 hot7
 have hne7 : ∀ j, FG w j -> idOf (.pointer (some ⟨s1.next, 0, none⟩)) ≠ some j := fun j hj e => by
  have e : some s1.next = some j := e
  injection e with e
  rw [hFG] at hj; have := hj.1; omega
 have hyj : ∀ j, idOf y = some j -> s5.next ≤ j := fun j hj => hyF _ hj
 have hwf : Foot (fun j => s.next ≤ j ∧ idOf y ≠ some j) w := Foot.of_id (fun j hj => ⟨by have := hwF _ hj; have := hs5.next; omega, fun e => hyf j e hj⟩)
 have hm : ∀ j, FG w j -> s.next ≤ j ∧ idOf y ≠ some j := fun j hj => by rw [hFG] at hj; exact ⟨by have := hj.1; have := hs2.next; omega, fun e => hj.2.1 (.inr e)⟩
 exact ⟨_, _, _, _, _, _, _, _, _, _, rfl, rfl, hys.turns hu7 (fun j hj e => by have e : some s1.next = some j := e; injection e with e; have := hyj _ hj; omega), fun j hj => by have := hyj j hj; have := hs5.next; omega, hbv.turnsF hbf hu7 hne7, hw.sees.ofPut hnx7 hot7 (fun e => by have := hwF _ e; omega), hbf.mono hm, hwf, (hR.turns rowedO hu7 hne7).mono rowedO hm, (hRE.turns rowedE hu7 hne7).mono rowedE hm, hst6.trans ⟨by omega, fun j hj => hot7 j (by have := hst1.next; omega)⟩⟩
theorem rcopyO {lib : Prims} (hl : lib.at 53 = none) (hl1 : lib.at 44 = none) (N : Nat) (o : O) (hN : SizeOf.sizeOf o ≤ N) (F : Nat -> Prop) (s : ASt) (cs : List Value) (ho : OIs F s cs o) (hs : Small o) :
  Runs Try.prog lib 53 [.agg cs.toArray] s (NewO s o) := (rcopyL hl hl1 N o hN F s cs ho hs).mono fun _ _ h => h.new
end Go.Proofs.Ythlbahnfimigcaa