import Derived.Test.YthlbahnfimigcaaCosA
import Derived.Test.YthlbahnfimigcaaObjT
import Derived.Test.YthlbahnfimigcaaClone
set_option linter.unusedSimpArgs false
set_option linter.unusedVariables false
set_option maxRecDepth 100000
namespace Go.Proofs.Ythlbahnfimigcaa
open Go.Cl
theorem ofE0 (i o c : Nat) : fieldAddrA Try.prog 51 (.pointer (some ⟨i, o, some c⟩)) 0 = some (.pointer (some ⟨i, o + 0, some c⟩)) := by
 unfold fieldAddrA; rw [Try.underlying51]; simp [szStr, szO]
theorem ofE1 (i o c : Nat) : fieldAddrA Try.prog 51 (.pointer (some ⟨i, o, some c⟩)) 1 = some (.pointer (some ⟨i, o + 1, some c⟩)) := by
 unfold fieldAddrA; rw [Try.underlying51]; simp [szStr, szO]
def Else (base : Nat) (a b c : Value) (j : Nat) : Prop := base ≤ j ∧ idOf a ≠ some j ∧ idOf b ≠ some j ∧ idOf c ≠ some j
def CopyC (s : ASt) (o : O) (v : Value) (s' : ASt) : Prop := ∃ (bv lv dv : Value) (LC DC : List Value), v = .agg #[.int .i64 o.kind, .int .i64 o.num, bv, lv, dv] ∧ Own s' 1 bv o.bytes.length (ofBytes o.bytes) ∧ Own s' 5 lv o.items.length LC ∧ Own s' 6 dv o.ents.length DC ∧ Fresh s.next bv ∧ Fresh s.next lv ∧ Fresh s.next dv ∧
 (∀ j, idOf bv = some j -> idOf lv ≠ some j) ∧ (∀ j, idOf bv = some j -> idOf dv ≠ some j) ∧ (∀ j, idOf lv = some j -> idOf dv ≠ some j) ∧ ORows OIs 5 (Else s.next bv lv dv) s' o.items LC ∧ ORows EntIs 6 (Else s.next bv lv dv) s' o.ents DC ∧ Stay s.next s s'
theorem CopyC.is {s s' : ASt} {o : O} {v : Value} (h : CopyC s o v s') : NewO s o v s' := by
 obtain ⟨bv, lv, dv, LC, DC, rfl, h1, h2, h3, f1, f2, f3, -, -, -, r1, r2, hs⟩ := h
 cases o with
 | mk k n b l d => exact ⟨[.int .i64 k, .int .i64 n, bv, lv, dv], rfl, OIs.whole h1.sees h2.sees h3.sees (Foot.fresh f1) (Foot.fresh f2) (Foot.fresh f3) (r1.mono rowedO fun j h => h.1) (r2.mono rowedE fun j h => h.1), hs⟩
set_option maxHeartbeats 8000000 in
theorem copyF {lib : Prims} (hl : lib.at 41 = none) (hl1 : lib.at 42 = none) : ∀ (N : Nat) (o : O), SizeOf.sizeOf o ≤ N -> ∀ (F : Nat -> Prop) (s : ASt) (cs : List Value), OIs F s cs o -> Fit o ->
  Runs Try.prog lib 41 [.agg cs.toArray] s (CopyC s o) := by
 intro N
 induction N with
 | zero => intro o h; cases o; simp at h
 | succ N ih =>
 intro o hN F s cs ho hsm
 cases o with
 | mk kind num b l d =>
 obtain ⟨bv, lv, dv, lc, dc, rfl, hb, hL, hD, fb, fl, fd, rl, rd⟩ := ho.parts
 cases hsm with
 | mk hb1 hl2 hd1 hK1 hL1 hD1 =>
 refine Runs.enter 51 Try.func41 rfl hl rfl rfl ?_
 intro f hn hf
 have h0 : f.get 0 = .agg #[.int .i64 kind, .int .i64 num, bv, lv, dv] := hf 0
 clear hf
 simp -implicitDefEqProofs (disch := omega) only [allW, allR, allL, allB, Nat.sub_self, Nat.add_one_sub_one, Nat.reduceSub, oneOf, evalAll, partsA, optA, Nat.reduceLT, Nat.reduceLeDiff, Nat.reduceEqDiff, Nat.reduceAdd, ↓reduceIte, hn, h0]
 refine wstep_newPtr ?_
 intro s1 ht1 hst1 hnx1
 have hd6 : noneC.length + 1 = 6 := rfl
 simp -implicitDefEqProofs (disch := omega) only [allW, allR, allL, allB, Nat.sub_self, Nat.add_one_sub_one, Nat.reduceSub, oneOf, evalAll, partsA, optA, Nat.reduceLT, Nat.reduceLeDiff, Nat.reduceEqDiff, Nat.reduceAdd, ↓reduceIte, hn, h0, List.length_cons, List.length_nil, zO, plO]
 refine wstep_newPtr ?_
 intro s2 ht2 hst2 hnx2
 have ht12 := ht1.keeps hst2
 have hs2 : Stay s.next s s2 := hst1.trans (hst2.weaken (by omega))
 have hb2 := hb.keeps hs2
 simp -implicitDefEqProofs (disch := omega) only [allW, allR, allL, allB, Nat.sub_self, Nat.add_one_sub_one, Nat.reduceSub, oneOf, evalAll, partsA, optA, Nat.reduceLT, Nat.reduceLeDiff, Nat.reduceEqDiff, Nat.reduceAdd, ↓reduceIte, hn, h0, hd6]
 obtain ⟨A, hA⟩ : ∃ A : Nat -> Bool, A = fun j => decide (j < s2.next) := ⟨_, rfl⟩
 have hAl : ∀ j, A j = true -> j < s2.next := by
  intro j h
  rw [hA] at h
  exact of_decide_eq_true h
 have hAo : ∀ j, j < s2.next -> A j = true := fun j h => by rw [hA]; exact decide_eq_true h
 refine LB.Drawn.looseK A hAl 1 1 (by kernel_rfl) (by kernel_rfl) ?_
 have hsp := Stay.spare s2 1
 have hnT : (spare s2 1).next = s2.next + 1 := spare_next _ _
 have ht13 := ht12.keeps hsp
 have hlow : ∀ k, LA.lowV A (some (.pointer (some ⟨s.next, k, some 6⟩))) = true := fun k => LA.lowV_ptr (A := A) (i := s.next) (hAo _ ht12.lt)
 have l0 : loadA Try.prog (spare s2 1) 3 (.pointer (some ⟨s.next, 0, some 6⟩)) = some (.int .i64 kind) := ht13.load agInt (off := 0) (c := 6) rfl (by simp)
 have l1 : loadA Try.prog (spare s2 1) 2 (.pointer (some ⟨s.next, 1, some 6⟩)) = some (.int .i64 num) := ht13.load agI64 (off := 1) (c := 6) rfl (by simp)
 have l2 : loadA Try.prog (spare s2 1) 22 (.pointer (some ⟨s.next, 2, some 6⟩)) = some bv := ht13.load agSl (off := 2) (c := 6) rfl (by simp)
 simp -implicitDefEqProofs (disch := omega) only [allW, allR, allL, allB, Nat.sub_self, Nat.add_one_sub_one, Nat.reduceSub, oneOf, evalAll, partsA, optA, Nat.reduceLT, Nat.reduceLeDiff, Nat.reduceEqDiff, Nat.reduceAdd, ↓reduceIte, hn, h0, of0, of1, of2, hlow, l0, l1, l2, hb2.self]
 refine (clone_any hl1 (spare s2 1) bv b (hb2.keeps hsp) (by omega)).mono ?_
 rintro bv' s3 ⟨hbo, hbF, hst3⟩
 have hn3 := hst3.next
 refine ⟨fun _ => LA.Stay.toA hAl (hst3.weaken (by omega)), ?_⟩
 have hself3 : valEq (.agg #[.int .i64 kind, .int .i64 num, bv', .slice none 0 0, .slice none 0 0]) (.agg #[.int .i64 kind, .int .i64 num, bv', .slice none 0 0, .slice none 0 0]) = true := valEq_agg5 (by simp [valEq1]) (by simp [valEq1]) hbo.sees.self1 (by simp [valEq1]) (by simp [valEq1])
 simp -implicitDefEqProofs (disch := omega) only [allW, allR, allL, allB, Nat.sub_self, Nat.add_one_sub_one, Nat.reduceSub, oneOf, evalAll, partsA, optA, Nat.reduceLT, Nat.reduceLeDiff, Nat.reduceEqDiff, Nat.reduceAdd, ↓reduceIte, hn, h0, bO3 kind num hbo.sees.cell1, hself3, zO, plO]
 refine LB.smake_newPtr (by omega) ?_
 intro s4 ht4 hnx4 hot4
 simp -implicitDefEqProofs (disch := omega) only [allW, allR, allL, allB, Nat.sub_self, Nat.add_one_sub_one, Nat.reduceSub, oneOf, evalAll, partsA, optA, Nat.reduceLT, Nat.reduceLeDiff, Nat.reduceEqDiff, Nat.reduceAdd, ↓reduceIte, hn, h0, hd6]
 have hvok := hbo.sees.okCell
 refine LB.sstep_storeAll szO (by decide) ht4 rfl rfl rfl (by simp only [List.all_cons, List.all_nil, hvok]; rfl) (fun h => absurd rfl h) ?_
 intro s5 ht5 hnx5 hot5
 have ht5 : Thing s5 s2.next [.int .i64 kind, .int .i64 num, bv', .slice none 0 0, .slice none 0 0] := ht5
 have hs25 : Stay s2.next s2 s5 := ((hsp.trans (hst3.weaken (by omega))).trans ⟨by omega, fun j hj => hot4 j (by omega)⟩).trans ⟨by omega, fun j hj => hot5 j (by omega)⟩
 have hs5 : Stay s.next s s5 := hs2.trans (hs25.weaken (by omega))
 have hbo5 : Own s5 1 bv' b.length (ofBytes b) := (hbo.ofPut hnx4 hot4 (fun e => by have := hbF _ e; omega)).ofPut hnx5 hot5 (fun e => by have := hbF _ e; omega)
 have hbi : ∀ j, idOf bv' = some j -> s2.next + 1 ≤ j ∧ j < s5.next := fun j hj => ⟨by have := hbF j hj; omega, hbo5.idlt j hj⟩
 have ht15 := ht12.keeps hs25
 have ht25 := ht2.keeps hs25
 have hL5 := hL.keeps hs5
 have l6 : loadA Try.prog s5 23 (.pointer (some ⟨s.next, 3, some 6⟩)) = some lv := ht15.load agLs (off := 3) (c := 6) rfl (by simp)
 simp -implicitDefEqProofs (disch := omega) only [allW, allR, allL, allB, Nat.sub_self, Nat.add_one_sub_one, Nat.reduceSub, oneOf, evalAll, partsA, optA, Nat.reduceLT, Nat.reduceLeDiff, Nat.reduceEqDiff, Nat.reduceAdd, ↓reduceIte, hn, h0, of3, l6, hL5.lenA Try.underlying23]
 obtain ⟨FF, hFF⟩ : ∃ FF : Value -> Nat -> Prop, FF = fun v j => s5.next ≤ j ∧ ¬ (fun _ => False) j ∧ idOf v ≠ some j := ⟨_, rfl⟩
 have hn2 := hst2.next
 have hn25 := hs25.next
 have ht5lt : s2.next < s5.next := ht5.lt
 refine Comes.loopOut (fun z f s6 => ∃ (i : Nat) (y : Value) (LC : List Value), z = l.length - i ∧ i ≤ l.length ∧ Own s6 5 y i LC ∧ ORows OIs 5 (FF y) s6 (l.take i) LC ∧ Fresh s5.next y ∧ Own s6 1 bv' b.length (ofBytes b) ∧ Thing s6 s.next [.int .i64 kind, .int .i64 num, bv, lv, dv] ∧ Thing s6 s1.next noneC ∧ Thing s6 s2.next [.int .i64 kind, .int .i64 num, bv', y, .slice none 0 0] ∧ Stay s.next s s6 ∧ s5.next ≤ s6.next ∧ f.n = 51 ∧ f.get 1 = .pointer (some ⟨s.next, 0, some 6⟩) ∧ f.get 2 = .pointer (some ⟨s1.next, 0, some 6⟩) ∧ f.get 3 = .pointer (some ⟨s2.next, 0, some 6⟩) ∧ f.get 17 = lv ∧ f.get 18 = .int .i64 (l.length : Nat) ∧ f.get 19 = .int .i64 (i : Nat))
  (fun z f s6 => z = .exit 0 ∧ ∃ (y : Value) (LC : List Value), Own s6 5 y l.length LC ∧ ORows OIs 5 (FF y) s6 l LC ∧ Fresh s5.next y ∧ Own s6 1 bv' b.length (ofBytes b) ∧ Thing s6 s.next [.int .i64 kind, .int .i64 num, bv, lv, dv] ∧ Thing s6 s1.next noneC ∧ Thing s6 s2.next [.int .i64 kind, .int .i64 num, bv', y, .slice none 0 0] ∧ Stay s.next s s6 ∧ s5.next ≤ s6.next ∧ f.n = 51 ∧ f.get 1 = .pointer (some ⟨s.next, 0, some 6⟩) ∧ f.get 2 = .pointer (some ⟨s1.next, 0, some 6⟩) ∧ f.get 3 = .pointer (some ⟨s2.next, 0, some 6⟩))
  ⟨0, .slice none 0 0, [], rfl, by omega, .nil, by rw [List.take_zero]; exact ORows.nil, Fresh.nil _, hbo5, ht15, ht25, ht5, hs5, Nat.le_refl _, by simp only [get_put, n_put, ↓reduceIte, Nat.reduceEqDiff, hn], by simp only [get_put, n_put, ↓reduceIte, Nat.reduceEqDiff], by simp only [get_put, n_put, ↓reduceIte, Nat.reduceEqDiff], by simp only [get_put, n_put, ↓reduceIte, Nat.reduceEqDiff], by simp only [get_put, n_put, ↓reduceIte, Nat.reduceEqDiff], by simp only [get_put, n_put, ↓reduceIte, Nat.reduceEqDiff], by simp only [get_put, n_put, ↓reduceIte, Nat.reduceEqDiff]; rfl⟩ ?_ ?_
 ·clear hn h0 f hself3 ht4 ht5 hot4 hot5 hbo hbo5 ht15 ht25 l0 l1 l2 l6 hlow ht13 hAl hAo hA A
  rintro Q hQ z f s6 ⟨i, y, LC, rfl, hi, hy, hR, hyF, hbv, hb1', hb2', hb3', hst6, hn6, hn, h1, h2, h3, h17, h18, h19⟩
  have hL6 := hL.keeps hst6
  by_cases hlt : i < l.length
  rotate_left
  ·obtain rfl : i = l.length := by omega
   rw [List.take_length] at hR
   have d1 : ¬ ((l.length : Nat) : Int) < ((l.length : Nat) : Int) := by omega
   simp -implicitDefEqProofs (disch := omega) only [allW, allR, oneOf, evalAll, partsA, optA, Nat.reduceLT, Nat.reduceLeDiff, Nat.reduceEqDiff, Nat.reduceAdd, ↓reduceIte, hn, h1, h2, h3, h17, h18, h19, eq_false d1]
   exact hQ _ _ _ ⟨rfl, y, LC, hy, hR, hyF, hbv, hb1', hb2', hb3', hst6, hn6, by simp only [get_put, n_put, ↓reduceIte, Nat.reduceEqDiff, hn], by simp only [get_put, n_put, ↓reduceIte, Nat.reduceEqDiff, h1], by simp only [get_put, n_put, ↓reduceIte, Nat.reduceEqDiff, h2], by simp only [get_put, n_put, ↓reduceIte, Nat.reduceEqDiff, h3]⟩
  have hy2 : idOf y ≠ some s2.next := fun e => by have := hyF _ e; omega
  have d1 : (i : Int) < (l.length : Int) := by omega
  have hix := hL6.indexAddr (P := Try.prog) (k := .i64) (x := (i : Int)) Try.underlying23 szO (by omega) (by omega)
  rw [Int.toNat_natCast] at hix
  have hld := hL6.loadAgg (P := Try.prog) agO szO hlt
  have hoi := (rl.row i hlt).keeps hst6
  obtain ⟨xs, hxs⟩ : ∃ xs, xs = (lc.drop (i * 5)).take 5 := ⟨_, rfl⟩
  rw [← hxs] at hld hoi
  have hxl := hoi.len
  simp -implicitDefEqProofs (disch := omega) only [allW, allR, oneOf, evalAll, partsA, optA, Nat.reduceLT, Nat.reduceLeDiff, Nat.reduceEqDiff, Nat.reduceAdd, ↓reduceIte, hn, h1, h2, h3, h17, h18, h19, eq_true d1, hix, hld, hoi.self, zO, plO]
  refine wstep_newPtr ?_
  intro s7 ht7 hst7 hnx7
  simp -implicitDefEqProofs (disch := omega) only [allW, allR, oneOf, evalAll, partsA, optA, Nat.reduceLT, Nat.reduceLeDiff, Nat.reduceEqDiff, Nat.reduceAdd, ↓reduceIte, hn, h1, h2, h3, h17, h18, h19, hd6]
  refine wstep_storeAll szO (by decide) ht7 rfl rfl hxl hoi.ok ?_
  intro s8 ht8 hnx8 hot8
  have ht8 : Thing s8 s6.next xs := ht8
  have hs68 : Stay s6.next s6 s8 := hst7.trans ⟨by omega, fun j hj => hot8 j (by omega)⟩
  have hb1' := hb1'.keeps hs68
  have hb2' := hb2'.keeps hs68
  have hb3' := hb3'.keeps hs68
  have hy := hy.keeps hs68
  have hR := hR.keeps rowedO hs68
  have hbv := hbv.keeps hs68
  have hoi := hoi.keeps hs68
  simp -implicitDefEqProofs (disch := omega) only [allW, allR, oneOf, evalAll, partsA, optA, Nat.reduceLT, Nat.reduceLeDiff, Nat.reduceEqDiff, Nat.reduceAdd, ↓reduceIte, hn, h1, h2, h3, h17, h18, h19]
  obtain ⟨A, hA⟩ : ∃ A : Nat -> Bool, A = fun j => decide (j < s8.next) := ⟨_, rfl⟩
  have hAl : ∀ j, A j = true -> j < s8.next := by
   intro j h
   rw [hA] at h
   exact of_decide_eq_true h
  have hAo : ∀ j, j < s8.next -> A j = true := fun j h => by rw [hA]; exact decide_eq_true h
  refine LB.Drawn.looseK A hAl 1 1 (by kernel_rfl) (by kernel_rfl) ?_
  have hsp := Stay.spare s8 1
  have hnT : (spare s8 1).next = s8.next + 1 := spare_next _ _
  have hlow3 : ∀ k, LA.lowV A (some (.pointer (some ⟨s2.next, k, some 6⟩))) = true := fun k => LA.lowV_ptr (A := A) (i := s2.next) (hAo _ hb3'.lt)
  have hlow5 : ∀ k, LA.lowV A (some (.pointer (some ⟨s6.next, k, some 6⟩))) = true := fun k => LA.lowV_ptr (A := A) (i := s6.next) (hAo _ ht8.lt)
  have l8 : loadA Try.prog (spare s8 1) 23 (.pointer (some ⟨s2.next, 3, some 6⟩)) = some y := (hb3'.keeps hsp).load agLs (off := 3) (c := 6) rfl (by simp)
  have l9 : loadA Try.prog (spare s8 1) 26 (.pointer (some ⟨s6.next, 0, some 6⟩)) = some (.agg xs.toArray) := Thing.loadAll agO (by rw [hxl]; exact szO) (ht8.keeps hsp) (by rw [hxl])
  have hoi := hoi.keeps hsp
  simp -implicitDefEqProofs (disch := omega) only [allW, allR, allL, allB, Nat.sub_self, Nat.add_one_sub_one, Nat.reduceSub, oneOf, evalAll, partsA, optA, Nat.reduceLT, Nat.reduceLeDiff, Nat.reduceEqDiff, Nat.reduceAdd, ↓reduceIte, hn, h1, h2, h3, h17, h18, h19, of3, hlow3, hlow5, l8, l9, hy.self, hoi.self]
  refine (ih l[i] (by have := O.items_lt (k := kind) (n := num) (b := b) (l := l) (d := d) (List.getElem_mem hlt); omega) F (spare s8 1) _ hoi (hL1 _ (List.getElem_mem hlt))).mono ?_
  intro v9 s9 h9
  obtain ⟨cs7, rfl, ho7, hst9⟩ := h9.is
  have hn9 := hst9.next
  refine ⟨fun _ => LA.Stay.toA hAl (hst9.weaken (by omega)), ?_⟩
  have hl7 := ho7.len
  simp -implicitDefEqProofs (disch := omega) only [allW, allR, allL, allB, Nat.sub_self, Nat.add_one_sub_one, Nat.reduceSub, oneOf, evalAll, partsA, optA, Nat.reduceLT, Nat.reduceLeDiff, Nat.reduceEqDiff, Nat.reduceAdd, ↓reduceIte, hn, h1, h2, h3, h17, h18, h19, ho7.self, buildAgg1 (cs := cs7.toArray) Try.underlying23 szO zO plO rfl hl7 (by decide)]
  refine LB.smake_newSlice (base := s8.next) hl7 (by omega) (Nat.le_refl _) ?_
  intro bs sa hbs hid hsta hnxa hota
  have hst8a : Stay s8.next s8 sa := (hsp.trans (hst9.weaken (by omega))).trans hsta
  have hna := hst8a.next
  have ho8 : OIs (FF y) sa cs7 l[i] := by
   refine (ho7.turns (u := .pointer (some ⟨s8.next, 0, none⟩)) (Turns.ofPut hnxa hota) (fun j hj e => ?_)).mono (fun j hj => ?_)
   ·have e : some s8.next = some j := e
    injection e with e; omega
   ·rw [hFF]; exact ⟨by omega, fun h => h, fun e => by have := hy.idlt _ e; omega⟩
  simp -implicitDefEqProofs (disch := omega) only [allW, allR, allL, allB, Nat.sub_self, Nat.add_one_sub_one, Nat.reduceSub, oneOf, evalAll, partsA, optA, Nat.reduceLT, Nat.reduceLeDiff, Nat.reduceEqDiff, Nat.reduceAdd, ↓reduceIte, hn, h1, h2, h3, h17, h18, h19, hy.self]
  refine LB.sstep_append Try.underlying23 Try.underlying23 (.inl ⟨_, rfl⟩) szO byO zO rfl (hy.keeps hst8a) hbs.sees.src hl7 (by decide) ho8.ok (by omega) (by omega) (base := s5.next) hyF (by omega) (fun h => absurd rfl h) (fun j hj => by have := hAl j hj; omega) ?_
  intro y' sb hyb hFb hutb hor
  have hnb := hutb.next
  have hR8 := hR.keeps rowedO hst8a
  rw [hFF] at hR8 ho8
  have hR9 := hR8.grow rowedO hl7 ho8 hutb hor
  rw [show (fun j => s5.next ≤ j ∧ ¬ (fun _ => False) j ∧ idOf y' ≠ some j) = FF y' by rw [hFF]] at hR9
  have hyl : ∀ j, idOf y = some j -> s5.next ≤ j := hyF
  have hbvb : Own sb 1 bv' b.length (ofBytes b) := (hbv.keeps hst8a).turns hutb (fun j hj e => by have := (hbi j hj).2; have := hyl _ e; omega)
  have hyb2 : idOf y' ≠ some s2.next := fun e => by have := hFb _ e; omega
  simp -implicitDefEqProofs (disch := omega) only [allW, allR, allL, allB, Nat.sub_self, Nat.add_one_sub_one, Nat.reduceSub, oneOf, evalAll, partsA, optA, Nat.reduceLT, Nat.reduceLeDiff, Nat.reduceEqDiff, Nat.reduceAdd, ↓reduceIte, hn, h1, h2, h3, h17, h18, h19, of3, hlow3]
  refine LB.sstep_storeN szLs (by decide) ((hb3'.keeps hst8a).turns hutb hy2) (off := 3) (c := 6) rfl (vs := [y']) hyb.sees.cell1 rfl (by simp) (by simp [hyb.sees.okCell]) (fun h => absurd rfl h) ?_
  intro sc htc hnxc hotc
  have htc : Thing sc s2.next [.int .i64 kind, .int .i64 num, bv', y', .slice none 0 0] := htc
  have huc : Turns (.pointer (some ⟨s2.next, 0, none⟩)) sb sc := Turns.ofPut hnxc hotc
  have hnec : ∀ j, FF y' j -> idOf (.pointer (some ⟨s2.next, 0, none⟩)) ≠ some j := fun j hj e => by
   have e : some s2.next = some j := e
   injection e with e
   rw [hFF] at hj; have := hj.1; omega
  simp -implicitDefEqProofs (disch := omega) only [allW, allR, allL, allB, Nat.sub_self, Nat.add_one_sub_one, Nat.reduceSub, oneOf, evalAll, partsA, optA, Nat.reduceLT, Nat.reduceLeDiff, Nat.reduceEqDiff, Nat.reduceAdd, ↓reduceIte, hn, h1, h2, h3, h17, h18, h19, wrapI]
  refine wround_next (l.length - (i + 1)) (by omega) ⟨i + 1, y', LC ++ cs7, rfl, by omega, hyb.ofPut hnxc hotc hyb2, ?_, hFb, hbvb.ofPut hnxc hotc (fun e => by have := (hbi _ e).1; omega), ((hb1'.keeps hst8a).turns hutb (fun e => by have := hyl _ e; omega)).ofPut hnxc hotc (by omega), ((hb2'.keeps hst8a).turns hutb (fun e => by have := hyl _ e; omega)).ofPut hnxc hotc (by omega), htc, ?_, by omega, by simp only [get_put, n_put, ↓reduceIte, Nat.reduceEqDiff, hn], by simp only [get_put, n_put, ↓reduceIte, Nat.reduceEqDiff, h1], by simp only [get_put, n_put, ↓reduceIte, Nat.reduceEqDiff, h2], by simp only [get_put, n_put, ↓reduceIte, Nat.reduceEqDiff, h3], by simp only [get_put, n_put, ↓reduceIte, Nat.reduceEqDiff, h17], by simp only [get_put, n_put, ↓reduceIte, Nat.reduceEqDiff, h18], by simp only [get_put, n_put, ↓reduceIte, Nat.reduceEqDiff]; rfl⟩
  ·rw [List.take_add_one, List.getElem?_eq_getElem hlt]
   exact hR9.turns rowedO huc hnec
  ·exact (((hst6.trans (hs68.weaken hst6.next)).trans (hst8a.weaken (by have := hst6.next; have := hs68.next; omega))).trans ((hutb.keeps hyF (by omega)).weaken hs5.next)).trans ⟨by omega, fun j hj => hotc j (by omega)⟩
 clear hn h0 f hself3 ht4 ht5 hot4 hot5 hbo hbo5 ht15 ht25 l0 l1 l2 l6 hlow ht13 hAl hAo hA A
 rintro z f s6 ⟨rfl, y, LC, hyo, hR, hyF, hbv, hb1', hb2', hb3', hst6, hn6, hn, h1, h2, h3⟩
 have hD6 := hD.keeps hst6
 have l6 : loadA Try.prog s6 24 (.pointer (some ⟨s.next, 4, some 6⟩)) = some dv := hb1'.load agDs (off := 4) (c := 6) rfl (by simp)
 simp -implicitDefEqProofs (disch := omega) only [allW, allR, oneOf, evalAll, partsA, optA, Nat.reduceLT, Nat.reduceLeDiff, Nat.reduceEqDiff, Nat.reduceAdd, ↓reduceIte, hn, h1, h2, h3, of4, l6, hD6.lenA Try.underlying24]
 have hyi : ∀ j, idOf y = some j -> s5.next ≤ j ∧ j < s6.next := fun j hj => ⟨hyF j hj, hyo.idlt j hj⟩
 have hRI := hR.below rowedO
 obtain ⟨FI, hFI⟩ : ∃ FI : Nat -> Prop, FI = fun j => FF y j ∧ j < s6.next := ⟨_, rfl⟩
 rw [← hFI] at hRI
 have hFIl : ∀ j, FI j -> s5.next ≤ j ∧ j < s6.next ∧ idOf y ≠ some j := fun j hj => by rw [hFI, hFF] at hj; exact ⟨hj.1.1, hj.2, hj.1.2.2⟩
 obtain ⟨FE, hFE⟩ : ∃ FE : Value -> Nat -> Prop, FE = fun v j => s6.next ≤ j ∧ ¬ (fun _ => False) j ∧ idOf v ≠ some j := ⟨_, rfl⟩
 clear hFI hR l6
 clear hFF FF
 refine Comes.loopOut (fun z f t6 => ∃ (i : Nat) (w : Value) (DC : List Value), z = d.length - i ∧ i ≤ d.length ∧ Own t6 6 w i DC ∧ ORows EntIs 6 (FE w) t6 (d.take i) DC ∧ Fresh s6.next w ∧ Own t6 1 bv' b.length (ofBytes b) ∧ Own t6 5 y l.length LC ∧ ORows OIs 5 FI t6 l LC ∧ Thing t6 s1.next noneC ∧ Thing t6 s2.next [.int .i64 kind, .int .i64 num, bv', y, w] ∧ Stay s.next s t6 ∧ s6.next ≤ t6.next ∧ f.n = 51 ∧ f.get 2 = .pointer (some ⟨s1.next, 0, some 6⟩) ∧ f.get 3 = .pointer (some ⟨s2.next, 0, some 6⟩) ∧ f.get 32 = dv ∧ f.get 33 = .int .i64 (d.length : Nat) ∧ f.get 34 = .int .i64 (i : Nat))
  (fun z f t6 => z = .exit 2 ∧ ∃ (w : Value) (DC : List Value), Own t6 6 w d.length DC ∧ ORows EntIs 6 (FE w) t6 d DC ∧ Fresh s6.next w ∧ Own t6 1 bv' b.length (ofBytes b) ∧ Own t6 5 y l.length LC ∧ ORows OIs 5 FI t6 l LC ∧ Thing t6 s1.next noneC ∧ Thing t6 s2.next [.int .i64 kind, .int .i64 num, bv', y, w] ∧ Stay s.next s t6 ∧ s6.next ≤ t6.next ∧ f.n = 51 ∧ f.get 2 = .pointer (some ⟨s1.next, 0, some 6⟩) ∧ f.get 3 = .pointer (some ⟨s2.next, 0, some 6⟩))
  ⟨0, .slice none 0 0, [], rfl, by omega, .nil, by rw [List.take_zero]; exact ORows.nil, Fresh.nil _, hbv, hyo, hRI, hb2', hb3', hst6, Nat.le_refl _, by simp only [get_put, n_put, ↓reduceIte, Nat.reduceEqDiff, hn], by simp only [get_put, n_put, ↓reduceIte, Nat.reduceEqDiff, h2], by simp only [get_put, n_put, ↓reduceIte, Nat.reduceEqDiff, h3], by simp only [get_put, n_put, ↓reduceIte, Nat.reduceEqDiff], by simp only [get_put, n_put, ↓reduceIte, Nat.reduceEqDiff], by simp only [get_put, n_put, ↓reduceIte, Nat.reduceEqDiff]; rfl⟩ ?_ ?_
 ·clear hn h1 h2 h3 f hb1' hb2' hb3' hbv hyo hRI hyF
  rintro Q hQ z f t6 ⟨i, w, DC, rfl, hi, hw, hRE, hwF, hbv, hyo, hRI, hb2', hb3', hst6, hn7, hn, h2, h3, h32, h33, h34⟩
  have hD6 := hD.keeps hst6
  by_cases hlt : i < d.length
  rotate_left
  ·obtain rfl : i = d.length := by omega
   rw [List.take_length] at hRE
   have d1 : ¬ ((d.length : Nat) : Int) < ((d.length : Nat) : Int) := by omega
   simp -implicitDefEqProofs (disch := omega) only [allW, allR, oneOf, evalAll, partsA, optA, Nat.reduceLT, Nat.reduceLeDiff, Nat.reduceEqDiff, Nat.reduceAdd, ↓reduceIte, hn, h2, h3, h32, h33, h34, eq_false d1]
   exact hQ _ _ _ ⟨rfl, w, DC, hw, hRE, hwF, hbv, hyo, hRI, hb2', hb3', hst6, hn7, by simp only [get_put, n_put, ↓reduceIte, Nat.reduceEqDiff, hn], by simp only [get_put, n_put, ↓reduceIte, Nat.reduceEqDiff, h2], by simp only [get_put, n_put, ↓reduceIte, Nat.reduceEqDiff, h3]⟩
  have hw2 : idOf w ≠ some s2.next := fun e => by have := hwF _ e; omega
  have d1 : (i : Int) < (d.length : Int) := by omega
  have hix := hD6.indexAddr (P := Try.prog) (k := .i64) (x := (i : Int)) Try.underlying24 szE (by omega) (by omega)
  rw [Int.toNat_natCast] at hix
  have hld := hD6.loadAgg (P := Try.prog) agE szE hlt
  obtain ⟨r, hr1, hr2, hr3⟩ := rd.row i hlt
  have hrl := hr2.len
  have hoi := hr2.keeps hst6
  rw [hr1] at hld
  obtain ⟨xs, hxs⟩ : ∃ xs, xs = Value.string ⟨(d[i].1).toArray⟩ :: r := ⟨_, rfl⟩
  rw [← hxs] at hld
  have hxl : xs.length = 6 := by rw [hxs]; simp [hrl]
  have hxok : xs.all okCell = true := by rw [hxs, List.all_cons, hr2.ok]; rfl
  have hself6 : valEq (.agg xs.toArray) (.agg xs.toArray) = true := by
   have := hr2.self
   rw [hxs]
   match r, hrl, this with
   | [a, b, c, d, e], _, this =>
    simp [valEq, valEqL] at this ⊢
    exact ⟨by simp [valEq1], this⟩
  simp -implicitDefEqProofs (disch := omega) only [allW, allR, oneOf, evalAll, partsA, optA, Nat.reduceLT, Nat.reduceLeDiff, Nat.reduceEqDiff, Nat.reduceAdd, ↓reduceIte, hn, h2, h3, h32, h33, h34, eq_true d1, hix, hld, hself6, zE, plE]
  refine wstep_newPtr ?_
  intro s7 ht7 hst7 hnx7
  have hd7 : noneE.length + 1 = 7 := rfl
  simp -implicitDefEqProofs (disch := omega) only [allW, allR, oneOf, evalAll, partsA, optA, Nat.reduceLT, Nat.reduceLeDiff, Nat.reduceEqDiff, Nat.reduceAdd, ↓reduceIte, hn, h2, h3, h32, h33, h34, hd7]
  refine wstep_storeAll szE (by decide) ht7 rfl rfl hxl hxok ?_
  intro s8 ht8 hnx8 hot8
  have ht8 : Thing s8 t6.next xs := ht8
  have hs68 : Stay t6.next t6 s8 := hst7.trans ⟨by omega, fun j hj => hot8 j (by omega)⟩
  have hb2' := hb2'.keeps hs68
  have hb3' := hb3'.keeps hs68
  have hw := hw.keeps hs68
  have hRE := hRE.keeps rowedE hs68
  have hRI := hRI.keeps rowedO hs68
  have hbv := hbv.keeps hs68
  have hyo := hyo.keeps hs68
  have hoi := hoi.keeps hs68
  have hn68 := hs68.next
  simp -implicitDefEqProofs (disch := omega) only [allW, allR, oneOf, evalAll, partsA, optA, Nat.reduceLT, Nat.reduceLeDiff, Nat.reduceEqDiff, Nat.reduceAdd, ↓reduceIte, hn, h2, h3, h32, h33, h34]
  obtain ⟨A, hA⟩ : ∃ A : Nat -> Bool, A = fun j => decide (j < s8.next) := ⟨_, rfl⟩
  have hAl : ∀ j, A j = true -> j < s8.next := by
   intro j h
   rw [hA] at h
   exact of_decide_eq_true h
  have hAo : ∀ j, j < s8.next -> A j = true := fun j h => by rw [hA]; exact decide_eq_true h
  refine LB.Drawn.looseK A hAl 1 1 (by kernel_rfl) (by kernel_rfl) ?_
  have hsp := Stay.spare s8 1
  have hnT : (spare s8 1).next = s8.next + 1 := spare_next _ _
  have hlow3 : ∀ k, LA.lowV A (some (.pointer (some ⟨s2.next, k, some 6⟩))) = true := fun k => LA.lowV_ptr (A := A) (i := s2.next) (hAo _ hb3'.lt)
  have hlow7 : ∀ k, LA.lowV A (some (.pointer (some ⟨t6.next, k, some 7⟩))) = true := fun k => LA.lowV_ptr (A := A) (i := t6.next) (hAo _ ht8.lt)
  have l8 : loadA Try.prog (spare s8 1) 24 (.pointer (some ⟨s2.next, 4, some 6⟩)) = some w := (hb3'.keeps hsp).load agDs (off := 4) (c := 6) rfl (by simp)
  have l9 : loadA Try.prog (spare s8 1) 9 (.pointer (some ⟨t6.next, 0, some 7⟩)) = some (.string ⟨(d[i].1).toArray⟩) := by
   have := (ht8.keeps hsp).load (P := Try.prog) agStr (off := 0) (c := 7) (by rw [hxl]) (by omega)
   rw [this, hxs]; rfl
  have l10 : loadA Try.prog (spare s8 1) 26 (.pointer (some ⟨t6.next, 1, some 7⟩)) = some (.agg r.toArray) := by
   have := Thing.loadMid (P := Try.prog) agO szO (ht8.keeps hsp) (off := 1) (c := 7) (by rw [hxl]) (by omega)
   rw [this, hxs, List.drop_succ_cons, List.drop_zero, List.take_of_length_le (by omega)]
  have hoi := hoi.keeps hsp
  simp -implicitDefEqProofs (disch := omega) only [allW, allR, allL, allB, Nat.sub_self, Nat.add_one_sub_one, Nat.reduceSub, oneOf, evalAll, partsA, optA, Nat.reduceLT, Nat.reduceLeDiff, Nat.reduceEqDiff, Nat.reduceAdd, ↓reduceIte, hn, h2, h3, h32, h33, h34, of4, ofE0, ofE1, hlow3, hlow7, l8, l9, l10, hw.self, hoi.self, valEq_string]
  refine (ih d[i].2 (by have := O.ents_lt (k := kind) (n := num) (b := b) (l := l) (d := d) (List.getElem_mem hlt); omega) F (spare s8 1) _ hoi (hD1 _ (List.getElem_mem hlt))).mono ?_
  intro v9 s9 h9
  obtain ⟨cs7, rfl, ho7, hst9⟩ := h9.is
  have hn9 := hst9.next
  refine ⟨fun _ => LA.Stay.toA hAl (hst9.weaken (by omega)), ?_⟩
  have hl7 := ho7.len
  obtain ⟨es, hes⟩ : ∃ es, es = Value.string ⟨(d[i].1).toArray⟩ :: cs7 := ⟨_, rfl⟩
  have hel : es.length = 6 := by rw [hes]; simp [hl7]
  have hself7 : valEq (.agg es.toArray) (.agg es.toArray) = true := by
   have := ho7.self
   rw [hes]
   match cs7, hl7, this with
   | [a, b, c, d, e], _, this =>
    simp [valEq, valEqL] at this ⊢
    exact ⟨by simp [valEq1], this⟩
  have hbE := bE d[i].1 hl7
  rw [← hes] at hbE
  simp -implicitDefEqProofs (disch := omega) only [allW, allR, allL, allB, Nat.sub_self, Nat.add_one_sub_one, Nat.reduceSub, oneOf, evalAll, partsA, optA, Nat.reduceLT, Nat.reduceLeDiff, Nat.reduceEqDiff, Nat.reduceAdd, ↓reduceIte, hn, h2, h3, h32, h33, h34, ho7.self, hbE, hself7, buildAgg1 (cs := es.toArray) Try.underlying24 szE zE plE rfl hel (by decide)]
  refine LB.smake_newSlice (base := s8.next) hel (by omega) (Nat.le_refl _) ?_
  intro bs sa hbs hid hsta hnxa hota
  have hst8a : Stay s8.next s8 sa := (hsp.trans (hst9.weaken (by omega))).trans hsta
  have hna := hst8a.next
  have ho8 : EntIs (FE w) sa es d[i] := by
   refine ⟨cs7, hes, (ho7.turns (u := .pointer (some ⟨s8.next, 0, none⟩)) (Turns.ofPut hnxa hota) (fun j hj e => ?_)).mono (fun j hj => ?_), hr3⟩
   ·have e : some s8.next = some j := e
    injection e with e; omega
   ·rw [hFE]; exact ⟨by omega, fun h => h, fun e => by have := hw.idlt _ e; omega⟩
  have hesok : es.all okCell = true := by rw [hes, List.all_cons, ho7.ok]; rfl
  simp -implicitDefEqProofs (disch := omega) only [allW, allR, allL, allB, Nat.sub_self, Nat.add_one_sub_one, Nat.reduceSub, oneOf, evalAll, partsA, optA, Nat.reduceLT, Nat.reduceLeDiff, Nat.reduceEqDiff, Nat.reduceAdd, ↓reduceIte, hn, h2, h3, h32, h33, h34, hw.self]
  refine LB.sstep_append Try.underlying24 Try.underlying24 (.inl ⟨_, rfl⟩) szE byE zE rfl (hw.keeps hst8a) hbs.sees.src hel (by decide) hesok (by omega) (by omega) (base := s6.next) hwF (by omega) (fun h => absurd rfl h) (fun j hj => by have := hAl j hj; omega) ?_
  intro w' sb hwb hFb hutb hor
  have hnb := hutb.next
  have hRE8 := hRE.keeps rowedE hst8a
  rw [hFE] at hRE8 ho8
  have hRE9 := hRE8.grow rowedE hel ho8 hutb hor
  rw [show (fun j => s6.next ≤ j ∧ ¬ (fun _ => False) j ∧ idOf w' ≠ some j) = FE w' by rw [hFE]] at hRE9
  have hwl : ∀ j, idOf w = some j -> s6.next ≤ j := hwF
  have hbvb : Own sb 1 bv' b.length (ofBytes b) := (hbv.keeps hst8a).turns hutb (fun j hj e => by have := (hbi j hj).2; have := hwl _ e; omega)
  have hyob : Own sb 5 y l.length LC := (hyo.keeps hst8a).turns hutb (fun j hj e => by have := (hyi j hj).2; have := hwl _ e; omega)
  have hRIb := (hRI.keeps rowedO hst8a).turns rowedO hutb (fun j hj e => by have := (hFIl j hj).2.1; have := hwl _ e; omega)
  have hwb2 : idOf w' ≠ some s2.next := fun e => by have := hFb _ e; omega
  simp -implicitDefEqProofs (disch := omega) only [allW, allR, allL, allB, Nat.sub_self, Nat.add_one_sub_one, Nat.reduceSub, oneOf, evalAll, partsA, optA, Nat.reduceLT, Nat.reduceLeDiff, Nat.reduceEqDiff, Nat.reduceAdd, ↓reduceIte, hn, h2, h3, h32, h33, h34, of4, hlow3]
  refine LB.sstep_storeN szDs (by decide) ((hb3'.keeps hst8a).turns hutb hw2) (off := 4) (c := 6) rfl (vs := [w']) hwb.sees.cell1 rfl (by simp) (by simp [hwb.sees.okCell]) (fun h => absurd rfl h) ?_
  intro sc htc hnxc hotc
  have htc : Thing sc s2.next [.int .i64 kind, .int .i64 num, bv', y, w'] := htc
  have huc : Turns (.pointer (some ⟨s2.next, 0, none⟩)) sb sc := Turns.ofPut hnxc hotc
  have hnec : ∀ j, s5.next ≤ j -> idOf (.pointer (some ⟨s2.next, 0, none⟩)) ≠ some j := fun j hj e => by
   have e : some s2.next = some j := e
   injection e with e
   omega
  simp -implicitDefEqProofs (disch := omega) only [allW, allR, allL, allB, Nat.sub_self, Nat.add_one_sub_one, Nat.reduceSub, oneOf, evalAll, partsA, optA, Nat.reduceLT, Nat.reduceLeDiff, Nat.reduceEqDiff, Nat.reduceAdd, ↓reduceIte, hn, h2, h3, h32, h33, h34, wrapI]
  refine wround_next (d.length - (i + 1)) (by omega) ⟨i + 1, w', DC ++ es, rfl, by omega, hwb.ofPut hnxc hotc hwb2, ?_, hFb, hbvb.ofPut hnxc hotc (fun e => by have := (hbi _ e).1; omega), hyob.ofPut hnxc hotc (fun e => by have := (hyi _ e).1; omega), hRIb.turns rowedO huc (fun j hj => hnec j (hFIl j hj).1), ((hb2'.keeps hst8a).turns hutb (fun e => by have := hwl _ e; omega)).ofPut hnxc hotc (by omega), htc, ?_, by omega, by simp only [get_put, n_put, ↓reduceIte, Nat.reduceEqDiff, hn], by simp only [get_put, n_put, ↓reduceIte, Nat.reduceEqDiff, h2], by simp only [get_put, n_put, ↓reduceIte, Nat.reduceEqDiff, h3], by simp only [get_put, n_put, ↓reduceIte, Nat.reduceEqDiff, h32], by simp only [get_put, n_put, ↓reduceIte, Nat.reduceEqDiff, h33], by simp only [get_put, n_put, ↓reduceIte, Nat.reduceEqDiff]; rfl⟩
  ·rw [List.take_add_one, List.getElem?_eq_getElem hlt]
   exact hRE9.turns rowedE huc (fun j hj => hnec j (by rw [hFE] at hj; have := hj.1; omega))
  ·exact (((hst6.trans (hs68.weaken hst6.next)).trans (hst8a.weaken (by have := hst6.next; omega))).trans ((hutb.keeps hwF (by omega)).weaken (by have := hs5.next; omega))).trans ⟨by omega, fun j hj => hotc j (by omega)⟩
 clear hn h1 h2 h3 f hb1' hb2' hb3' hbv hyo hRI
 rintro z f t6 ⟨rfl, w, DC, hw, hRE, hwF, hbv, hyo, hRI, hb2', hb3', hst7, hn7, hn, h2, h3⟩
 have la := Thing.loadAll (P := Try.prog) (cs := [.int .i64 kind, .int .i64 num, bv', y, w]) agO szO hb3' (c := 6) rfl
 have ok1 := hbv.sees.okCell
 have ok2 := hyo.sees.okCell
 have ok3 := hw.sees.okCell
 simp -implicitDefEqProofs (disch := omega) only [allW, allR, oneOf, evalAll, partsA, optA, Nat.reduceLT, Nat.reduceLeDiff, Nat.reduceEqDiff, Nat.reduceAdd, ↓reduceIte, hn, h2, h3, la]
 refine wstep_storeAll szO (by decide) hb2' rfl rfl rfl (by simp only [List.all_cons, List.all_nil, ok1, ok2, ok3]; rfl) ?_
 intro s7 ht7 hnx7 hot7
 have l7 := Thing.loadAll (P := Try.prog) (cs := [.int .i64 kind, .int .i64 num, bv', y, w]) agO szO ht7 (c := 6) rfl
 simp -implicitDefEqProofs (disch := omega) only [allW, allR, wfn_ret, wfn_normal, oneOf, evalAll, partsA, optA, Nat.reduceLT, Nat.reduceLeDiff, Nat.reduceEqDiff, Nat.reduceAdd, ↓reduceIte, hn, h2, l7, resultsA_cell, Try.results41]
 have hu7 : Turns (.pointer (some ⟨s1.next, 0, none⟩)) t6 s7 := Turns.ofPut hnx7 hot7
 have hne7 : ∀ j, s5.next ≤ j -> idOf (.pointer (some ⟨s1.next, 0, none⟩)) ≠ some j := fun j hj e => by
  have e : some s1.next = some j := e
  injection e with e
  omega
 have hsl := hs5.next
 refine ⟨bv', y, w, LC, DC, rfl, hbv.ofPut hnx7 hot7 (fun e => by have := (hbi _ e).1; omega), hyo.ofPut hnx7 hot7 (fun e => by have := (hyi _ e).1; omega), hw.ofPut hnx7 hot7 (fun e => by have := hwF _ e; omega), fun j hj => by have := (hbi j hj).1; have := hs2.next; omega, fun j hj => by have := (hyi j hj).1; omega, fun j hj => by have := hwF j hj; omega, fun j h1 h2 => by have := (hbi j h1).2; have := (hyi j h2).1; omega, fun j h1 h2 => by have := (hbi j h1).2; have := hwF j h2; omega, fun j h1 h2 => by have := (hyi j h1).2; have := hwF j h2; omega, ?_, ?_, hst7.trans ⟨by omega, fun j hj => hot7 j (by have := hst1.next; omega)⟩⟩
 ·exact (hRI.turns rowedO hu7 (fun j hj => hne7 j (hFIl j hj).1)).mono rowedO (fun j hj => ⟨by have := (hFIl j hj).1; omega, fun e => by have := (hbi j e).2; have := (hFIl j hj).1; omega, (hFIl j hj).2.2, fun e => by have := hwF j e; have := (hFIl j hj).2.1; omega⟩)
 ·exact (hRE.turns rowedE hu7 (fun j hj => hne7 j (by rw [hFE] at hj; have := hj.1; omega))).mono rowedE (fun j hj => by rw [hFE] at hj; exact ⟨by have := hj.1; omega, fun e => by have := (hbi j e).2; have := hj.1; omega, fun e => by have := (hyi j e).2; have := hj.1; omega, hj.2.2⟩)
theorem copyO {lib : Prims} (hl : lib.at 41 = none) (hl1 : lib.at 42 = none) (N : Nat) (o : O) (hN : SizeOf.sizeOf o ≤ N) (F : Nat -> Prop) (s : ASt) (cs : List Value) (ho : OIs F s cs o) (hsm : Small o) :
  Runs Try.prog lib 41 [.agg cs.toArray] s (CopyC s o) := copyF hl hl1 N o hN F s cs ho hsm.fit
end Go.Proofs.Ythlbahnfimigcaa