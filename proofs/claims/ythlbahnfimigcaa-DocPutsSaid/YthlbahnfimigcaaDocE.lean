import Derived.Test.YthlbahnfimigcaaObjU
import Derived.Test.YthlbahnfimigcaaCosW
import Derived.Test.YthlbahnfimigcaaCosO
import Derived.Test.YthlbahnfimigcaaCosM
import Derived.Test.YthlbahnfimigcaaMapJ
import Derived.Test.YthlbahnfimigcaaPre
set_option linter.unusedSimpArgs false
set_option linter.unusedVariables false
set_option maxRecDepth 100000
namespace Go.Cl
structure Dc where
 minor : Int
 mark : List UInt8
 tail : Int
 trailer : O
 items : List (Int × O)
def ItIs (F : Nat -> Prop) (s : ASt) (cs : List Value) (e : Int × O) : Prop := ∃ r, cs = .int .i64 e.1 :: r ∧ OIs F s r e.2
theorem rowedI : Rowed ItIs := ⟨fun ⟨r, h1, h2⟩ k => ⟨r, h1, h2.keeps k⟩, fun ⟨r, h1, h2⟩ k => ⟨r, h1, h2.mono k⟩, fun ⟨r, h1, h2⟩ k n => ⟨r, h1, h2.turns k n⟩, fun ⟨r, h1, h2⟩ => ⟨r, h1, h2.lows⟩⟩
theorem ItIs.len {F : Nat -> Prop} {s : ASt} {cs : List Value} {e : Int × O} (h : ItIs F s cs e) : cs.length = 6 := by
 obtain ⟨r, rfl, h⟩ := h; simp [h.len]
theorem ItIs.ok {F : Nat -> Prop} {s : ASt} {cs : List Value} {e : Int × O} (h : ItIs F s cs e) : cs.all okCell = true := by
 obtain ⟨r, rfl, h⟩ := h; rw [List.all_cons, h.ok]; rfl
structure DocIs (F : Nat -> Prop) (s : ASt) (mv : Value) (tc : List Value) (iv : Value) (ic : List Value) (D : Dc) : Prop where
 mark : Sees s 1 mv D.mark.length (ofBytes D.mark)
 markF : Foot F mv
 trailer : OIs F s tc D.trailer
 items : Sees s 6 iv D.items.length ic
 itemsF : Foot F iv
 rows : ORows ItIs 6 F s D.items ic
def docC (D : Dc) (mv : Value) (tc : List Value) (iv : Value) : List Value := .int .i64 D.minor :: mv :: .int .i64 D.tail :: (tc ++ [iv])
theorem docC_len {F : Nat -> Prop} {s : ASt} {mv iv : Value} {tc ic : List Value} {D : Dc} (h : DocIs F s mv tc iv ic D) : (docC D mv tc iv).length = 9 := by
 simp [docC, h.trailer.len]
theorem docC_ok {F : Nat -> Prop} {s : ASt} {mv iv : Value} {tc ic : List Value} {D : Dc} (h : DocIs F s mv tc iv ic D) : (docC D mv tc iv).all okCell = true := by
 have h1 := h.mark.okCell
 have h2 := h.trailer.ok
 have h3 := h.items.okCell
 simp only [docC, List.all_cons, List.all_append, List.all_nil, h1, h2, h3]; rfl
theorem DocIs.keeps {F : Nat -> Prop} {s s' : ASt} {mv iv : Value} {tc ic : List Value} {D : Dc} (h : DocIs F s mv tc iv ic D) (k : Stay s.next s s') : DocIs F s' mv tc iv ic D :=
 ⟨h.mark.keeps k, h.markF, h.trailer.keeps k, h.items.keeps k, h.itemsF, h.rows.keeps rowedI k⟩
theorem DocIs.mono {F G : Nat -> Prop} {s : ASt} {mv iv : Value} {tc ic : List Value} {D : Dc} (h : DocIs F s mv tc iv ic D) (k : ∀ j, F j -> G j) : DocIs G s mv tc iv ic D :=
 ⟨h.mark, h.markF.mono k, h.trailer.mono k, h.items, h.itemsF.mono k, h.rows.mono rowedI k⟩
theorem DocIs.turns {F : Nat -> Prop} {s s' : ASt} {u mv iv : Value} {tc ic : List Value} {D : Dc} (h : DocIs F s mv tc iv ic D) (k : Turns u s s') (hne : ∀ j, F j -> idOf u ≠ some j) : DocIs F s' mv tc iv ic D :=
 ⟨h.mark.turnsF h.markF k hne, h.markF, h.trailer.turns k hne, h.items.turnsF h.itemsF k hne, h.itemsF, h.rows.turns rowedI k hne⟩
theorem DocIs.lows {F : Nat -> Prop} {s : ASt} {mv iv : Value} {tc ic : List Value} {D : Dc} (h : DocIs F s mv tc iv ic D) : DocIs (fun j => F j ∧ j < s.next) s mv tc iv ic D :=
 ⟨h.mark, Foot.below h.mark h.markF, h.trailer.lows, h.items, Foot.below h.items h.itemsF, h.rows.below rowedI⟩
def nodesN : Nat -> O -> Nat
 | 0, _ => 0
 | m + 1, .mk _ _ _ l d => 1 + (l.map (nodesN m)).sum + (d.map fun e => nodesN m e.2).sum
noncomputable def nodesO (o : O) : Nat := nodesN (SizeOf.sizeOf o) o
theorem sum_same {α : Type} {f g : α -> Nat} : ∀ {l : List α}, (∀ x ∈ l, f x = g x) -> (l.map f).sum = (l.map g).sum
 | [], _ => rfl
 | x :: l, h => by
  rw [List.map_cons, List.map_cons, List.sum_cons, List.sum_cons, h x (List.mem_cons_self ..), sum_same (fun y hy => h y (List.mem_cons_of_mem _ hy))]
theorem nodesN_same : ∀ (m m' : Nat) (o : O), SizeOf.sizeOf o ≤ m -> SizeOf.sizeOf o ≤ m' -> nodesN m o = nodesN m' o
 | 0, _, o, h, _ => by have := o.size_pos; omega
 | _ + 1, 0, o, _, h => by have := o.size_pos; omega
 | m + 1, m' + 1, .mk k n b l d, h, h' => by
  unfold nodesN
  rw [sum_same (l := l) (fun x hx => nodesN_same m m' x (by have := O.items_lt (k := k) (n := n) (b := b) (d := d) hx; omega) (by have := O.items_lt (k := k) (n := n) (b := b) (d := d) hx; omega)),
   sum_same (l := d) (fun e he => nodesN_same m m' e.2 (by have := O.ents_lt (k := k) (n := n) (b := b) (l := l) he; omega) (by have := O.ents_lt (k := k) (n := n) (b := b) (l := l) he; omega))]
theorem nodesO_mk (k n : Int) (b : List UInt8) (l : List O) (d : List (List UInt8 × O)) : nodesO (.mk k n b l d) = 1 + (l.map nodesO).sum + (d.map fun e => nodesO e.2).sum := by
 unfold nodesO
 obtain ⟨q, hq⟩ : ∃ q, SizeOf.sizeOf (O.mk k n b l d) = q + 1 := ⟨SizeOf.sizeOf (O.mk k n b l d) - 1, by have := (O.mk k n b l d).size_pos; omega⟩
 rw [hq]
 show 1 + (l.map (nodesN q)).sum + (d.map fun e => nodesN q e.2).sum = _
 rw [sum_same (l := l) (fun x hx => nodesN_same q _ x (by have := O.items_lt (k := k) (n := n) (b := b) (d := d) hx; omega) (Nat.le_refl _)),
  sum_same (l := d) (fun e he => nodesN_same q _ e.2 (by have := O.ents_lt (k := k) (n := n) (b := b) (l := l) he; omega) (Nat.le_refl _))]
theorem sum_take {α : Type} {f : α -> Nat} {l : List α} {i : Nat} (h : i < l.length) : ((l.take (i + 1)).map f).sum = ((l.take i).map f).sum + f l[i] := by
 rw [List.take_add_one, List.getElem?_eq_getElem h, List.map_append, List.sum_append]; simp
end Go.Cl
namespace Go.Proofs.Ythlbahnfimigcaa
open Go.Cl Go.Lib
theorem szI : sizeB Try.prog 55 = some 6 := by kernel_rfl
theorem agI : isAggB Try.prog 55 = some true := by kernel_rfl
theorem byI : bytesB Try.prog 55 = some 96 := by kernel_rfl
def noneI : List Value := .int .i64 0 :: noneC
theorem zI : zeroB Try.prog 55 = some (.agg noneI.toArray) := by kernel_rfl
theorem plI : plainV (.agg noneI.toArray) = true := by kernel_rfl
theorem szD : sizeB Try.prog 29 = some 9 := by kernel_rfl
theorem agD : isAggB Try.prog 29 = some true := by kernel_rfl
theorem szIs : sizeB Try.prog 27 = some 1 := by kernel_rfl
theorem agIs : isAggB Try.prog 27 = some false := by kernel_rfl
theorem df0 (i o c : Nat) : fieldAddrA Try.prog 29 (.pointer (some ⟨i, o, some c⟩)) 0 = some (.pointer (some ⟨i, o + 0, some c⟩)) := by
 unfold fieldAddrA; rw [Try.underlying29]; simp [szInt]
theorem df1 (i o c : Nat) : fieldAddrA Try.prog 29 (.pointer (some ⟨i, o, some c⟩)) 1 = some (.pointer (some ⟨i, o + 1, some c⟩)) := by
 unfold fieldAddrA; rw [Try.underlying29]; simp [szSl]
theorem df2 (i o c : Nat) : fieldAddrA Try.prog 29 (.pointer (some ⟨i, o, some c⟩)) 2 = some (.pointer (some ⟨i, o + 2, some c⟩)) := by
 unfold fieldAddrA; rw [Try.underlying29]; simp [szInt]
theorem df3 (i o c : Nat) : fieldAddrA Try.prog 29 (.pointer (some ⟨i, o, some c⟩)) 3 = some (.pointer (some ⟨i, o + 3, some c⟩)) := by
 unfold fieldAddrA; rw [Try.underlying29]; simp [szO]
theorem df4 (i o c : Nat) : fieldAddrA Try.prog 29 (.pointer (some ⟨i, o, some c⟩)) 4 = some (.pointer (some ⟨i, o + 8, some c⟩)) := by
 unfold fieldAddrA; rw [Try.underlying29]; simp [szIs]
theorem if0 (i o c : Nat) : fieldAddrA Try.prog 55 (.pointer (some ⟨i, o, some c⟩)) 0 = some (.pointer (some ⟨i, o + 0, some c⟩)) := by
 unfold fieldAddrA; rw [Try.underlying55]; simp [szInt]
theorem if1 (i o c : Nat) : fieldAddrA Try.prog 55 (.pointer (some ⟨i, o, some c⟩)) 1 = some (.pointer (some ⟨i, o + 1, some c⟩)) := by
 unfold fieldAddrA; rw [Try.underlying55]; simp [szO]
theorem efI {s : ASt} {v : Value} {n : Nat} {l : List Value} (h : Sees s 6 v n l) {k : Nat} (hk : k < n) : fieldAddrA Try.prog 55 (elemPtr 6 v k) 0 = some (plusPtr (elemPtr 6 v k) 0) ∧ fieldAddrA Try.prog 55 (elemPtr 6 v k) 1 = some (plusPtr (elemPtr 6 v k) 1) := by
 obtain ⟨i, off, c, e, _⟩ := h.cells hk
 rw [e]
 refine ⟨?_, ?_⟩ <;> · unfold fieldAddrA; rw [Try.underlying55]; simp [szInt, szO, plusPtr]
theorem sf0 (i o c : Nat) : fieldAddrA Try.prog 78 (.pointer (some ⟨i, o, some c⟩)) 0 = some (.pointer (some ⟨i, o + 0, some c⟩)) := by
 unfold fieldAddrA; rw [Try.underlying78]; simp [szInt]
theorem sf1 (i o c : Nat) : fieldAddrA Try.prog 78 (.pointer (some ⟨i, o, some c⟩)) 1 = some (.pointer (some ⟨i, o + 1, some c⟩)) := by
 unfold fieldAddrA; rw [Try.underlying78]; simp [szInt]
def Room2 (s : ASt) (p : Nat) (n : Nat) (o : O) (v : Value) (s' : ASt) : Prop := ∃ t : Bool, v = .bool t ∧ Turns (.pointer (some ⟨p, 0, none⟩)) s s' ∧ (∃ x y : Int, Thing s' p [.int .i64 x, .int .i64 y]) ∧ (t = true -> Small o ∧ n + nodesO o ≤ 20000 ∧ ∃ m : Nat, m ≤ 200000 ∧ Thing s' p [.int .i64 ((n + nodesO o : Nat) : Int), .int .i64 (m : Int)])
set_option maxHeartbeats 8000000 in
theorem room2_any {lib : Prims} (hl0 : lib.at 58 = none) : ∀ (N : Nat) (o : O), SizeOf.sizeOf o ≤ N -> ∀ (F : Nat -> Prop) (s : ASt) (cs : List Value) (depth : Int) (p n m : Nat), OIs F s cs o -> (∀ j, F j -> j ≠ p) -> Fit o -> -1 ≤ depth -> depth ≤ 1000 -> n ≤ 20000 -> m ≤ 400000 -> Thing s p [.int .i64 (n : Int), .int .i64 (m : Int)] ->
  Runs Try.prog lib 58 [.pointer (some ⟨p, 0, some 3⟩), .agg cs.toArray, .int .i64 depth] s (Room2 s p n o) := by
 intro N
 induction N with
 | zero => intro o h; have := o.size_pos; omega
 | succ N ih =>
 intro o hN F s cs depth p n m ho hFp hfit hd0 hd1 hn0 hm0 hp
 cases o with
 | mk kind num b l d =>
 obtain ⟨bv, lv, dv, lc, dc, rfl, hb, hL, hD, fb, fl, fd, rl, rd⟩ := ho.parts
 cases hfit with
 | mk hfb hfl hfd hfK hfL hfD =>
 refine Runs.enter 119 Try.func58 rfl hl0 rfl rfl ?_
 intro f hn hf
 have h0 : f.get 0 = .pointer (some ⟨p, 0, some 3⟩) := hf 0
 have h1 : f.get 1 = .agg #[.int .i64 kind, .int .i64 num, bv, lv, dv] := hf 1
 have h2 : f.get 2 = .int .i64 depth := hf 2
 clear hf
 have hpl := hp.lt
 simp -implicitDefEqProofs (disch := omega) only [allW, allR, oneOf, evalAll, partsA, optA, Nat.reduceLT, Nat.reduceLeDiff, Nat.reduceEqDiff, Nat.reduceAdd, ↓reduceIte, hn, h0, h1, h2]
 refine wstep_newPtr ?_
 intro s1 ht1 hst1 hnx1
 have hp1 := hp.keeps hst1
 have x0 : loadA Try.prog s1 3 (.pointer (some ⟨p, 0, some 3⟩)) = some (.int .i64 (n : Int)) := hp1.load agInt (off := 0) (c := 3) rfl (by simp)
 simp -implicitDefEqProofs (disch := omega) only [allW, allR, oneOf, evalAll, partsA, optA, Nat.reduceLT, Nat.reduceLeDiff, Nat.reduceEqDiff, Nat.reduceAdd, ↓reduceIte, hn, h0, h1, h2, List.length_cons, List.length_nil, sf0, sf1, x0, wrapI]
 refine wstep_storeN szInt (by decide) hp1 (off := 0) (c := 3) rfl (vs := [.int .i64 ((n : Int) + 1)]) rfl rfl (by simp) rfl ?_
 intro s2 hp2 hnx2 hot2
 have hp2 : Thing s2 p [.int .i64 ((n : Int) + 1), .int .i64 (m : Int)] := hp2
 have hu2 : Turns (.pointer (some ⟨p, 0, none⟩)) s s2 := ⟨by have := hst1.next; omega, fun j hj hne => by
  rw [hot2 j (fun e => hne (by rw [e]; rfl)), hst1.get j hj]⟩
 have ht2 : Thing s2 s.next [.int .i64 kind, .int .i64 num, bv, lv, dv] := ht1.ofPut hnx2 hot2 (by omega)
 simp -implicitDefEqProofs (disch := omega) only [allW, allR, oneOf, evalAll, partsA, optA, Nat.reduceLT, Nat.reduceLeDiff, Nat.reduceEqDiff, Nat.reduceAdd, ↓reduceIte, hn, h0, h1, h2]
 obtain ⟨A, hA⟩ : ∃ A : Nat -> Bool, A = fun j => decide (j < s2.next) := ⟨_, rfl⟩
 have hAl : ∀ j, A j = true -> j < s2.next := by
  intro j h
  rw [hA] at h
  exact of_decide_eq_true h
 have hAo : ∀ j, j < s2.next -> A j = true := fun j h => by rw [hA]; exact decide_eq_true h
 refine LB.Drawn.looseK A hAl 0 0 (by kernel_rfl) (by kernel_rfl) ?_
 have hsp := Stay.spare s2 0
 have hnT : (spare s2 0).next = s2.next + 0 := spare_next _ _
 have hlp : ∀ k, LA.lowV A (some (.pointer (some ⟨p, k, some 3⟩))) = true := fun k => LA.lowV_ptr (A := A) (i := p) (hAo _ (by omega))
 have hlb : ∀ k, LA.lowV A (some (.pointer (some ⟨s.next, k, some 6⟩))) = true := fun k => LA.lowV_ptr (A := A) (i := s.next) (hAo _ (by omega))
 have y1 : loadA Try.prog (spare s2 0) 3 (.pointer (some ⟨p, 1, some 3⟩)) = some (.int .i64 (m : Int)) := (hp2.keeps hsp).load agInt (off := 1) (c := 3) rfl (by simp)
 have y2 : loadA Try.prog (spare s2 0) 22 (.pointer (some ⟨s.next, 2, some 6⟩)) = some bv := (ht2.keeps hsp).load agSl (off := 2) (c := 6) rfl (by simp)
 have hFn : ∀ j, F j -> idOf (.pointer (some ⟨p, 0, none⟩)) ≠ some j := fun j hj e => by
  have e : some p = some j := e
  injection e with e; exact hFp j hj e.symm
 have hb2 := (hb.turnsF fb hu2 hFn).keeps hsp
 simp -implicitDefEqProofs (disch := omega) only [allW, allR, allL, allB, Nat.sub_self, Nat.add_one_sub_one, Nat.reduceSub, oneOf, evalAll, partsA, optA, Nat.reduceLT, Nat.reduceLeDiff, Nat.reduceEqDiff, Nat.reduceAdd, ↓reduceIte, hn, h0, h1, h2, sf1, of2, hlp, hlb, y1, y2, hb2.self, LA.lowL_sees hb2, hb2.lenA Try.underlying22, wrapI, valEq_int]
 refine LB.sstep_storeN szInt (by decide) (hp2.keeps hsp) (off := 1) (c := 3) rfl (v := .int .i64 ((m : Int) + b.length)) (vs := [.int .i64 ((m : Int) + b.length)]) rfl rfl (by simp) rfl (fun h => absurd rfl h) ?_
 intro s3 hp3 hnx3 hot3
 have hp3 : Thing s3 p [.int .i64 ((n : Int) + 1), .int .i64 ((m : Int) + b.length)] := hp3
 have hu3 : Turns (.pointer (some ⟨p, 0, none⟩)) s s3 := hu2.trans ⟨by omega, fun j hj hne => by
  rw [hot3 j (fun e => hne (by rw [e]; rfl)), hsp.get j hj]⟩
 have ht3 : Thing s3 s.next [.int .i64 kind, .int .i64 num, bv, lv, dv] := (ht2.keeps hsp).ofPut hnx3 hot3 (by omega)
 have hno : ∀ (f : AFr) (t : ASt), Turns (.pointer (some ⟨p, 0, none⟩)) s t -> (∃ x y : Int, Thing t p [.int .i64 x, .int .i64 y]) -> f.n = 119 -> f.get 6 = .bool false -> wfn Try.prog Try.f58.results.toList (Room2 s p n (.mk kind num b l d)) .ret f t := by
  intro f t hs hx hn h6
  simp -implicitDefEqProofs (disch := omega) only [allW, allR, wfn_ret, wfn_normal, oneOf, evalAll, partsA, optA, Nat.reduceLT, Nat.reduceLeDiff, Nat.reduceEqDiff, Nat.reduceAdd, ↓reduceIte, hn, h6, Try.results58]
  exact ⟨false, rfl, hs, hx, fun h => by cases h⟩
 have hb3 := hb.turnsF fb hu3 hFn
 have hL3 := hL.turnsF fl hu3 hFn
 have hD3 := hD.turnsF fd hu3 hFn
 have z2 : loadA Try.prog s3 22 (.pointer (some ⟨s.next, 2, some 6⟩)) = some bv := ht3.load agSl (off := 2) (c := 6) rfl (by simp)
 have z3 : loadA Try.prog s3 23 (.pointer (some ⟨s.next, 3, some 6⟩)) = some lv := ht3.load agLs (off := 3) (c := 6) rfl (by simp)
 have z4 : loadA Try.prog s3 24 (.pointer (some ⟨s.next, 4, some 6⟩)) = some dv := ht3.load agDs (off := 4) (c := 6) rfl (by simp)
 have w0 : loadA Try.prog s3 3 (.pointer (some ⟨p, 0, some 3⟩)) = some (.int .i64 ((n : Int) + 1)) := hp3.load agInt (off := 0) (c := 3) rfl (by simp)
 have w1 : loadA Try.prog s3 3 (.pointer (some ⟨p, 1, some 3⟩)) = some (.int .i64 ((m : Int) + b.length)) := hp3.load agInt (off := 1) (c := 3) rfl (by simp)
 by_cases c1 : depth < 0
 ·simp -implicitDefEqProofs (disch := omega) only [allW, allR, allL, allB, Nat.sub_self, Nat.add_one_sub_one, Nat.reduceSub, oneOf, evalAll, partsA, optA, Nat.reduceLT, Nat.reduceLeDiff, Nat.reduceEqDiff, Nat.reduceAdd, ↓reduceIte, allW, allR, oneOf, evalAll, partsA, optA, Nat.reduceLT, Nat.reduceLeDiff, Nat.reduceEqDiff, Nat.reduceAdd, ↓reduceIte, undef, hn, h0, h1, h2, eq_true c1]
  exact hno _ _ hu3 ⟨_, _, hp3⟩ (by simp only [get_put, n_put, ↓reduceIte, Nat.reduceEqDiff, hn]) (by simp only [get_put, n_put, ↓reduceIte, Nat.reduceEqDiff])
 by_cases c2 : ((l.length : Nat) : Int) + ((d.length : Nat) : Int) > 80
 ·simp -implicitDefEqProofs (disch := omega) only [allW, allR, allL, allB, Nat.sub_self, Nat.add_one_sub_one, Nat.reduceSub, oneOf, evalAll, partsA, optA, Nat.reduceLT, Nat.reduceLeDiff, Nat.reduceEqDiff, Nat.reduceAdd, ↓reduceIte, allW, allR, oneOf, evalAll, partsA, optA, Nat.reduceLT, Nat.reduceLeDiff, Nat.reduceEqDiff, Nat.reduceAdd, ↓reduceIte, undef, hn, h0, h1, h2, eq_false c1, of3, of4, z3, z4, hL3.lenA Try.underlying23, hD3.lenA Try.underlying24, wrapI, eq_true c2]
  exact hno _ _ hu3 ⟨_, _, hp3⟩ (by simp only [get_put, n_put, ↓reduceIte, Nat.reduceEqDiff, hn]) (by simp only [get_put, n_put, ↓reduceIte, Nat.reduceEqDiff])
 by_cases c3 : ((b.length : Nat) : Int) > 4000
 ·simp -implicitDefEqProofs (disch := omega) only [allW, allR, allL, allB, Nat.sub_self, Nat.add_one_sub_one, Nat.reduceSub, oneOf, evalAll, partsA, optA, Nat.reduceLT, Nat.reduceLeDiff, Nat.reduceEqDiff, Nat.reduceAdd, ↓reduceIte, allW, allR, oneOf, evalAll, partsA, optA, Nat.reduceLT, Nat.reduceLeDiff, Nat.reduceEqDiff, Nat.reduceAdd, ↓reduceIte, undef, hn, h0, h1, h2, eq_false c1, of2, of3, of4, z2, z3, z4, hb3.lenA Try.underlying22, hL3.lenA Try.underlying23, hD3.lenA Try.underlying24, wrapI, eq_false c2, eq_true c3]
  exact hno _ _ hu3 ⟨_, _, hp3⟩ (by simp only [get_put, n_put, ↓reduceIte, Nat.reduceEqDiff, hn]) (by simp only [get_put, n_put, ↓reduceIte, Nat.reduceEqDiff])
 by_cases c4 : (n : Int) + 1 > 20000
 ·simp -implicitDefEqProofs (disch := omega) only [allW, allR, allL, allB, Nat.sub_self, Nat.add_one_sub_one, Nat.reduceSub, oneOf, evalAll, partsA, optA, Nat.reduceLT, Nat.reduceLeDiff, Nat.reduceEqDiff, Nat.reduceAdd, ↓reduceIte, allW, allR, oneOf, evalAll, partsA, optA, Nat.reduceLT, Nat.reduceLeDiff, Nat.reduceEqDiff, Nat.reduceAdd, ↓reduceIte, undef, hn, h0, h1, h2, eq_false c1, of2, of3, of4, z2, z3, z4, hb3.lenA Try.underlying22, hL3.lenA Try.underlying23, hD3.lenA Try.underlying24, wrapI, eq_false c2, eq_false c3, sf0, w0, eq_true c4]
  exact hno _ _ hu3 ⟨_, _, hp3⟩ (by simp only [get_put, n_put, ↓reduceIte, Nat.reduceEqDiff, hn]) (by simp only [get_put, n_put, ↓reduceIte, Nat.reduceEqDiff])
 by_cases c5 : (m : Int) + b.length > 200000
 ·simp -implicitDefEqProofs (disch := omega) only [allW, allR, allL, allB, Nat.sub_self, Nat.add_one_sub_one, Nat.reduceSub, oneOf, evalAll, partsA, optA, Nat.reduceLT, Nat.reduceLeDiff, Nat.reduceEqDiff, Nat.reduceAdd, ↓reduceIte, allW, allR, oneOf, evalAll, partsA, optA, Nat.reduceLT, Nat.reduceLeDiff, Nat.reduceEqDiff, Nat.reduceAdd, ↓reduceIte, undef, hn, h0, h1, h2, eq_false c1, of2, of3, of4, z2, z3, z4, hb3.lenA Try.underlying22, hL3.lenA Try.underlying23, hD3.lenA Try.underlying24, wrapI, eq_false c2, eq_false c3, sf0, sf1, w0, w1, eq_false c4, eq_true c5]
  exact hno _ _ hu3 ⟨_, _, hp3⟩ (by simp only [get_put, n_put, ↓reduceIte, Nat.reduceEqDiff, hn]) (by simp only [get_put, n_put, ↓reduceIte, Nat.reduceEqDiff])
 simp -implicitDefEqProofs (disch := omega) only [allW, allR, allL, allB, Nat.sub_self, Nat.add_one_sub_one, Nat.reduceSub, oneOf, evalAll, partsA, optA, Nat.reduceLT, Nat.reduceLeDiff, Nat.reduceEqDiff, Nat.reduceAdd, ↓reduceIte, allW, allR, oneOf, evalAll, partsA, optA, Nat.reduceLT, Nat.reduceLeDiff, Nat.reduceEqDiff, Nat.reduceAdd, ↓reduceIte, undef, hn, h0, h1, h2, eq_false c1, of2, of3, of4, z2, z3, z4, hb3.lenA Try.underlying22, hL3.lenA Try.underlying23, hD3.lenA Try.underlying24, wrapI, eq_false c2, eq_false c3, sf0, sf1, w0, w1, eq_false c4, eq_false c5]
 refine Comes.loopOut (fun z f t => ∃ (i : Nat) (y : Nat), z = l.length - i ∧ i ≤ l.length ∧ (∀ x ∈ l.take i, Small x) ∧ n + 1 + ((l.take i).map nodesO).sum ≤ 20000 ∧ y ≤ 200000 ∧ Thing t p [.int .i64 ((n + 1 + ((l.take i).map nodesO).sum : Nat) : Int), .int .i64 (y : Int)] ∧ Thing t s.next [.int .i64 kind, .int .i64 num, bv, lv, dv] ∧ Turns (.pointer (some ⟨p, 0, none⟩)) s t ∧ f.n = 119 ∧ f.get 0 = .pointer (some ⟨p, 0, some 3⟩) ∧ f.get 2 = .int .i64 depth ∧ f.get 4 = .pointer (some ⟨s.next, 0, some 6⟩) ∧ f.get 7 = .int .i64 (i : Nat))
  (fun z f t => (z = .ret ∧ Turns (.pointer (some ⟨p, 0, none⟩)) s t ∧ (∃ x y : Int, Thing t p [.int .i64 x, .int .i64 y]) ∧ f.n = 119 ∧ f.get 6 = .bool false) ∨ (z = .exit 0 ∧ ∃ y : Nat, (∀ x ∈ l, Small x) ∧ n + 1 + (l.map nodesO).sum ≤ 20000 ∧ y ≤ 200000 ∧ Thing t p [.int .i64 ((n + 1 + (l.map nodesO).sum : Nat) : Int), .int .i64 (y : Int)] ∧ Thing t s.next [.int .i64 kind, .int .i64 num, bv, lv, dv] ∧ Turns (.pointer (some ⟨p, 0, none⟩)) s t ∧ f.n = 119 ∧ f.get 0 = .pointer (some ⟨p, 0, some 3⟩) ∧ f.get 2 = .int .i64 depth ∧ f.get 4 = .pointer (some ⟨s.next, 0, some 6⟩)))
  ⟨0, m + b.length, rfl, by omega, by simp, by simp; omega, by omega, by simpa using hp3, ht3, hu3, by simp only [get_put, n_put, ↓reduceIte, Nat.reduceEqDiff, hn], by simp only [get_put, n_put, ↓reduceIte, Nat.reduceEqDiff, h0], by simp only [get_put, n_put, ↓reduceIte, Nat.reduceEqDiff, h2], by simp only [get_put, n_put, ↓reduceIte, Nat.reduceEqDiff], by simp only [get_put, n_put, ↓reduceIte, Nat.reduceEqDiff]; rfl⟩ ?_ ?_
 ·clear hn h0 h1 h2 f
  rintro Q hQ z f t ⟨i, y, rfl, hi, hS, hsum, hy, hpt, htt, hut, hn, h0, h2, h4, h7⟩
  have hLt := hL.turnsF fl hut hFn
  have l6 : loadA Try.prog t 23 (.pointer (some ⟨s.next, 3, some 6⟩)) = some lv := htt.load agLs (off := 3) (c := 6) rfl (by simp)
  by_cases hlt : i < l.length
  rotate_left
  ·obtain rfl : i = l.length := by omega
   rw [List.take_length] at hS hsum hpt
   have d1 : ¬ ((l.length : Nat) : Int) < ((l.length : Nat) : Int) := by omega
   simp -implicitDefEqProofs (disch := omega) only [allW, allR, oneOf, evalAll, partsA, optA, Nat.reduceLT, Nat.reduceLeDiff, Nat.reduceEqDiff, Nat.reduceAdd, ↓reduceIte, hn, h0, h2, h4, h7, of3, l6, hLt.lenA Try.underlying23, eq_false d1]
   exact hQ _ _ _ (.inr ⟨rfl, y, hS, hsum, hy, hpt, htt, hut, by simp only [get_put, n_put, ↓reduceIte, Nat.reduceEqDiff, hn], by simp only [get_put, n_put, ↓reduceIte, Nat.reduceEqDiff, h0], by simp only [get_put, n_put, ↓reduceIte, Nat.reduceEqDiff, h2], by simp only [get_put, n_put, ↓reduceIte, Nat.reduceEqDiff, h4]⟩)
  have d1 : (i : Int) < (l.length : Int) := by omega
  have hix := hLt.indexAddr (P := Try.prog) (k := .i64) (x := (i : Int)) Try.underlying23 szO (by omega) (by omega)
  rw [Int.toNat_natCast] at hix
  have hld := hLt.loadAgg (P := Try.prog) agO szO hlt
  have hoi := (rl.row i hlt).turns hut hFn
  simp -implicitDefEqProofs (disch := omega) only [allW, allR, oneOf, evalAll, partsA, optA, Nat.reduceLT, Nat.reduceLeDiff, Nat.reduceEqDiff, Nat.reduceAdd, ↓reduceIte, hn, h0, h2, h4, h7, of3, l6, hLt.lenA Try.underlying23, eq_true d1, hix, hld, wrapI]
  refine (ih l[i] (by have := O.items_lt (k := kind) (n := num) (b := b) (l := l) (d := d) (List.getElem_mem hlt); omega) F t _ (depth - 1) p _ y hoi hFp (hfL _ (List.getElem_mem hlt)) (by omega) (by omega) hsum (by omega) hpt).mono ?_
  rintro _ t2 ⟨u, rfl, hu, hx, hok⟩
  have hut2 := hut.trans hu
  cases u with
  | false =>
   simp -implicitDefEqProofs (disch := omega) only [allW, allR, oneOf, evalAll, partsA, optA, Nat.reduceLT, Nat.reduceLeDiff, Nat.reduceEqDiff, Nat.reduceAdd, ↓reduceIte, hn, h0, h2, h4, h7, Bool.not_false]
   exact hQ _ _ _ (.inl ⟨rfl, hut2, hx, by simp only [get_put, n_put, ↓reduceIte, Nat.reduceEqDiff, hn], by simp only [get_put, n_put, ↓reduceIte, Nat.reduceEqDiff]⟩)
  | true =>
   obtain ⟨hsm, hs2, m', hm', hpm⟩ := hok rfl
   have htt2 := htt.turns hu (fun e => by
    have e : some p = some s.next := e
    injection e with e; omega)
   simp -implicitDefEqProofs (disch := omega) only [allW, allR, oneOf, evalAll, partsA, optA, Nat.reduceLT, Nat.reduceLeDiff, Nat.reduceEqDiff, Nat.reduceAdd, ↓reduceIte, hn, h0, h2, h4, h7, Bool.not_true, wrapI]
   exact wround_next (l.length - (i + 1)) (by omega) ⟨i + 1, m', rfl, by omega, small_take hS hlt hsm, by rw [sum_take hlt]; omega, hm', by rw [sum_take hlt, ← Nat.add_assoc]; exact hpm, htt2, hut2, by simp only [get_put, n_put, ↓reduceIte, Nat.reduceEqDiff, hn], by simp only [get_put, n_put, ↓reduceIte, Nat.reduceEqDiff, h0], by simp only [get_put, n_put, ↓reduceIte, Nat.reduceEqDiff, h2], by simp only [get_put, n_put, ↓reduceIte, Nat.reduceEqDiff, h4], by simp only [get_put, n_put, ↓reduceIte, Nat.reduceEqDiff]; rfl⟩
 clear hn h0 h1 h2 f
 rintro z f t (⟨rfl, hut, hx, hn, h6⟩ | ⟨rfl, y, hS, hsum, hy, hpt, htt, hut, hn, h0, h2, h4⟩)
 ·simp -implicitDefEqProofs (disch := omega) only [allW, allR, oneOf, evalAll, partsA, optA, Nat.reduceLT, Nat.reduceLeDiff, Nat.reduceEqDiff, Nat.reduceAdd, ↓reduceIte]
  exact hno _ _ hut hx hn h6
 simp -implicitDefEqProofs (disch := omega) only [allW, allR, oneOf, evalAll, partsA, optA, Nat.reduceLT, Nat.reduceLeDiff, Nat.reduceEqDiff, Nat.reduceAdd, ↓reduceIte, hn, h0, h2, h4]
 obtain ⟨M, hM⟩ : ∃ M, M = n + 1 + (l.map nodesO).sum := ⟨_, rfl⟩
 rw [← hM] at hsum hpt
 have hnt : s.next < t.next := htt.lt
 have hpT : p < t.next := hpt.lt
 refine Comes.loopOut (fun z f t => ∃ (i : Nat) (y : Nat), z = d.length - i ∧ i ≤ d.length ∧ (∀ e ∈ d.take i, e.1.length ≤ 100000 ∧ Small e.2) ∧ M + ((d.take i).map fun e => nodesO e.2).sum ≤ 20000 ∧ y ≤ 200000 ∧ Thing t p [.int .i64 ((M + ((d.take i).map fun e => nodesO e.2).sum : Nat) : Int), .int .i64 (y : Int)] ∧ Thing t s.next [.int .i64 kind, .int .i64 num, bv, lv, dv] ∧ Turns (.pointer (some ⟨p, 0, none⟩)) s t ∧ f.n = 119 ∧ f.get 0 = .pointer (some ⟨p, 0, some 3⟩) ∧ f.get 2 = .int .i64 depth ∧ f.get 4 = .pointer (some ⟨s.next, 0, some 6⟩) ∧ f.get 8 = .int .i64 (i : Nat))
  (fun z f t => (z = .ret ∧ Turns (.pointer (some ⟨p, 0, none⟩)) s t ∧ (∃ x y : Int, Thing t p [.int .i64 x, .int .i64 y]) ∧ f.n = 119 ∧ f.get 6 = .bool false) ∨ (z = .exit 2 ∧ ∃ y : Nat, (∀ e ∈ d, e.1.length ≤ 100000 ∧ Small e.2) ∧ M + (d.map fun e => nodesO e.2).sum ≤ 20000 ∧ y ≤ 200000 ∧ Thing t p [.int .i64 ((M + (d.map fun e => nodesO e.2).sum : Nat) : Int), .int .i64 (y : Int)] ∧ Turns (.pointer (some ⟨p, 0, none⟩)) s t ∧ f.n = 119))
  ⟨0, y, rfl, by omega, by simp, by simpa using hsum, hy, by simpa using hpt, htt, hut, by simp only [get_put, n_put, ↓reduceIte, Nat.reduceEqDiff, hn], by simp only [get_put, n_put, ↓reduceIte, Nat.reduceEqDiff, h0], by simp only [get_put, n_put, ↓reduceIte, Nat.reduceEqDiff, h2], by simp only [get_put, n_put, ↓reduceIte, Nat.reduceEqDiff, h4], by simp only [get_put, n_put, ↓reduceIte, Nat.reduceEqDiff]; rfl⟩ ?_ ?_
 ·clear hn h0 h2 h4 f hpt htt hut hy y hnt hpT t
  rintro Q hQ z f t ⟨i, y, rfl, hi, hK, hsum, hy, hpt, htt, hut, hn, h0, h2, h4, h8⟩
  have hDt := hD.turnsF fd hut hFn
  have l6 : loadA Try.prog t 24 (.pointer (some ⟨s.next, 4, some 6⟩)) = some dv := htt.load agDs (off := 4) (c := 6) rfl (by simp)
  by_cases hlt : i < d.length
  rotate_left
  ·obtain rfl : i = d.length := by omega
   rw [List.take_length] at hK hsum hpt
   have d1 : ¬ ((d.length : Nat) : Int) < ((d.length : Nat) : Int) := by omega
   simp -implicitDefEqProofs (disch := omega) only [allW, allR, oneOf, evalAll, partsA, optA, Nat.reduceLT, Nat.reduceLeDiff, Nat.reduceEqDiff, Nat.reduceAdd, ↓reduceIte, hn, h0, h2, h4, h8, of4, l6, hDt.lenA Try.underlying24, eq_false d1]
   exact hQ _ _ _ (.inr ⟨rfl, y, hK, hsum, hy, hpt, hut, by simp only [get_put, n_put, ↓reduceIte, Nat.reduceEqDiff, hn]⟩)
  have d1 : (i : Int) < (d.length : Int) := by omega
  have hpT : p < t.next := hpt.lt
  have htT : s.next < t.next := htt.lt
  simp -implicitDefEqProofs (disch := omega) only [allW, allR, oneOf, evalAll, partsA, optA, Nat.reduceLT, Nat.reduceLeDiff, Nat.reduceEqDiff, Nat.reduceAdd, ↓reduceIte, hn, h0, h2, h4, h8, of4, l6, hDt.lenA Try.underlying24, eq_true d1]
  obtain ⟨B, hB⟩ : ∃ B : Nat -> Bool, B = fun j => decide (j < t.next) := ⟨_, rfl⟩
  have hBl : ∀ j, B j = true -> j < t.next := by
   intro j h
   rw [hB] at h
   exact of_decide_eq_true h
  have hBo : ∀ j, j < t.next -> B j = true := fun j h => by rw [hB]; exact decide_eq_true h
  refine LB.Drawn.looseK B hBl 0 0 (by kernel_rfl) (by kernel_rfl) ?_
  have hsq := Stay.spare t 0
  have hnQ : (spare t 0).next = t.next + 0 := spare_next _ _
  have mlp : ∀ k, LA.lowV B (some (.pointer (some ⟨p, k, some 3⟩))) = true := fun k => LA.lowV_ptr (A := B) (i := p) (hBo _ hpT)
  have mlb : ∀ k, LA.lowV B (some (.pointer (some ⟨s.next, k, some 6⟩))) = true := fun k => LA.lowV_ptr (A := B) (i := s.next) (hBo _ htT)
  have hDq := hDt.keeps hsq
  have v1 : loadA Try.prog (spare t 0) 3 (.pointer (some ⟨p, 1, some 3⟩)) = some (.int .i64 (y : Int)) := (hpt.keeps hsq).load agInt (off := 1) (c := 3) rfl (by simp)
  have v2 : loadA Try.prog (spare t 0) 24 (.pointer (some ⟨s.next, 4, some 6⟩)) = some dv := (htt.keeps hsq).load agDs (off := 4) (c := 6) rfl (by simp)
  have hix := hDq.indexAddr (P := Try.prog) (k := .i64) (x := (i : Int)) Try.underlying24 szE (by omega) (by omega)
  rw [Int.toNat_natCast] at hix
  obtain ⟨q0, q1⟩ := efE hDq hlt
  obtain ⟨r, hr1, hr2, hr3⟩ := rd.row i hlt
  obtain ⟨hk6, hv6⟩ := chunk6 hr1
  have hlk := hDq.loadField (P := Try.prog) agStr hlt (j := 0) (by omega)
  rw [Nat.add_zero, hk6] at hlk
  have hfk := hfK _ (List.getElem_mem hlt)
  have lP := fun j => LA.lowV_plus hDt hBo hlt j
  simp -implicitDefEqProofs (disch := omega) only [allW, allR, allL, allB, Nat.sub_self, Nat.add_one_sub_one, Nat.reduceSub, oneOf, evalAll, partsA, optA, Nat.reduceLT, Nat.reduceLeDiff, Nat.reduceEqDiff, Nat.reduceAdd, ↓reduceIte, hn, h0, h2, h4, h8, sf1, of4, mlp, mlb, lP, v1, v2, hDq.self, hix, q0, hlk, LA.lowL_string, str_len Try.underlying9, wrapI, valEq_int, valEq_string, valEq_plus, valEq_elemPtr]
  refine LB.sstep_storeN szInt (by decide) (hpt.keeps hsq) (off := 1) (c := 3) rfl (v := .int .i64 ((y : Int) + (d[i].1).length)) (vs := [.int .i64 ((y : Int) + (d[i].1).length)]) rfl rfl (by simp) rfl (fun h => absurd rfl h) ?_
  intro t1 hp1' hnx1' hot1'
  have hp1' : Thing t1 p [.int .i64 ((M + ((d.take i).map fun e => nodesO e.2).sum : Nat) : Int), .int .i64 ((y : Int) + (d[i].1).length)] := hp1'
  have hu1' : Turns (.pointer (some ⟨p, 0, none⟩)) t t1 := ⟨by omega, fun j hj hne => by
   rw [hot1' j (fun e => hne (by rw [e]; rfl)), hsq.get j hj]⟩
  have hut1 := hut.trans hu1'
  have htt1 : Thing t1 s.next [.int .i64 kind, .int .i64 num, bv, lv, dv] := (htt.keeps hsq).ofPut hnx1' hot1' (by omega)
  have hDr := hD.turnsF fd hut1 hFn
  have v3 : loadA Try.prog t1 24 (.pointer (some ⟨s.next, 4, some 6⟩)) = some dv := htt1.load agDs (off := 4) (c := 6) rfl (by simp)
  have hix' := hDr.indexAddr (P := Try.prog) (k := .i64) (x := (i : Int)) Try.underlying24 szE (by omega) (by omega)
  rw [Int.toNat_natCast] at hix'
  have hlk' := hDr.loadField (P := Try.prog) agStr hlt (j := 0) (by omega)
  rw [Nat.add_zero, hk6] at hlk'
  have hlv' := hDr.loadPart (P := Try.prog) agO szO hlt (j := 1) (by omega)
  rw [hv6] at hlv'
  by_cases c6 : (((d[i].1).length : Nat) : Int) > 300
  ·simp -implicitDefEqProofs (disch := omega) only [allW, allR, allL, allB, Nat.sub_self, Nat.add_one_sub_one, Nat.reduceSub, oneOf, evalAll, partsA, optA, Nat.reduceLT, Nat.reduceLeDiff, Nat.reduceEqDiff, Nat.reduceAdd, ↓reduceIte, allW, allR, oneOf, evalAll, partsA, optA, Nat.reduceLT, Nat.reduceLeDiff, Nat.reduceEqDiff, Nat.reduceAdd, ↓reduceIte, hn, h0, h2, h4, h8, of4, v3, hix', q0, q1, hlk', str_len Try.underlying9, eq_true c6]
   exact hQ _ _ _ (.inl ⟨rfl, hut1, ⟨_, _, hp1'⟩, by simp only [get_put, n_put, ↓reduceIte, Nat.reduceEqDiff, hn], by simp only [get_put, n_put, ↓reduceIte, Nat.reduceEqDiff]⟩)
  have hoi := hr2.turns hut1 hFn
  simp -implicitDefEqProofs (disch := omega) only [allW, allR, allL, allB, Nat.sub_self, Nat.add_one_sub_one, Nat.reduceSub, oneOf, evalAll, partsA, optA, Nat.reduceLT, Nat.reduceLeDiff, Nat.reduceEqDiff, Nat.reduceAdd, ↓reduceIte, allW, allR, oneOf, evalAll, partsA, optA, Nat.reduceLT, Nat.reduceLeDiff, Nat.reduceEqDiff, Nat.reduceAdd, ↓reduceIte, hn, h0, h2, h4, h8, of4, v3, hix', q0, q1, hlk', hlv', str_len Try.underlying9, eq_false c6, wrapI]
  refine (ih d[i].2 (by have := O.ents_lt (k := kind) (n := num) (b := b) (l := l) (d := d) (List.getElem_mem hlt); omega) F t1 _ (depth - 1) p _ (y + (d[i].1).length) hoi hFp (hfD _ (List.getElem_mem hlt)) (by omega) (by omega) hsum (by omega) hp1').mono ?_
  rintro _ t2 ⟨u, rfl, hu, hx, hok⟩
  have hut2 := hut1.trans hu
  cases u with
  | false =>
   simp -implicitDefEqProofs (disch := omega) only [allW, allR, oneOf, evalAll, partsA, optA, Nat.reduceLT, Nat.reduceLeDiff, Nat.reduceEqDiff, Nat.reduceAdd, ↓reduceIte, hn, h0, h2, h4, h8, Bool.not_false]
   exact hQ _ _ _ (.inl ⟨rfl, hut2, hx, by simp only [get_put, n_put, ↓reduceIte, Nat.reduceEqDiff, hn], by simp only [get_put, n_put, ↓reduceIte, Nat.reduceEqDiff]⟩)
  | true =>
   obtain ⟨hsm, hs2, m', hm', hpm⟩ := hok rfl
   have htt2 := htt1.turns hu (fun e => by
    have e : some p = some s.next := e
    injection e with e; omega)
   have hst : ((d.take (i + 1)).map fun e => nodesO e.2).sum = ((d.take i).map fun e => nodesO e.2).sum + nodesO d[i].2 := sum_take (f := fun e : List UInt8 × O => nodesO e.2) hlt
   simp -implicitDefEqProofs (disch := omega) only [allW, allR, oneOf, evalAll, partsA, optA, Nat.reduceLT, Nat.reduceLeDiff, Nat.reduceEqDiff, Nat.reduceAdd, ↓reduceIte, hn, h0, h2, h4, h8, Bool.not_true, wrapI]
   refine wround_next (d.length - (i + 1)) (by omega) ⟨i + 1, m', rfl, by omega, ?_, by rw [hst]; omega, hm', by rw [hst, ← Nat.add_assoc]; exact hpm, htt2, hut2, by simp only [get_put, n_put, ↓reduceIte, Nat.reduceEqDiff, hn], by simp only [get_put, n_put, ↓reduceIte, Nat.reduceEqDiff, h0], by simp only [get_put, n_put, ↓reduceIte, Nat.reduceEqDiff, h2], by simp only [get_put, n_put, ↓reduceIte, Nat.reduceEqDiff, h4], by simp only [get_put, n_put, ↓reduceIte, Nat.reduceEqDiff]; rfl⟩
   intro e he
   rw [List.take_add_one, List.getElem?_eq_getElem hlt, List.mem_append] at he
   rcases he with he | he
   ·exact hK e he
   ·simp at he; rw [he]; exact ⟨by omega, hsm⟩
 clear hn h0 h2 h4 f hpt htt hut hy y hnt hpT t
 rintro z f t (⟨rfl, hut, hx, hn, h6⟩ | ⟨rfl, y, hK, hsum, hy, hpt, hut, hn⟩)
 ·simp -implicitDefEqProofs (disch := omega) only [allW, allR, oneOf, evalAll, partsA, optA, Nat.reduceLT, Nat.reduceLeDiff, Nat.reduceEqDiff, Nat.reduceAdd, ↓reduceIte]
  exact hno _ _ hut hx hn h6
 simp -implicitDefEqProofs (disch := omega) only [allW, allR, wfn_ret, wfn_normal, oneOf, evalAll, partsA, optA, Nat.reduceLT, Nat.reduceLeDiff, Nat.reduceEqDiff, Nat.reduceAdd, ↓reduceIte, hn, Try.results58]
 have hnod : n + nodesO (.mk kind num b l d) = M + (d.map fun e => nodesO e.2).sum := by rw [nodesO_mk, hM]; omega
 exact ⟨true, rfl, hut, ⟨_, _, hpt⟩, fun _ => ⟨.mk (by omega) (by omega) (by omega) (fun e he => (hK e he).1) hS (fun e he => (hK e he).2), by rw [hnod]; exact hsum, y, hy, by rw [hnod]; exact hpt⟩⟩
end Go.Proofs.Ythlbahnfimigcaa
namespace Go.Cl
structure FitD (D : Dc) : Prop where
 mark : D.mark.length ≤ 140737488351232
 trailer : Fit D.trailer
 len : D.items.length ≤ 140737488351232
 items : ∀ e ∈ D.items, Fit e.2
structure SmallD (D : Dc) : Prop where
 mark : D.mark.length ≤ 100
 len : D.items.length ≤ 70
 trailer : Small D.trailer
 items : ∀ e ∈ D.items, Small e.2
 nodes : nodesO D.trailer + (D.items.map fun e => nodesO e.2).sum ≤ 20000
structure SmallP (D : Dc) : Prop where
 mark : D.mark.length ≤ 100
 len : D.items.length ≤ 1000
 trailer : Small D.trailer
 items : ∀ e ∈ D.items, Small e.2
theorem SmallD.p {D : Dc} (h : SmallD D) : SmallP D := ⟨h.mark, Nat.le_trans h.len (by decide), h.trailer, h.items⟩
instance {D : Dc} : Coe (SmallD D) (SmallP D) := ⟨SmallD.p⟩
structure FairD (D : Dc) : Prop where
 small : SmallD D
 kind : D.trailer.kind = 7
 may : MayO 28 D.trailer
 mays : ∀ e ∈ D.items, MayO 28 e.2
 nums : ∀ e ∈ D.items, 1 ≤ e.1 ∧ e.1 ≤ 8388607
 rises : D.items.Pairwise fun a b => a.1 < b.1
theorem five {tc : List Value} (h : tc.length = 5) : ∃ a b c d e, tc = [a, b, c, d, e] := by
 match tc, h with
 | [a, b, c, d, e], _ => exact ⟨a, b, c, d, e, rfl⟩
end Go.Cl
namespace Go.Proofs.Ythlbahnfimigcaa
open Go.Cl Go.Lib
section
variable {t : ASt} {i : Nat} {D : Dc} {mv iv : Value} {tc : List Value}
theorem db_len (hl : tc.length = 5) : (docC D mv tc iv).length = 9 := by simp [docC, hl]
theorem db_minor (h : Thing t i (docC D mv tc iv)) (hl : tc.length = 5) : loadA Try.prog t 3 (.pointer (some ⟨i, 0, some 10⟩)) = some (.int .i64 D.minor) := by
 have := h.load (P := Try.prog) agInt (off := 0) (c := 10) (by rw [db_len hl]) (by rw [db_len hl]; omega)
 rw [this]; rfl
theorem db_mark (h : Thing t i (docC D mv tc iv)) (hl : tc.length = 5) : loadA Try.prog t 22 (.pointer (some ⟨i, 1, some 10⟩)) = some mv := by
 have := h.load (P := Try.prog) agSl (off := 1) (c := 10) (by rw [db_len hl]) (by rw [db_len hl]; omega)
 rw [this]; rfl
theorem db_tail (h : Thing t i (docC D mv tc iv)) (hl : tc.length = 5) : loadA Try.prog t 3 (.pointer (some ⟨i, 2, some 10⟩)) = some (.int .i64 D.tail) := by
 have := h.load (P := Try.prog) agInt (off := 2) (c := 10) (by rw [db_len hl]) (by rw [db_len hl]; omega)
 rw [this]; rfl
theorem db_trailer (h : Thing t i (docC D mv tc iv)) (hl : tc.length = 5) : loadA Try.prog t 26 (.pointer (some ⟨i, 3, some 10⟩)) = some (.agg tc.toArray) := by
 have := Thing.loadMid (P := Try.prog) agO szO h (off := 3) (c := 10) (by rw [db_len hl]) (by rw [db_len hl]; omega)
 rw [this]
 obtain ⟨a, b, c, d, e, rfl⟩ := five hl
 rfl
theorem db_kind {F : Nat -> Prop} {s : ASt} (ho : OIs F s tc D.trailer) (h : Thing t i (docC D mv tc iv)) : loadA Try.prog t 3 (.pointer (some ⟨i, 3, some 10⟩)) = some (.int .i64 D.trailer.kind) := by
 have hl := ho.len
 have := h.load (P := Try.prog) agInt (off := 3) (c := 10) (by rw [db_len hl]) (by rw [db_len hl]; omega)
 rw [this]
 cases hD : D.trailer with
 | mk k n b l d =>
  rw [hD] at ho
  obtain ⟨bv, lv, dv, lc, dc, rfl, -⟩ := ho.parts
  rfl
theorem db_items (h : Thing t i (docC D mv tc iv)) (hl : tc.length = 5) : loadA Try.prog t 27 (.pointer (some ⟨i, 8, some 10⟩)) = some iv := by
 have := h.load (P := Try.prog) agIs (off := 8) (c := 10) (by rw [db_len hl]) (by rw [db_len hl]; omega)
 rw [this]
 obtain ⟨a, b, c, d, e, rfl⟩ := five hl
 rfl
theorem db_all (h : Thing t i (docC D mv tc iv)) (hl : tc.length = 5) : loadA Try.prog t 29 (.pointer (some ⟨i, 0, some 10⟩)) = some (.agg (docC D mv tc iv).toArray) := Thing.loadAll agD (by rw [db_len hl]; exact szD) h (by rw [db_len hl])
end
theorem oiI {s : ASt} {v : Value} {n : Nat} {l : List Value} (h : Sees s 6 v n l) {k : Nat} (hk : k < n) : fieldAddrA Try.prog 26 (plusPtr (elemPtr 6 v k) 1) 0 = some (plusPtr (elemPtr 6 v k) 1) ∧ fieldAddrA Try.prog 26 (plusPtr (elemPtr 6 v k) 1) 2 = some (plusPtr (elemPtr 6 v k) 3) := by
 obtain ⟨i, off, c, e, _⟩ := h.cells hk
 rw [e]
 refine ⟨?_, ?_⟩ <;> · unfold fieldAddrA; rw [Try.underlying26]; simp [szInt, szSl, plusPtr]
theorem itemB {F : Nat -> Prop} {s : ASt} {ic : List Value} {i : Nat} {e : Int × O} (h : ItIs F s ((ic.drop (i * 6)).take 6) e) : ic.getD (i * 6) undef = .int .i64 e.1 ∧ (ic.drop (i * 6 + 1)).take 5 = ((ic.drop (i * 6)).take 6).drop 1 ∧ OIs F s ((ic.drop (i * 6 + 1)).take 5) e.2 ∧ ∃ bv, ic.getD (i * 6 + 3) undef = bv ∧ Sees s 1 bv e.2.bytes.length (ofBytes e.2.bytes) ∧ Foot F bv := by
 obtain ⟨r, hr, ho⟩ := h
 obtain ⟨h1, h2⟩ := chunk6 hr
 refine ⟨h1, by rw [h2, hr]; rfl, by rw [h2]; exact ho, _, rfl, ?_⟩
 have h3 : ((ic.drop (i * 6 + 1)).take 5)[2]? = ic[i * 6 + 3]? := by
  rw [List.getElem?_take_of_lt (by omega), List.getElem?_drop]
 rw [h2] at h3
 obtain ⟨k, o⟩ := e
 cases o with
 | mk kd n b l d =>
  obtain ⟨bv, lv, dv, lc, dc, rfl, hb, hl, hd, fb, -⟩ := ho.parts
  have h4 : ic.getD (i * 6 + 3) undef = bv := by
   rw [List.getD_eq_getElem?_getD, ← h3]; rfl
  rw [h4]
  exact ⟨hb, fb⟩
def SmallR (s : ASt) (D : Dc) (v : Value) (s' : ASt) : Prop := Tells (SmallD D) v ∧ Stay s.next s s'
set_option maxHeartbeats 8000000 in
theorem small_any {lib : Prims} (hl : lib.at 37 = none) (hl0 : lib.at 58 = none) (F : Nat -> Prop) (s : ASt) (D : Dc) (mv : Value) (tc : List Value) (iv : Value) (ic : List Value) (hD : DocIs F s mv tc iv ic D) (hf : FitD D) :
  Runs Try.prog lib 37 [.agg (docC D mv tc iv).toArray] s (SmallR s D) := by
 have htl := hD.trailer.len
 have hDl := hD.lows
 have dl := db_len (D := D) (mv := mv) (iv := iv) htl
 refine Runs.enter 53 Try.func37 rfl hl rfl rfl ?_
 intro f hn hf'
 have h0 : f.get 0 = .agg (docC D mv tc iv).toArray := hf' 0
 clear hf'
 simp -implicitDefEqProofs (disch := omega) only [allW, allR, oneOf, evalAll, partsA, optA, Nat.reduceLT, Nat.reduceLeDiff, Nat.reduceEqDiff, Nat.reduceAdd, ↓reduceIte, hn, h0]
 refine wstep_newPtr ?_
 intro s1 ht1 hst1 hnx1
 have ht1 : Thing s1 s.next (docC D mv tc iv) := ht1
 have bSz : buildA Try.prog 78 [] = some (.agg #[.int .i64 0, .int .i64 0]) := by kernel_rfl
 simp -implicitDefEqProofs (disch := omega) only [allW, allR, oneOf, evalAll, partsA, optA, Nat.reduceLT, Nat.reduceLeDiff, Nat.reduceEqDiff, Nat.reduceAdd, ↓reduceIte, hn, h0, dl, bSz]
 refine wstep_newPtr ?_
 intro s2 ht2 hst2 hnx2
 have ht2 : Thing s2 s1.next [.int .i64 ((0 : Nat) : Int), .int .i64 ((0 : Nat) : Int)] := ht2
 have ht12 := ht1.keeps hst2
 have hs2 : Stay s.next s s2 := hst1.trans (hst2.weaken (by omega))
 have hno : ∀ (f : AFr) (t : ASt), Stay s.next s t -> f.n = 53 -> f.get 2 = .bool false -> wfn Try.prog Try.f37.results.toList (SmallR s D) .ret f t := by
  intro f t hs hn h2
  simp -implicitDefEqProofs (disch := omega) only [allW, allR, wfn_ret, wfn_normal, oneOf, evalAll, partsA, optA, Nat.reduceLT, Nat.reduceLeDiff, Nat.reduceEqDiff, Nat.reduceAdd, ↓reduceIte, hn, h2, Try.results37]
  exact ⟨⟨false, rfl, fun h => by cases h⟩, hs⟩
 have hi2 := hD.items.keeps hs2
 have hm2 := hD.mark.keeps hs2
 have hsz3 : (2 : Nat) + 1 = 3 := rfl
 by_cases c1 : ((D.items.length : Nat) : Int) > 60
 ·simp -implicitDefEqProofs (disch := omega) only [allW, allR, oneOf, evalAll, partsA, optA, Nat.reduceLT, Nat.reduceLeDiff, Nat.reduceEqDiff, Nat.reduceAdd, ↓reduceIte, undef, hn, h0, df4, db_items ht12 htl, hi2.lenA Try.underlying27, eq_true c1]
  exact hno _ _ hs2 (by simp only [get_put, n_put, ↓reduceIte, Nat.reduceEqDiff, hn]) (by simp only [get_put, n_put, ↓reduceIte, Nat.reduceEqDiff])
 by_cases c2 : ((D.mark.length : Nat) : Int) > 100
 ·simp -implicitDefEqProofs (disch := omega) only [allW, allR, oneOf, evalAll, partsA, optA, Nat.reduceLT, Nat.reduceLeDiff, Nat.reduceEqDiff, Nat.reduceAdd, ↓reduceIte, undef, hn, h0, df4, df1, db_items ht12 htl, db_mark ht12 htl, hi2.lenA Try.underlying27, hm2.lenA Try.underlying22, eq_false c1, eq_true c2]
  exact hno _ _ hs2 (by simp only [get_put, n_put, ↓reduceIte, Nat.reduceEqDiff, hn]) (by simp only [get_put, n_put, ↓reduceIte, Nat.reduceEqDiff])
 simp -implicitDefEqProofs (disch := omega) only [allW, allR, oneOf, evalAll, partsA, optA, Nat.reduceLT, Nat.reduceLeDiff, Nat.reduceEqDiff, Nat.reduceAdd, ↓reduceIte, undef, hn, h0, df4, df1, df3, db_items ht12 htl, db_mark ht12 htl, db_trailer ht12 htl, hi2.lenA Try.underlying27, hm2.lenA Try.underlying22, eq_false c1, eq_false c2, List.length_cons, List.length_nil, hsz3]
 refine (room2_any hl0 _ D.trailer (Nat.le_refl _) (fun j => F j ∧ j < s.next) s2 tc 8 s1.next 0 0 (hDl.trailer.keeps hs2) (fun j hj => by have := hj.2; omega) hf.trailer (by decide) (by decide) (by omega) (by omega) ht2).mono ?_
 rintro _ s3 ⟨u, rfl, hu, _, hok⟩
 have n1 := hst1.next
 have n2 := hst2.next
 have hst : Stay s.next s s3 := hs2.trans ⟨hu.next, fun j hj => hu.get j (by have := hs2.next; omega) (fun e => by
  have e : some s1.next = some j := e
  injection e with e; omega)⟩
 cases u with
 | false =>
  simp -implicitDefEqProofs (disch := omega) only [allW, allR, oneOf, evalAll, partsA, optA, Nat.reduceLT, Nat.reduceLeDiff, Nat.reduceEqDiff, Nat.reduceAdd, ↓reduceIte, hn, h0, Bool.not_false]
  exact hno _ _ hst (by simp only [get_put, n_put, ↓reduceIte, Nat.reduceEqDiff, hn]) (by simp only [get_put, n_put, ↓reduceIte, Nat.reduceEqDiff])
 | true =>
 obtain ⟨stl, snl, m0, hm0, hp3⟩ := hok rfl
 rw [Nat.zero_add] at snl hp3
 simp -implicitDefEqProofs (disch := omega) only [allW, allR, oneOf, evalAll, partsA, optA, Nat.reduceLT, Nat.reduceLeDiff, Nat.reduceEqDiff, Nat.reduceAdd, ↓reduceIte, hn, h0, Bool.not_true]
 obtain ⟨T0, hT0⟩ : ∃ T0, T0 = nodesO D.trailer := ⟨_, rfl⟩
 rw [← hT0] at snl hp3
 have ht3 : Thing s3 s.next (docC D mv tc iv) := ht12.turns hu (fun e => by
  have e : some s1.next = some s.next := e
  injection e with e; omega)
 have hp3l := hp3.lt
 refine Comes.loopOut (fun z f t => ∃ (i q m : Nat), z = D.items.length - i ∧ i ≤ D.items.length ∧ q ≤ 100000000 * i ∧ m ≤ 200000 ∧ (∀ e ∈ D.items.take i, Small e.2) ∧ T0 + ((D.items.take i).map fun e => nodesO e.2).sum ≤ 20000 ∧ Thing t s1.next [.int .i64 ((T0 + ((D.items.take i).map fun e => nodesO e.2).sum : Nat) : Int), .int .i64 (m : Int)] ∧ Thing t s.next (docC D mv tc iv) ∧ Stay s.next s t ∧ f.n = 53 ∧ f.get 1 = .pointer (some ⟨s.next, 0, some 10⟩) ∧ f.get 3 = .pointer (some ⟨s1.next, 0, some 3⟩) ∧ f.get 4 = .int .i64 (q : Int) ∧ f.get 5 = .int .i64 (i : Nat))
  (fun z f t => (z = .ret ∧ Stay s.next s t ∧ f.n = 53 ∧ f.get 2 = .bool false) ∨ (z = .exit 0 ∧ ∃ q : Nat, (∀ e ∈ D.items, Small e.2) ∧ T0 + (D.items.map fun e => nodesO e.2).sum ≤ 20000 ∧ Stay s.next s t ∧ f.n = 53 ∧ f.get 4 = .int .i64 (q : Int)))
  ⟨0, 0, m0, rfl, by omega, by omega, hm0, by simp, by simpa using snl, by simpa using hp3, ht3, hst, by simp only [get_put, n_put, ↓reduceIte, Nat.reduceEqDiff, hn], by simp only [get_put, n_put, ↓reduceIte, Nat.reduceEqDiff], by simp only [get_put, n_put, ↓reduceIte, Nat.reduceEqDiff], by simp only [get_put, n_put, ↓reduceIte, Nat.reduceEqDiff]; rfl, by simp only [get_put, n_put, ↓reduceIte, Nat.reduceEqDiff]; rfl⟩ ?_ ?_
 ·clear hn h0 f
  rintro Q hQ z f t ⟨i, q, m, rfl, hi, hq, hm, hS, hsum, hpt, htt, hut, hn, h1, h3, h4, h5⟩
  have hIt := hD.items.keeps hut
  have hpT : s1.next < t.next := hpt.lt
  by_cases hlt : i < D.items.length
  rotate_left
  ·obtain rfl : i = D.items.length := by omega
   rw [List.take_length] at hS hsum
   have d1 : ¬ ((D.items.length : Nat) : Int) < ((D.items.length : Nat) : Int) := by omega
   simp -implicitDefEqProofs (disch := omega) only [allW, allR, oneOf, evalAll, partsA, optA, Nat.reduceLT, Nat.reduceLeDiff, Nat.reduceEqDiff, Nat.reduceAdd, ↓reduceIte, hn, h1, h3, h4, h5, df4, db_items htt htl, hIt.lenA Try.underlying27, eq_false d1]
   exact hQ _ _ _ (.inr ⟨rfl, q, hS, hsum, hut, by simp only [get_put, n_put, ↓reduceIte, Nat.reduceEqDiff, hn], by simp only [get_put, n_put, ↓reduceIte, Nat.reduceEqDiff, h4]⟩)
  have d1 : (i : Int) < (D.items.length : Int) := by omega
  have hix := hIt.indexAddr (P := Try.prog) (k := .i64) (x := (i : Int)) Try.underlying27 szI (by omega) (by omega)
  rw [Int.toNat_natCast] at hix
  obtain ⟨q0, q1⟩ := efI hIt hlt
  obtain ⟨b1, b2, b3, bv, b4, b5, b6⟩ := itemB (hDl.rows.row i hlt)
  have hlv := hIt.loadPart (P := Try.prog) agO szO hlt (j := 1) (by omega)
  simp -implicitDefEqProofs (disch := omega) only [allW, allR, oneOf, evalAll, partsA, optA, Nat.reduceLT, Nat.reduceLeDiff, Nat.reduceEqDiff, Nat.reduceAdd, ↓reduceIte, hn, h1, h3, h4, h5, df4, db_items htt htl, hIt.lenA Try.underlying27, eq_true d1, hix, q1, hlv]
  refine (room2_any hl0 _ D.items[i].2 (Nat.le_refl _) (fun j => F j ∧ j < s.next) t _ 40 s1.next _ m (b3.keeps hut) (fun j hj => by have := hj.2; omega) (hf.items _ (List.getElem_mem hlt)) (by decide) (by decide) hsum (by omega) hpt).mono ?_
  rintro _ t2 ⟨u, rfl, hu2, _, hok⟩
  have hst2 : Stay s.next s t2 := hut.trans ⟨hu2.next, fun j hj => hu2.get j (by have := hut.next; omega) (fun e => by
   have e : some s1.next = some j := e
   injection e with e; omega)⟩
  cases u with
  | false =>
   simp -implicitDefEqProofs (disch := omega) only [allW, allR, oneOf, evalAll, partsA, optA, Nat.reduceLT, Nat.reduceLeDiff, Nat.reduceEqDiff, Nat.reduceAdd, ↓reduceIte, hn, h1, h3, h4, h5, Bool.not_false]
   exact hQ _ _ _ (.inl ⟨rfl, hst2, by simp only [get_put, n_put, ↓reduceIte, Nat.reduceEqDiff, hn], by simp only [get_put, n_put, ↓reduceIte, Nat.reduceEqDiff]⟩)
  | true =>
   obtain ⟨hsm, hs2', m', hm', hpm⟩ := hok rfl
   have htt2 : Thing t2 s.next (docC D mv tc iv) := htt.turns hu2 (fun e => by
    have e : some s1.next = some s.next := e
    injection e with e; omega)
   have hIt2 := hD.items.keeps hst2
   obtain ⟨o0, o2⟩ := oiI hIt2 hlt
   have hlb := hIt2.loadField (P := Try.prog) agSl hlt (j := 3) (by omega)
   rw [b4] at hlb
   have hbl := b5.keeps hst2
   have hbn : D.items[i].2.bytes.length ≤ 100000000 := by
    generalize D.items[i].2 = o at hsm
    cases hsm; assumption
   have hst : ((D.items.take (i + 1)).map fun e => nodesO e.2).sum = ((D.items.take i).map fun e => nodesO e.2).sum + nodesO D.items[i].2 := sum_take (f := fun e : Int × O => nodesO e.2) hlt
   simp -implicitDefEqProofs (disch := omega) only [allW, allR, oneOf, evalAll, partsA, optA, Nat.reduceLT, Nat.reduceLeDiff, Nat.reduceEqDiff, Nat.reduceAdd, ↓reduceIte, hn, h1, h3, h4, h5, Bool.not_true, df4, db_items htt2 htl, hix, q1, o2, hlb, hbl.lenA Try.underlying22, wrapI]
   refine wround_next (D.items.length - (i + 1)) (by omega) ⟨i + 1, q + D.items[i].2.bytes.length, m', rfl, by omega, by omega, hm', ?_, by rw [hst]; omega, by rw [hst, ← Nat.add_assoc]; exact hpm, htt2, hst2, by simp only [get_put, n_put, ↓reduceIte, Nat.reduceEqDiff, hn], by simp only [get_put, n_put, ↓reduceIte, Nat.reduceEqDiff, h1], by simp only [get_put, n_put, ↓reduceIte, Nat.reduceEqDiff, h3], by simp only [get_put, n_put, ↓reduceIte, Nat.reduceEqDiff]; rfl, by simp only [get_put, n_put, ↓reduceIte, Nat.reduceEqDiff]; rfl⟩
   intro e he
   rw [List.take_add_one, List.getElem?_eq_getElem hlt, List.mem_append] at he
   rcases he with he | he
   ·exact hS e he
   ·simp at he; rw [he]; exact hsm
 clear hn h0 f
 rintro z f t (⟨rfl, hut, hn, h2⟩ | ⟨rfl, q, hS, hsum, hut, hn, h4⟩)
 ·simp -implicitDefEqProofs (disch := omega) only [allW, allR, oneOf, evalAll, partsA, optA, Nat.reduceLT, Nat.reduceLeDiff, Nat.reduceEqDiff, Nat.reduceAdd, ↓reduceIte]
  exact hno _ _ hut hn h2
 simp -implicitDefEqProofs (disch := omega) only [allW, allR, wfn_ret, wfn_normal, oneOf, evalAll, partsA, optA, Nat.reduceLT, Nat.reduceLeDiff, Nat.reduceEqDiff, Nat.reduceAdd, ↓reduceIte, hn, h4, Try.results37]
 exact ⟨⟨_, rfl, fun _ => ⟨by omega, by omega, stl, hS, by rw [← hT0]; exact hsum⟩⟩, hut⟩
end Go.Proofs.Ythlbahnfimigcaa
namespace Go.Proofs.Ythlbahnfimigcaa
open Go.Cl Go.Lib
def FairR (s : ASt) (D : Dc) (v : Value) (s' : ASt) : Prop := Tells (FairD D) v ∧ Stay s.next s s'
set_option maxHeartbeats 8000000 in
theorem fair_any {lib : Prims} (hl : lib.at 9 = none) (hls : lib.at 37 = none) (hl0 : lib.at 58 = none)
  (m0 : lib.at 17 = none) (m1 : lib.at 48 = none) (m2 : lib.at 63 = none) (m3 : lib.at 64 = none) (m4 : lib.at 65 = none) (m5 : lib.at 66 = none)
  (F : Nat -> Prop) (s : ASt) (D : Dc) (mv : Value) (tc : List Value) (iv : Value) (ic : List Value) (hD : DocIs F s mv tc iv ic D) (hf : FitD D) :
  Runs Try.prog lib 9 [.agg (docC D mv tc iv).toArray] s (FairR s D) := by
 have htl := hD.trailer.len
 have dl := db_len (D := D) (mv := mv) (iv := iv) htl
 refine Runs.enter 72 Try.func9 rfl hl rfl rfl ?_
 intro f hn hf'
 have h0 : f.get 0 = .agg (docC D mv tc iv).toArray := hf' 0
 clear hf'
 simp -implicitDefEqProofs (disch := omega) only [allW, allR, oneOf, evalAll, partsA, optA, Nat.reduceLT, Nat.reduceLeDiff, Nat.reduceEqDiff, Nat.reduceAdd, ↓reduceIte, hn, h0]
 refine wstep_newPtr ?_
 intro s1 ht1 hst1 hnx1
 have ht1 : Thing s1 s.next (docC D mv tc iv) := ht1
 have hno : ∀ (f : AFr) (t : ASt), Stay s.next s t -> f.n = 72 -> f.get 2 = .bool false -> wfn Try.prog Try.f9.results.toList (FairR s D) .ret f t := by
  intro f t hs hn h2
  simp -implicitDefEqProofs (disch := omega) only [allW, allR, wfn_ret, wfn_normal, oneOf, evalAll, partsA, optA, Nat.reduceLT, Nat.reduceLeDiff, Nat.reduceEqDiff, Nat.reduceAdd, ↓reduceIte, hn, h2, Try.results9]
  exact ⟨⟨false, rfl, fun h => by cases h⟩, hs⟩
 simp -implicitDefEqProofs (disch := omega) only [allW, allR, oneOf, evalAll, partsA, optA, Nat.reduceLT, Nat.reduceLeDiff, Nat.reduceEqDiff, Nat.reduceAdd, ↓reduceIte, hn, h0, dl, db_all ht1 htl]
 refine (small_any hls hl0 F s1 D mv tc iv ic (hD.keeps hst1) hf).mono ?_
 rintro _ s2 ⟨⟨u, rfl, hu⟩, k2⟩
 have hs2 : Stay s.next s s2 := hst1.trans (k2.weaken hst1.next)
 have ht2 := ht1.keeps k2
 cases u with
 | false =>
  simp -implicitDefEqProofs (disch := omega) only [allW, allR, oneOf, evalAll, partsA, optA, Nat.reduceLT, Nat.reduceLeDiff, Nat.reduceEqDiff, Nat.reduceAdd, ↓reduceIte, undef, hn, h0, Bool.not_false]
  exact hno _ _ hs2 (by simp only [get_put, n_put, ↓reduceIte, Nat.reduceEqDiff, hn]) (by simp only [get_put, n_put, ↓reduceIte, Nat.reduceEqDiff])
 | true =>
 have hsm := hu rfl
 have hlen60 := hsm.len
 simp -implicitDefEqProofs (disch := omega) only [allW, allR, oneOf, evalAll, partsA, optA, Nat.reduceLT, Nat.reduceLeDiff, Nat.reduceEqDiff, Nat.reduceAdd, ↓reduceIte, hn, h0, Bool.not_true, df3, db_trailer ht2 htl]
 refine (rmayTop_any m0 m1 m2 m3 m4 m5 D.trailer F s2 tc (hD.trailer.keeps hs2) hf.trailer).mono ?_
 rintro _ s3 ⟨⟨u, rfl, hmay⟩, k3⟩
 have hs3 : Stay s.next s s3 := hs2.trans (k3.weaken hs2.next)
 have ht3 := ht2.keeps k3
 cases u with
 | false =>
  simp -implicitDefEqProofs (disch := omega) only [allW, allR, oneOf, evalAll, partsA, optA, Nat.reduceLT, Nat.reduceLeDiff, Nat.reduceEqDiff, Nat.reduceAdd, ↓reduceIte, undef, hn, h0, Bool.not_false]
  exact hno _ _ hs3 (by simp only [get_put, n_put, ↓reduceIte, Nat.reduceEqDiff, hn]) (by simp only [get_put, n_put, ↓reduceIte, Nat.reduceEqDiff])
 | true =>
 have hmay := hmay.1 rfl
 have lk := db_kind (iv := iv) (mv := mv) hD.trailer ht3
 by_cases c7 : D.trailer.kind = 7
 rotate_left
 ·simp -implicitDefEqProofs (disch := omega) only [allW, allR, oneOf, evalAll, partsA, optA, Nat.reduceLT, Nat.reduceLeDiff, Nat.reduceEqDiff, Nat.reduceAdd, ↓reduceIte, undef, hn, h0, Bool.not_true, df3, of0, lk, not_false_eq_true, eq_false c7]
  exact hno _ _ hs3 (by simp only [get_put, n_put, ↓reduceIte, Nat.reduceEqDiff, hn]) (by simp only [get_put, n_put, ↓reduceIte, Nat.reduceEqDiff])
 simp -implicitDefEqProofs (disch := omega) only [allW, allR, oneOf, evalAll, partsA, optA, Nat.reduceLT, Nat.reduceLeDiff, Nat.reduceEqDiff, Nat.reduceAdd, ↓reduceIte, undef, hn, h0, Bool.not_true, df3, of0, lk, c7]
 obtain ⟨Ok, hOk⟩ : ∃ Ok : Nat -> Prop, Ok = fun j => ∀ e, D.items[j]? = some e -> MayO 28 e.2 ∧ 1 ≤ e.1 ∧ e.1 ≤ 8388607 ∧ ∀ e', 0 < j -> D.items[j - 1]? = some e' -> e'.1 < e.1 := ⟨_, rfl⟩
 refine Comes.loopOut (fun z f t => ∃ i : Nat, z = D.items.length - i ∧ i ≤ D.items.length ∧ (∀ j, j < i -> Ok j) ∧ Stay s3.next s3 t ∧ f.n = 72 ∧ f.get 1 = .pointer (some ⟨s.next, 0, some 10⟩) ∧ f.get 3 = .int .i64 (i : Nat))
  (fun z f t => (z = .ret ∧ Stay s3.next s3 t ∧ f.n = 72 ∧ f.get 2 = .bool false) ∨ (z = .exit 0 ∧ (∀ j, j < D.items.length -> Ok j) ∧ Stay s3.next s3 t ∧ f.n = 72))
  ⟨0, rfl, by omega, fun j h => by omega, Stay.refl _ _, by simp only [get_put, n_put, ↓reduceIte, Nat.reduceEqDiff, hn], by simp only [get_put, n_put, ↓reduceIte, Nat.reduceEqDiff], by simp only [get_put, n_put, ↓reduceIte, Nat.reduceEqDiff]; rfl⟩ ?_ ?_
 ·clear hn h0 f
  rintro Q hQ z f t ⟨i, rfl, hi, hP, hst, hn, h1, h3⟩
  have hs0 : Stay s.next s t := hs3.trans (hst.weaken hs3.next)
  have hIt := hD.items.keeps hs0
  have htt := ht3.keeps hst
  by_cases hlt : i < D.items.length
  rotate_left
  ·obtain rfl : i = D.items.length := by omega
   have d1 : ¬ ((D.items.length : Nat) : Int) < ((D.items.length : Nat) : Int) := by omega
   simp -implicitDefEqProofs (disch := omega) only [allW, allR, oneOf, evalAll, partsA, optA, Nat.reduceLT, Nat.reduceLeDiff, Nat.reduceEqDiff, Nat.reduceAdd, ↓reduceIte, hn, h1, h3, df4, db_items htt htl, hIt.lenA Try.underlying27, eq_false d1]
   exact hQ _ _ _ (.inr ⟨rfl, hP, hst, by simp only [get_put, n_put, ↓reduceIte, Nat.reduceEqDiff, hn]⟩)
  have d1 : (i : Int) < (D.items.length : Int) := by omega
  simp -implicitDefEqProofs (disch := omega) only [allW, allR, oneOf, evalAll, partsA, optA, Nat.reduceLT, Nat.reduceLeDiff, Nat.reduceEqDiff, Nat.reduceAdd, ↓reduceIte, hn, h1, h3, df4, db_items htt htl, hIt.lenA Try.underlying27, eq_true d1]
  obtain ⟨B, hB⟩ : ∃ B : Nat -> Bool, B = fun j => decide (j < t.next) := ⟨_, rfl⟩
  have hBl : ∀ j, B j = true -> j < t.next := by
   intro j h
   rw [hB] at h
   exact of_decide_eq_true h
  have hBo : ∀ j, j < t.next -> B j = true := fun j h => by rw [hB]; exact decide_eq_true h
  refine LB.Drawn.looseK B hBl 1 0 (by kernel_rfl) (by kernel_rfl) ?_
  have hsq := Stay.spare t 0
  have hnQ : (spare t 0).next = t.next + 0 := spare_next _ _
  have mlb : ∀ k, LA.lowV B (some (.pointer (some ⟨s.next, k, some 10⟩))) = true := fun k => LA.lowV_ptr (A := B) (i := s.next) (hBo _ htt.lt)
  have hIq := hIt.keeps hsq
  have hix := hIt.indexAddr (P := Try.prog) (k := .i64) (x := (i : Int)) Try.underlying27 szI (by omega) (by omega)
  rw [Int.toNat_natCast] at hix
  obtain ⟨q0, q1⟩ := efI hIt hlt
  obtain ⟨b1, b2, b3, bv, b4, b5, b6⟩ := itemB (hD.rows.row i hlt)
  have hlv := hIq.loadPart (P := Try.prog) agO szO hlt (j := 1) (by omega)
  have lP := fun j => LA.lowV_plus hIt hBo hlt j
  have hoi := b3.keeps (hs0.trans (hsq.weaken hs0.next))
  have db8 : ∀ t', Stay t.next t t' -> loadA Try.prog t' 27 (.pointer (some ⟨s.next, 8, some 10⟩)) = some iv := fun t' h => db_items (htt.keeps h) htl
  simp -implicitDefEqProofs (disch := omega) only [allW, allR, allL, allB, Nat.sub_self, Nat.add_one_sub_one, Nat.reduceSub, oneOf, evalAll, partsA, optA, Nat.reduceLT, Nat.reduceLeDiff, Nat.reduceEqDiff, Nat.reduceAdd, ↓reduceIte, hn, h1, h3, df4, db8 _ hsq, mlb, lP, hIq.self, hix, q1, hlv, hoi.self, valEq_plus, valEq_elemPtr]
  refine (rmayTop_any m0 m1 m2 m3 m4 m5 D.items[i].2 F (spare t 0) _ hoi (hf.items _ (List.getElem_mem hlt))).mono ?_
  rintro _ t2 ⟨⟨u, rfl, hm⟩, k4⟩
  have k02 := hsq.trans (k4.weaken hsq.next)
  have hst2 := hst.trans (k02.weaken hst.next)
  have wB : ∀ b, valEq (.bool b) (.bool b) = true := fun b => by cases b <;> rfl
  refine ⟨fun _ => LA.Stay.toA hBl (k4.weaken (by omega)), ?_⟩
  have hI2 := hIt.keeps k02
  have hln := hI2.loadField (P := Try.prog) agInt hlt (j := 0) (by omega)
  rw [Nat.add_zero, b1] at hln
  cases u with
  | false =>
   simp -implicitDefEqProofs (disch := omega) only [allW, allR, allL, allB, Nat.sub_self, Nat.add_one_sub_one, Nat.reduceSub, oneOf, evalAll, partsA, optA, Nat.reduceLT, Nat.reduceLeDiff, Nat.reduceEqDiff, Nat.reduceAdd, ↓reduceIte, allW, allR, oneOf, evalAll, partsA, optA, Nat.reduceLT, Nat.reduceLeDiff, Nat.reduceEqDiff, Nat.reduceAdd, ↓reduceIte, undef, hn, h1, h3, wB, Bool.not_false]
   exact hQ _ _ _ (.inl ⟨rfl, hst2, by simp only [get_put, n_put, ↓reduceIte, Nat.reduceEqDiff, hn], by simp only [get_put, n_put, ↓reduceIte, Nat.reduceEqDiff]⟩)
  | true =>
  have hm := hm.1 rfl
  by_cases e1 : D.items[i].1 < 1
  ·simp -implicitDefEqProofs (disch := omega) only [allW, allR, allL, allB, Nat.sub_self, Nat.add_one_sub_one, Nat.reduceSub, oneOf, evalAll, partsA, optA, Nat.reduceLT, Nat.reduceLeDiff, Nat.reduceEqDiff, Nat.reduceAdd, ↓reduceIte, allW, allR, oneOf, evalAll, partsA, optA, Nat.reduceLT, Nat.reduceLeDiff, Nat.reduceEqDiff, Nat.reduceAdd, ↓reduceIte, undef, hn, h1, h3, wB, Bool.not_true, df4, db8 _ k02, mlb, lP, hI2.self, hix, q0, hln, valEq_int, valEq_plus, valEq_elemPtr, eq_true e1]
   exact hQ _ _ _ (.inl ⟨rfl, hst2, by simp only [get_put, n_put, ↓reduceIte, Nat.reduceEqDiff, hn], by simp only [get_put, n_put, ↓reduceIte, Nat.reduceEqDiff]⟩)
  by_cases e2 : (8388607 : Int) < D.items[i].1
  ·simp -implicitDefEqProofs (disch := omega) only [allW, allR, allL, allB, Nat.sub_self, Nat.add_one_sub_one, Nat.reduceSub, oneOf, evalAll, partsA, optA, Nat.reduceLT, Nat.reduceLeDiff, Nat.reduceEqDiff, Nat.reduceAdd, ↓reduceIte, allW, allR, oneOf, evalAll, partsA, optA, Nat.reduceLT, Nat.reduceLeDiff, Nat.reduceEqDiff, Nat.reduceAdd, ↓reduceIte, undef, hn, h1, h3, wB, Bool.not_true, df4, db8 _ k02, mlb, lP, hI2.self, hix, q0, hln, valEq_int, valEq_plus, valEq_elemPtr, eq_false e1, eq_true e2]
   exact hQ _ _ _ (.inl ⟨rfl, hst2, by simp only [get_put, n_put, ↓reduceIte, Nat.reduceEqDiff, hn], by simp only [get_put, n_put, ↓reduceIte, Nat.reduceEqDiff]⟩)
  have hOki : (∀ e', 0 < i -> D.items[i - 1]? = some e' -> e'.1 < D.items[i].1) -> Ok i := fun h => by
   rw [hOk]
   intro e he
   rw [List.getElem?_eq_getElem hlt] at he
   injection he with he
   subst he
   exact ⟨hm, by omega, by omega, h⟩
  have hnext : Ok i -> ∀ j, j < i + 1 -> Ok j := fun h j hj => by
   by_cases hji : j = i
   ·subst hji; exact h
   ·exact hP j (by omega)
  clear hOk
  by_cases hi0 : i = 0
  ·have d0 : ¬ (0 : Int) < (i : Int) := by omega
   simp -implicitDefEqProofs (disch := omega) only [allW, allR, allL, allB, Nat.sub_self, Nat.add_one_sub_one, Nat.reduceSub, oneOf, evalAll, partsA, optA, Nat.reduceLT, Nat.reduceLeDiff, Nat.reduceEqDiff, Nat.reduceAdd, ↓reduceIte, allW, allR, oneOf, evalAll, partsA, optA, Nat.reduceLT, Nat.reduceLeDiff, Nat.reduceEqDiff, Nat.reduceAdd, ↓reduceIte, undef, hn, h1, h3, wB, Bool.not_true, df4, db8 _ k02, mlb, lP, hI2.self, hix, q0, hln, valEq_int, valEq_plus, valEq_elemPtr, eq_false e1, eq_false e2, eq_false d0, wrapI]
   exact wround_next (D.items.length - (i + 1)) (by omega) ⟨i + 1, rfl, by omega, hnext (hOki (fun e' h => by omega)), hst2, by simp only [get_put, n_put, ↓reduceIte, Nat.reduceEqDiff, hn], by simp only [get_put, n_put, ↓reduceIte, Nat.reduceEqDiff, h1], by simp only [get_put, n_put, ↓reduceIte, Nat.reduceEqDiff]; rfl⟩
  have d0 : (0 : Int) < (i : Int) := by omega
  have hlt0 : i - 1 < D.items.length := by omega
  have iz := hIt.indexAddr (P := Try.prog) (k := .i64) (x := (i : Int) - 1) Try.underlying27 szI (by omega) (by omega)
  rw [show ((i : Int) - 1).toNat = i - 1 by omega] at iz
  obtain ⟨z0, _⟩ := efI hIt hlt0
  obtain ⟨zb, -⟩ := itemB (hD.rows.row (i - 1) hlt0)
  have lz := hI2.loadField (P := Try.prog) agInt hlt0 (j := 0) (by omega)
  rw [Nat.add_zero, zb] at lz
  have lZ := fun j => LA.lowV_plus hIt hBo hlt0 j
  by_cases e3 : D.items[i].1 ≤ (D.items[i - 1]'hlt0).1
  ·simp -implicitDefEqProofs (disch := omega) only [allW, allR, allL, allB, Nat.sub_self, Nat.add_one_sub_one, Nat.reduceSub, oneOf, evalAll, partsA, optA, Nat.reduceLT, Nat.reduceLeDiff, Nat.reduceEqDiff, Nat.reduceAdd, ↓reduceIte, allW, allR, oneOf, evalAll, partsA, optA, Nat.reduceLT, Nat.reduceLeDiff, Nat.reduceEqDiff, Nat.reduceAdd, ↓reduceIte, undef, hn, h1, h3, wB, Bool.not_true, df4, db8 _ k02, mlb, lP, hI2.self, hix, q0, hln, valEq_int, valEq_plus, valEq_elemPtr, eq_false e1, eq_false e2, eq_true d0, iz, z0, lz, lZ, wrapI, eq_true e3]
   exact hQ _ _ _ (.inl ⟨rfl, hst2, by simp only [get_put, n_put, ↓reduceIte, Nat.reduceEqDiff, hn], by simp only [get_put, n_put, ↓reduceIte, Nat.reduceEqDiff]⟩)
  ·simp -implicitDefEqProofs (disch := omega) only [allW, allR, allL, allB, Nat.sub_self, Nat.add_one_sub_one, Nat.reduceSub, oneOf, evalAll, partsA, optA, Nat.reduceLT, Nat.reduceLeDiff, Nat.reduceEqDiff, Nat.reduceAdd, ↓reduceIte, allW, allR, oneOf, evalAll, partsA, optA, Nat.reduceLT, Nat.reduceLeDiff, Nat.reduceEqDiff, Nat.reduceAdd, ↓reduceIte, undef, hn, h1, h3, wB, Bool.not_true, df4, db8 _ k02, mlb, lP, hI2.self, hix, q0, hln, valEq_int, valEq_plus, valEq_elemPtr, eq_false e1, eq_false e2, eq_true d0, iz, z0, lz, lZ, wrapI, eq_false e3]
   exact wround_next (D.items.length - (i + 1)) (by omega) ⟨i + 1, rfl, by omega, hnext (hOki (fun e' _ h => by
    rw [List.getElem?_eq_getElem hlt0] at h
    injection h with h
    rw [← h]; omega)), hst2, by simp only [get_put, n_put, ↓reduceIte, Nat.reduceEqDiff, hn], by simp only [get_put, n_put, ↓reduceIte, Nat.reduceEqDiff, h1], by simp only [get_put, n_put, ↓reduceIte, Nat.reduceEqDiff]; rfl⟩
 clear hn h0 f
 rintro z f t (⟨rfl, hst, hn, h2⟩ | ⟨rfl, hP, hst, hn⟩)
 ·simp -implicitDefEqProofs (disch := omega) only [allW, allR, oneOf, evalAll, partsA, optA, Nat.reduceLT, Nat.reduceLeDiff, Nat.reduceEqDiff, Nat.reduceAdd, ↓reduceIte]
  exact hno _ _ (hs3.trans (hst.weaken hs3.next)) hn h2
 simp -implicitDefEqProofs (disch := omega) only [allW, allR, wfn_ret, wfn_normal, oneOf, evalAll, partsA, optA, Nat.reduceLT, Nat.reduceLeDiff, Nat.reduceEqDiff, Nat.reduceAdd, ↓reduceIte, hn, Try.results9]
 rw [hOk] at hP
 have hall : ∀ e ∈ D.items, MayO 28 e.2 ∧ 1 ≤ e.1 ∧ e.1 ≤ 8388607 := fun e he => by
  obtain ⟨j, hj, rfl⟩ := List.mem_iff_getElem.1 he
  have := hP j hj _ (List.getElem?_eq_getElem hj)
  exact ⟨this.1, this.2.1, this.2.2.1⟩
 have hstep : ∀ j (h : j + 1 < D.items.length), (D.items[j]'(by omega)).1 < D.items[j + 1].1 := fun j h => by
  have := (hP (j + 1) h _ (List.getElem?_eq_getElem h)).2.2.2 (D.items[j]'(by omega)) (by omega) (by rw [Nat.add_sub_cancel]; exact List.getElem?_eq_getElem _)
  exact this
 refine ⟨⟨true, rfl, fun _ => ⟨hsm, c7, hmay, fun e he => (hall e he).1, fun e he => (hall e he).2, List.pairwise_iff_getElem.2 (fun i j hi hj hij => ?_)⟩⟩, hs3.trans (hst.weaken hs3.next)⟩
 have : ∀ k, i + 1 + k < D.items.length -> ∀ h : i + 1 + k < D.items.length, (D.items[i]'hi).1 < (D.items[i + 1 + k]'h).1 := by
  intro k
  induction k with
  | zero => intro _ h; exact hstep i h
  | succ k ih =>
   intro _ h
   have h1 := ih (by omega) (by omega)
   have h2 := hstep (i + 1 + k) h
   exact Int.lt_trans h1 h2
 have h := this (j - (i + 1)) (by omega) (by omega)
 have e : i + 1 + (j - (i + 1)) = j := by omega
 simpa only [e] using h
end Go.Proofs.Ythlbahnfimigcaa
namespace Go.Cl
def findD (l : List (Int × O)) (n : Int) : O × Bool := match l.find? (fun e => e.1 == n) with
 | some e => (e.2, true)
 | none => (O.none, false)
theorem findD_at {d : List (Int × O)} {k : Int} {i : Nat} (hi : i < d.length) (h1 : d[i].1 = k) (h2 : ∀ j (h : j < i), (d[j]'(Nat.lt_trans h hi)).1 ≠ k) : findD d k = (d[i].2, true) := by
 unfold findD
 have : d.find? (fun y => y.1 == k) = some d[i] := by
  rw [List.find?_eq_some_iff_getElem]
  refine ⟨by simpa using h1, i, hi, rfl, fun j hj => ?_⟩
  have := h2 j hj
  simpa using this
 rw [this]
theorem findD_none {d : List (Int × O)} {k : Int} (h2 : ∀ j (h : j < d.length), d[j].1 ≠ k) : findD d k = (O.none, false) := by
 unfold findD
 have : d.find? (fun y => y.1 == k) = none := by
  rw [List.find?_eq_none]
  intro y hy
  obtain ⟨j, hj, rfl⟩ := List.mem_iff_getElem.1 hy
  simpa using h2 j hj
 rw [this]
def onI (D : List (Int × O)) (n : Int) (i : Nat) : Bool := match D[i]? with
 | some y => decide (y.1 = n)
 | none => false
theorem onI_at {D : List (Int × O)} {n : Int} {i : Nat} (h : i < D.length) : onI D n i = decide (D[i].1 = n) := by
 unfold onI; rw [List.getElem?_eq_getElem h]
end Go.Cl
namespace Go.Proofs.Ythlbahnfimigcaa
open Go.Cl Go.Lib
def BoolsI (s : ASt) (t : Bool) (v : Value) (s' : ASt) : Prop := v = .bool t ∧ Stay s.next s s'
def FoundIt (s : ASt) (p : Nat -> Bool) (n : Nat) (v : Value) (s' : ASt) : Prop := (∃ r, v = .int .i64 r ∧ FirstAt p n r) ∧ Stay s.next s s'
set_option maxHeartbeats 4000000 in
theorem indexI {lib : Prims} (hl : lib.at 39 = none) (g : Nat) (bs : List Value) (s : ASt) (x : Value) (n : Nat) (lx : List Value) (hx : Sees s 6 x n lx) (hnn : n ≤ 140737488351232) (p : Nat -> Bool)
  (h : ∀ i, i < n -> ∀ s' : ASt, Stay s.next s s' -> Runs Try.prog lib g (.agg ((lx.drop (i * 6)).take 6).toArray :: bs) s' (BoolsI s' (p i))) :
  Runs Try.prog lib 39 [x, .func (.func g) #[] bs.toArray] s (FoundIt s p n) := by
 refine Runs.enter 19 Try.func39 rfl hl rfl rfl ?_
 intro f hn hf
 have h0 : f.get 0 = x := hf 0
 have h1 : f.get 1 = .func (.func g) #[] bs.toArray := hf 1
 clear hf
 simp -implicitDefEqProofs (disch := omega) only [allW, allR, oneOf, evalAll, partsA, optA, Nat.reduceLT, Nat.reduceLeDiff, Nat.reduceEqDiff, Nat.reduceAdd, ↓reduceIte, hn, h0, h1, hx.lenA Try.underlying27]
 refine Comes.loopOut (fun z f s' => ∃ i : Nat, z = n - i ∧ i ≤ n ∧ (∀ j, j < i -> p j = false) ∧ Stay s.next s s' ∧ f.n = 19 ∧ f.get 0 = x ∧ f.get 1 = .func (.func g) #[] bs.toArray ∧ f.get 7 = .int .i64 (n : Nat) ∧ f.get 8 = .int .i64 (i : Nat))
  (fun z f s' => (z = .ret ∧ Stay s.next s s' ∧ f.n = 19 ∧ ∃ r : Nat, f.get 4 = .int .i64 (r : Nat) ∧ r < n ∧ p r = true ∧ ∀ j, j < r -> p j = false) ∨ (z = .exit 0 ∧ (∀ j, j < n -> p j = false) ∧ Stay s.next s s' ∧ f.n = 19))
  ⟨0, rfl, by omega, fun j h => by omega, Stay.refl _ _, by simp only [get_put, n_put, ↓reduceIte, Nat.reduceEqDiff, hn], by simp only [get_put, n_put, ↓reduceIte, Nat.reduceEqDiff, h0], by simp only [get_put, n_put, ↓reduceIte, Nat.reduceEqDiff, h1], by simp only [get_put, n_put, ↓reduceIte, Nat.reduceEqDiff], by simp only [get_put, n_put, ↓reduceIte, Nat.reduceEqDiff]; rfl⟩ ?_ ?_
 ·clear hn h0 h1 f
  rintro Q hQ z f s2 ⟨i, rfl, hi, hP, hst, hn, h0, h1, h7, h8⟩
  by_cases hlt : i < n
  rotate_left
  ·obtain rfl : i = n := by omega
   have d1 : ¬ ((i : Nat) : Int) < ((i : Nat) : Int) := by omega
   simp -implicitDefEqProofs (disch := omega) only [allW, allR, oneOf, evalAll, partsA, optA, Nat.reduceLT, Nat.reduceLeDiff, Nat.reduceEqDiff, Nat.reduceAdd, ↓reduceIte, hn, h0, h1, h7, h8, eq_false d1]
   exact hQ _ _ _ (.inr ⟨rfl, hP, hst, by simp only [get_put, n_put, ↓reduceIte, Nat.reduceEqDiff, hn]⟩)
  have d1 : ((i : Nat) : Int) < ((n : Nat) : Int) := by omega
  have hx2 := hx.keeps hst
  have hix := hx2.indexAddr (P := Try.prog) (k := .i64) (x := (i : Int)) Try.underlying27 szI (by omega) (by omega)
  rw [Int.toNat_natCast] at hix
  have hld := hx2.loadAgg (P := Try.prog) agI szI hlt
  have hrun := h i hlt s2 hst
  generalize (lx.drop (i * 6)).take 6 = xs at hld hrun
  simp -implicitDefEqProofs (disch := omega) only [allW, allR, oneOf, evalAll, partsA, optA, Nat.reduceLT, Nat.reduceLeDiff, Nat.reduceEqDiff, Nat.reduceAdd, ↓reduceIte, hn, h0, h1, h7, h8, eq_true d1, hx2.self, hix, hld]
  refine hrun.mono ?_
  rintro _ s3 ⟨rfl, hs3⟩
  have hss := hst.trans (hs3.weaken hst.next)
  cases hp : p i with
  | true =>
   simp -implicitDefEqProofs (disch := omega) only [allW, allR, oneOf, evalAll, partsA, optA, Nat.reduceLT, Nat.reduceLeDiff, Nat.reduceEqDiff, Nat.reduceAdd, ↓reduceIte, hn, h0, h1, h7, h8]
   exact hQ _ _ _ (.inl ⟨rfl, hss, by simp only [get_put, n_put, ↓reduceIte, Nat.reduceEqDiff, hn], i, by simp only [get_put, n_put, ↓reduceIte, Nat.reduceEqDiff], hlt, hp, hP⟩)
  | false =>
   simp -implicitDefEqProofs (disch := omega) only [allW, allR, oneOf, evalAll, partsA, optA, Nat.reduceLT, Nat.reduceLeDiff, Nat.reduceEqDiff, Nat.reduceAdd, ↓reduceIte, hn, h0, h1, h7, h8, wrapI]
   exact wround_next (n - (i + 1)) (by omega) ⟨i + 1, rfl, by omega, upto_next hP hp, hss, by simp only [get_put, n_put, ↓reduceIte, Nat.reduceEqDiff, hn], by simp only [get_put, n_put, ↓reduceIte, Nat.reduceEqDiff, h0], by simp only [get_put, n_put, ↓reduceIte, Nat.reduceEqDiff, h1], by simp only [get_put, n_put, ↓reduceIte, Nat.reduceEqDiff, h7], by simp only [get_put, n_put, ↓reduceIte, Nat.reduceEqDiff]; rfl⟩
 rintro z f' s6 (⟨rfl, hs, hn', r, h4, hr1, hr2, hr3⟩ | ⟨rfl, hP, hs, hn'⟩)
 ·simp -implicitDefEqProofs (disch := omega) only [allW, allR, wfn_ret, wfn_normal, oneOf, evalAll, partsA, optA, Nat.reduceLT, Nat.reduceLeDiff, Nat.reduceEqDiff, Nat.reduceAdd, ↓reduceIte, hn', h4, Try.results39]
  exact ⟨⟨_, rfl, .inr ⟨r, hr1, rfl, hr2, hr3⟩⟩, hs⟩
 simp -implicitDefEqProofs (disch := omega) only [allW, allR, wfn_ret, wfn_normal, oneOf, evalAll, partsA, optA, Nat.reduceLT, Nat.reduceLeDiff, Nat.reduceEqDiff, Nat.reduceAdd, ↓reduceIte, hn', Try.results39]
 exact ⟨⟨_, rfl, .inl ⟨rfl, hP⟩⟩, hs⟩
theorem cloI {lib : Prims} (hl : lib.at 40 = none) (F : Nat -> Prop) (s : ASt) (cs : List Value) (e : Int × O) (he : ItIs F s cs e) (j : Nat) (n : Int) (hj : Thing s j [.int .i64 n]) :
  Runs Try.prog lib 40 [.agg cs.toArray, .pointer (some ⟨j, 0, some 2⟩)] s (BoolsI s (decide (e.1 = n))) := by
 have hcl := he.len
 obtain ⟨r, rfl, hr⟩ := he
 refine Runs.enter 8 Try.func40 rfl hl rfl rfl ?_
 intro f hn hf
 have h0 : f.get 0 = .agg (.int .i64 e.1 :: r).toArray := hf 0
 have h1 : f.get 1 = .pointer (some ⟨j, 0, some 2⟩) := hf 1
 clear hf
 simp -implicitDefEqProofs (disch := omega) only [allW, allR, oneOf, evalAll, partsA, optA, Nat.reduceLT, Nat.reduceLeDiff, Nat.reduceEqDiff, Nat.reduceAdd, ↓reduceIte, hn, h0, h1]
 refine wstep_newPtr ?_
 intro s1 ht1 hst1 hnx1
 have hj1 := hj.keeps hst1
 have q1 := hr.len
 have l1 : loadA Try.prog s1 3 (.pointer (some ⟨s.next, 0, some 7⟩)) = some (.int .i64 e.1) := ht1.load agInt (off := 0) (c := 7) (by simp [q1]) (by simp)
 have l2 : loadA Try.prog s1 3 (.pointer (some ⟨j, 0, some 2⟩)) = some (.int .i64 n) := hj1.load agInt (off := 0) (c := 2) rfl (by simp)
 simp -implicitDefEqProofs (disch := omega) only [allW, allR, wfn_ret, wfn_normal, oneOf, evalAll, partsA, optA, Nat.reduceLT, Nat.reduceLeDiff, Nat.reduceEqDiff, Nat.reduceAdd, ↓reduceIte, hn, h0, h1, hcl, List.length_cons, q1, if0, l1, l2, Try.results40]
 exact ⟨rfl, hst1⟩
def FindR (s : ASt) (x : O × Bool) (v : Value) (s' : ASt) : Prop := ∃ cs, v = .tuple #[.agg cs.toArray, .bool x.2] ∧ OIs (fun j => s.next ≤ j) s' cs x.1 ∧ Stay s.next s s'
set_option maxHeartbeats 4000000 in
theorem find_any {lib : Prims} (hl : lib.at 12 = none) (hli : lib.at 39 = none) (hlc : lib.at 40 = none) (hcp : lib.at 41 = none) (hcl : lib.at 42 = none) (F : Nat -> Prop) (s : ASt) (D : Dc) (mv : Value) (tc : List Value) (iv : Value) (ic : List Value) (hD : DocIs F s mv tc iv ic D) (hs : SmallP D) (n : Int) :
  Runs Try.prog lib 12 [.agg (docC D mv tc iv).toArray, .int .i64 n] s (FindR s (findD D.items n)) := by
 have htl := hD.trailer.len
 have dl := db_len (D := D) (mv := mv) (iv := iv) htl
 have hlen := hs.len
 refine Runs.enter 21 Try.func12 rfl hl rfl rfl ?_
 intro f hn hf
 have h0 : f.get 0 = .agg (docC D mv tc iv).toArray := hf 0
 have h1 : f.get 1 = .int .i64 n := hf 1
 clear hf
 simp -implicitDefEqProofs (disch := omega) only [allW, allR, oneOf, evalAll, partsA, optA, Nat.reduceLT, Nat.reduceLeDiff, Nat.reduceEqDiff, Nat.reduceAdd, ↓reduceIte, hn, h0, h1]
 refine wstep_newPtr ?_
 intro s1 ht1 hst1 hnx1
 have ht1 : Thing s1 s.next (docC D mv tc iv) := ht1
 simp -implicitDefEqProofs (disch := omega) only [allW, allR, oneOf, evalAll, partsA, optA, Nat.reduceLT, Nat.reduceLeDiff, Nat.reduceEqDiff, Nat.reduceAdd, ↓reduceIte, hn, h0, h1, dl]
 refine wstep_newPtr ?_
 intro s2 ht2 hst2 hnx2
 have ht2 : Thing s2 s1.next [.int .i64 n] := ht2
 simp -implicitDefEqProofs (disch := omega) only [allW, allR, oneOf, evalAll, partsA, optA, Nat.reduceLT, Nat.reduceLeDiff, Nat.reduceEqDiff, Nat.reduceAdd, ↓reduceIte, hn, h0, h1, zO, plO]
 refine wstep_newPtr ?_
 intro s3 ht3 hst3 hnx3
 have n1 := hst1.next
 have n2 := hst2.next
 have n3 := hst3.next
 have hs2 : Stay s.next s s2 := hst1.trans (hst2.weaken n1)
 have hs3 : Stay s.next s s3 := hs2.trans (hst3.weaken (by omega))
 have ht13 := ht1.keeps (hst2.trans (hst3.weaken n2))
 have ht23 := ht2.keeps hst3
 have hI3 := hD.items.keeps hs3
 have hd6 : noneC.length + 1 = 6 := rfl
 have hd2 : (Value.int IntKind.i64 n).cells.toList.length + 1 = 2 := rfl
 simp -implicitDefEqProofs (disch := omega) only [allW, allR, oneOf, evalAll, partsA, optA, Nat.reduceLT, Nat.reduceLeDiff, Nat.reduceEqDiff, Nat.reduceAdd, ↓reduceIte, hn, h0, h1, hd6, hd2, df4, db_items ht13 htl, aop_makeFunc, hI3.self]
 refine (indexI hli 40 [.pointer (some ⟨s1.next, 0, some 2⟩)] s3 iv D.items.length ic hI3 (by omega) (onI D.items n) (fun i hi s' hs' => ?_)).mono ?_
 ·rw [onI_at hi]
  exact cloI hlc F s' _ _ (rowedI.keeps (hD.rows.row i hi) (hs3.trans (hs'.weaken hs3.next))) s1.next n (ht23.keeps hs')
 rintro _ s4 ⟨⟨r, rfl, hr⟩, hs4⟩
 have hs04 : Stay s.next s s4 := hs3.trans (hs4.weaken hs3.next)
 have ht34 := ht3.keeps hs4
 have hs34n := hs4.next
 rcases hr with ⟨rfl, hall⟩ | ⟨k, hk, rfl, hk1, hk0⟩
 ·have e : findD D.items n = (O.none, false) := findD_none (fun j h => by
   have := hall j h
   rw [onI_at h] at this
   exact of_decide_eq_false this)
  have d1 : (-1 : Int) < 0 := by omega
  simp -implicitDefEqProofs (disch := omega) only [allW, allR, oneOf, evalAll, partsA, optA, Nat.reduceLT, Nat.reduceLeDiff, Nat.reduceEqDiff, Nat.reduceAdd, ↓reduceIte, hn, h0, h1, eq_true d1, bO0]
  refine wstep_storeAll szO (by decide) ht34 rfl rfl rfl rfl ?_
  intro s5 ht5 hnx5 hot5
  simp -implicitDefEqProofs (disch := omega) only [allW, allR, wfn_ret, wfn_normal, oneOf, evalAll, partsA, optA, Nat.reduceLT, Nat.reduceLeDiff, Nat.reduceEqDiff, Nat.reduceAdd, ↓reduceIte, hn, Thing.loadO ht5 rfl, resultsA_cell, Try.results12]
  rw [e]
  exact ⟨noneC, rfl, OIs.none _ _, hs04.trans ⟨by omega, fun j hj => hot5 j (by omega)⟩⟩
 ·have e : findD D.items n = (D.items[k].2, true) := findD_at hk (by rw [onI_at hk] at hk1; exact of_decide_eq_true hk1) (fun j h => by
   have := hk0 j h
   rw [onI_at (Nat.lt_trans h hk)] at this
   exact of_decide_eq_false this)
  have d1 : ¬ ((k : Nat) : Int) < 0 := by omega
  have hI4 := hD.items.keeps hs04
  have hix := hI4.indexAddr (P := Try.prog) (k := .i64) (x := (k : Int)) Try.underlying27 szI (by omega) (by omega)
  rw [Int.toNat_natCast] at hix
  obtain ⟨q0, q1⟩ := efI hI4 hk
  obtain ⟨b1, b2, b3, -⟩ := itemB (hD.rows.row k hk)
  have hlv := hI4.loadPart (P := Try.prog) agO szO hk (j := 1) (by omega)
  have ht14 := ht13.keeps hs4
  simp -implicitDefEqProofs (disch := omega) only [allW, allR, oneOf, evalAll, partsA, optA, Nat.reduceLT, Nat.reduceLeDiff, Nat.reduceEqDiff, Nat.reduceAdd, ↓reduceIte, hn, h0, h1, eq_false d1, df4, db_items ht14 htl, hix, q1, hlv]
  refine (copyO hcp hcl _ D.items[k].2 (Nat.le_refl _) F s4 _ (b3.keeps hs04) (hs.items _ (List.getElem_mem hk))).mono ?_
  intro v s5 h5
  obtain ⟨cs', rfl, ho5, hst5⟩ := h5.is
  have hcl' := ho5.len
  have n5 := hst5.next
  simp -implicitDefEqProofs (disch := omega) only [allW, allR, oneOf, evalAll, partsA, optA, Nat.reduceLT, Nat.reduceLeDiff, Nat.reduceEqDiff, Nat.reduceAdd, ↓reduceIte, hn, h0, h1]
  refine wstep_storeAll szO (by decide) (ht34.keeps hst5) rfl rfl hcl' ho5.ok ?_
  intro s6 ht6 hnx6 hot6
  simp -implicitDefEqProofs (disch := omega) only [allW, allR, wfn_ret, wfn_normal, oneOf, evalAll, partsA, optA, Nat.reduceLT, Nat.reduceLeDiff, Nat.reduceEqDiff, Nat.reduceAdd, ↓reduceIte, hn, Thing.loadO ht6 hcl', resultsA_cell, Try.results12]
  rw [e]
  exact ⟨cs', rfl, (ho5.ofPut hnx6 hot6 (by omega)).mono (fun j hj => by have hj : _ ≤ j := hj; omega), (hs04.trans (hst5.weaken hs04.next)).trans ⟨by omega, fun j hj => hot6 j (by omega)⟩⟩
end Go.Proofs.Ythlbahnfimigcaa
namespace Go.Cl
theorem intsV_getD {M : List Int} {k : Nat} (h : k < M.length) : (intsV M).getD k undef = .int .i64 M[k] := by
 simp [intsV, List.getD, List.getElem?_eq_getElem h]
theorem intsV_set (M : List Int) (k : Nat) (x : Int) : (intsV M).set k (.int .i64 x) = intsV (M.set k x) := by
 simp [intsV, List.map_set]
def TurnedTo (M M' : List Int) (i : Nat) : Prop := M'.length = M.length ∧ ∀ k, k < M.length -> M'[k]? = if k < i ∨ M.length - i ≤ k then M[M.length - 1 - k]? else M[k]?
theorem TurnedTo.start (M : List Int) : TurnedTo M M 0 := by
 refine ⟨rfl, fun k hk => ?_⟩
 rw [if_neg (by omega)]
theorem TurnedTo.step {M M' : List Int} {i j : Nat} (h : TurnedTo M M' i) (hj : j + 1 + i = M.length) (hij : i < j) (h1 : i < M'.length) (h2 : j < M'.length) : TurnedTo M ((M'.set i M'[j]).set j M'[i]) (i + 1) := by
 obtain ⟨hl, h⟩ := h
 refine ⟨by simp [hl], fun k hk => ?_⟩
 rw [List.getElem?_set, List.getElem?_set]
 have hi' := h i (by omega)
 have hj' := h j (by omega)
 rw [if_neg (by omega), List.getElem?_eq_getElem h1] at hi'
 rw [if_neg (by omega), List.getElem?_eq_getElem h2] at hj'
 by_cases ejk : j = k
 ·subst ejk
  rw [if_pos rfl, if_pos (by simp; omega), if_pos (by omega), hi', show M.length - 1 - j = i by omega]
 ·rw [if_neg ejk]
  by_cases eik : i = k
  ·subst eik
   rw [if_pos rfl, if_pos (by omega), if_pos (by omega), hj', show M.length - 1 - i = j by omega]
  ·rw [if_neg eik, h k hk]
   by_cases c : k < i ∨ M.length - i ≤ k
   ·rw [if_pos c, if_pos (by omega)]
   ·rw [if_neg c, if_neg (by omega)]
theorem TurnedTo.done {M M' : List Int} {i : Nat} (h : TurnedTo M M' i) (hi : M.length ≤ i + 1 + i) : M' = M.reverse := by
 obtain ⟨hl, h⟩ := h
 refine List.ext_getElem? fun k => ?_
 by_cases hk : k < M.length
 ·rw [List.getElem?_reverse hk, h k hk]
  split
  ·rfl
  ·rw [show M.length - 1 - k = k by omega]
 ·rw [List.getElem?_eq_none (by omega), List.getElem?_eq_none (by simp; omega)]
theorem Turns.refl (v : Value) (s : ASt) : Turns v s s := ⟨Nat.le_refl _, fun _ _ _ => rfl⟩
theorem Turns.comp {v : Value} {s s' s'' : ASt} (h : Turns v s s') (k : Turns v s' s'') : Turns v s s'' := ⟨Nat.le_trans h.next k.next, fun i hi hn => (k.get i (Nat.lt_of_lt_of_le hi h.next) hn).trans (h.get i hi hn)⟩
end Go.Cl
namespace Go.Proofs.Ythlbahnfimigcaa
open Go.Cl Go.Lib
def RevR (s : ASt) (x : Value) (M : List Int) (_ : Value) (s' : ASt) : Prop := Own s' 1 x M.length (intsV M.reverse) ∧ Turns x s s'
set_option maxHeartbeats 4000000 in
theorem rev_any {lib : Prims} (hl : lib.at 78 = none) (s : ASt) (x : Value) (M : List Int) (hx : Own s 1 x M.length (intsV M)) (hM : M.length ≤ 1000000000) :
  Runs Try.prog lib 78 [x] s (RevR s x M) := by
 refine Runs.enter 28 Try.func78 rfl hl rfl rfl ?_
 intro f hn hf
 have h0 : f.get 0 = x := hf 0
 clear hf
 simp -implicitDefEqProofs (disch := omega) only [allW, allR, oneOf, evalAll, partsA, optA, Nat.reduceLT, Nat.reduceLeDiff, Nat.reduceEqDiff, Nat.reduceAdd, ↓reduceIte, hn, h0, hx.sees.lenA Try.underlying32, wrapI]
 refine Comes.loopOut (fun z f t => ∃ (i : Nat) (M' : List Int), z = M.length - i ∧ i ≤ M.length ∧ TurnedTo M M' i ∧ Own t 1 x M'.length (intsV M') ∧ Turns x s t ∧ f.n = 28 ∧ f.get 0 = x ∧ f.get 2 = .int .i64 (i : Nat) ∧ f.get 3 = .int .i64 ((M.length : Int) - 1 - (i : Nat)))
  (fun z f t => z = .exit 0 ∧ Own t 1 x M.length (intsV M.reverse) ∧ Turns x s t ∧ f.n = 28)
  ⟨0, M, rfl, by omega, TurnedTo.start M, hx, Turns.refl _ _, by simp only [get_put, n_put, ↓reduceIte, Nat.reduceEqDiff, hn], by simp only [get_put, n_put, ↓reduceIte, Nat.reduceEqDiff, h0], by simp only [get_put, n_put, ↓reduceIte, Nat.reduceEqDiff]; rfl, by simp only [get_put, n_put, ↓reduceIte, Nat.reduceEqDiff]; simp⟩ ?_ ?_
 ·clear hn h0 f
  rintro Q hQ z f t ⟨i, M', rfl, hi, hT, hw, htu, hn, h0, h2, h3⟩
  have hl' := hT.1
  by_cases hlt : i + 1 + i < M.length
  rotate_left
  ·have d1 : ¬ (i : Int) < (M.length : Int) - 1 - (i : Nat) := by omega
   have e := hT.done (by omega)
   subst e
   rw [List.length_reverse] at hw
   simp -implicitDefEqProofs (disch := omega) only [allW, allR, oneOf, evalAll, partsA, optA, Nat.reduceLT, Nat.reduceLeDiff, Nat.reduceEqDiff, Nat.reduceAdd, ↓reduceIte, hn, h0, h2, h3, eq_false d1]
   exact hQ _ _ _ ⟨rfl, hw, htu, by simp only [get_put, n_put, ↓reduceIte, Nat.reduceEqDiff, hn]⟩
  have d1 : (i : Int) < (M.length : Int) - 1 - (i : Nat) := by omega
  obtain ⟨j, hj⟩ : ∃ j, j + 1 + i = M.length := ⟨M.length - 1 - i, by omega⟩
  have ej : (M.length : Int) - 1 - (i : Nat) = (j : Int) := by omega
  rw [ej] at h3 d1
  have hsq := Stay.spare t 0
  have hwq := hw.keeps hsq
  have hiM : i < M'.length := by omega
  have hjM : j < M'.length := by omega
  have hix := hw.sees.indexAddr (P := Try.prog) (k := .i64) (x := (i : Int)) Try.underlying32 szInt (by omega) (by omega)
  have hjx := hw.sees.indexAddr (P := Try.prog) (k := .i64) (x := (j : Int)) Try.underlying32 szInt (by omega) (by omega)
  rw [Int.toNat_natCast] at hix hjx
  have hli := hwq.sees.load1 (P := Try.prog) agInt hiM
  have hlj := hwq.sees.load1 (P := Try.prog) agInt hjM
  rw [intsV_getD hiM] at hli
  rw [intsV_getD hjM] at hlj
  simp -implicitDefEqProofs (disch := omega) only [allW, allR, oneOf, evalAll, partsA, optA, Nat.reduceLT, Nat.reduceLeDiff, Nat.reduceEqDiff, Nat.reduceAdd, ↓reduceIte, hn, h0, h2, h3, eq_true d1]
  obtain ⟨B, hB⟩ : ∃ B : Nat -> Bool, B = fun j => decide (j < t.next) := ⟨_, rfl⟩
  have hBl : ∀ j, B j = true -> j < t.next := by
   intro j h
   rw [hB] at h
   exact of_decide_eq_true h
  have hBo : ∀ j, j < t.next -> B j = true := fun j h => by rw [hB]; exact decide_eq_true h
  have lE := fun k => LA.lowV_elemOld hw.sees hBo (k := k)
  refine LB.Drawn.looseK B hBl 0 0 (by kernel_rfl) (by kernel_rfl) ?_
  simp -implicitDefEqProofs (disch := omega) only [allW, allR, allL, allB, Nat.sub_self, Nat.add_one_sub_one, Nat.reduceSub, oneOf, evalAll, partsA, optA, Nat.reduceLT, Nat.reduceLeDiff, Nat.reduceEqDiff, Nat.reduceAdd, ↓reduceIte, hn, h0, h2, h3, hw.self, hix, hjx, hli, hlj, valEq_int, valEq_elemPtr, lE]
  refine LB.sstep_storeElem szInt hwq hiM (w := .int .i64 M'[j]) rfl (fun h => absurd rfl h) (fun _ h => Nat.lt_of_lt_of_le (hBl _ h) hsq.next) ?_
  intro t1 hw1 ht1
  rw [intsV_set] at hw1
  simp -implicitDefEqProofs (disch := omega) only [allW, allR, allL, allB, Nat.sub_self, Nat.add_one_sub_one, Nat.reduceSub, oneOf, evalAll, partsA, optA, Nat.reduceLT, Nat.reduceLeDiff, Nat.reduceEqDiff, Nat.reduceAdd, ↓reduceIte, hn, h0, h2, h3, hw.self, hix, hjx, hli, hlj, valEq_int, valEq_elemPtr, lE]
  refine LB.sstep_storeElem szInt hw1 hjM (w := .int .i64 M'[i]) rfl (fun h => absurd rfl h) (fun _ h => Nat.lt_of_lt_of_le (hBl _ h) (Nat.le_trans hsq.next ht1.next)) ?_
  intro t2 hw2 ht2
  rw [intsV_set] at hw2
  simp -implicitDefEqProofs (disch := omega) only [allW, allR, allL, allB, Nat.sub_self, Nat.add_one_sub_one, Nat.reduceSub, oneOf, evalAll, partsA, optA, Nat.reduceLT, Nat.reduceLeDiff, Nat.reduceEqDiff, Nat.reduceAdd, ↓reduceIte, allW, allR, oneOf, evalAll, partsA, optA, Nat.reduceLT, Nat.reduceLeDiff, Nat.reduceEqDiff, Nat.reduceAdd, ↓reduceIte, hn, h0, h2, h3, wrapI]
  refine wround_next (M.length - (i + 1)) (by omega) ⟨i + 1, _, rfl, by omega, hT.step hj (by omega) hiM hjM, by simpa using hw2, htu.comp ((Turns.mk hsq.next fun j hj _ => hsq.get j hj).comp (ht1.comp ht2)), by simp only [get_put, n_put, ↓reduceIte, Nat.reduceEqDiff, hn], by simp only [get_put, n_put, ↓reduceIte, Nat.reduceEqDiff, h0], by simp only [get_put, n_put, ↓reduceIte, Nat.reduceEqDiff]; rfl, by simp only [get_put, n_put, ↓reduceIte, Nat.reduceEqDiff]; congr 1; omega⟩
 clear hn h0 f
 rintro z f t ⟨rfl, hw, htu, hn⟩
 simp -implicitDefEqProofs (disch := omega) only [allW, allR, wfn_ret, wfn_normal, oneOf, evalAll, partsA, optA, Nat.reduceLT, Nat.reduceLeDiff, Nat.reduceEqDiff, Nat.reduceAdd, ↓reduceIte, hn, Try.results78]
 exact ⟨hw, htu⟩
theorem takeS {M : List Int} {i : Nat} (h : i < M.length) : M.take (i + 1) = M.take i ++ [M[i]] := by
 rw [List.take_add_one, List.getElem?_eq_getElem h]; rfl
set_option maxHeartbeats 4000000 in
theorem ints_any {lib : Prims} (hl : lib.at 25 = none) (s : ASt) (x y : Value) (M N : List Int) (hx : Sees s 1 x M.length (intsV M)) (hy : Sees s 1 y N.length (intsV N)) (hM : M.length ≤ 1000000000) :
  Runs Try.prog lib 25 [x, y] s (BoolsI s (decide (M = N))) := by
 refine Runs.enter 26 Try.func25 rfl hl rfl rfl ?_
 intro f hn hf
 have h0 : f.get 0 = x := hf 0
 have h1 : f.get 1 = y := hf 1
 clear hf
 by_cases hlen : M.length = N.length
 rotate_left
 ·have d0 : ¬ (M.length : Int) = (N.length : Int) := by omega
  simp -implicitDefEqProofs (disch := omega) only [allW, allR, oneOf, evalAll, partsA, optA, Nat.reduceLT, Nat.reduceLeDiff, Nat.reduceEqDiff, Nat.reduceAdd, ↓reduceIte, allW, allR, wfn_ret, wfn_normal, oneOf, evalAll, partsA, optA, Nat.reduceLT, Nat.reduceLeDiff, Nat.reduceEqDiff, Nat.reduceAdd, ↓reduceIte, hn, h0, h1, hx.lenA Try.underlying32, hy.lenA Try.underlying32, eq_false d0, not_false_eq_true, decide_true, Try.results25]
  exact ⟨by rw [decide_eq_false (fun e => hlen (by rw [e]))], Stay.refl _ _⟩
 have d0 : (M.length : Int) = (N.length : Int) := by omega
 simp -implicitDefEqProofs (disch := omega) only [allW, allR, oneOf, evalAll, partsA, optA, Nat.reduceLT, Nat.reduceLeDiff, Nat.reduceEqDiff, Nat.reduceAdd, ↓reduceIte, hn, h0, h1, hx.lenA Try.underlying32, hy.lenA Try.underlying32, d0, not_true_eq_false, decide_false]
 refine Comes.loopOut (fun z f t => ∃ i : Nat, z = M.length - i ∧ i ≤ M.length ∧ M.take i = N.take i ∧ Stay s.next s t ∧ f.n = 26 ∧ f.get 0 = x ∧ f.get 1 = y ∧ f.get 5 = .int .i64 (i : Nat))
  (fun z f t => (z = .ret ∧ M ≠ N ∧ Stay s.next s t ∧ f.n = 26 ∧ f.get 4 = .bool false) ∨ (z = .exit 0 ∧ M = N ∧ Stay s.next s t ∧ f.n = 26))
  ⟨0, rfl, by omega, by simp, Stay.refl _ _, by simp only [get_put, n_put, ↓reduceIte, Nat.reduceEqDiff, hn], by simp only [get_put, n_put, ↓reduceIte, Nat.reduceEqDiff, h0], by simp only [get_put, n_put, ↓reduceIte, Nat.reduceEqDiff, h1], by simp only [get_put, n_put, ↓reduceIte, Nat.reduceEqDiff]; rfl⟩ ?_ ?_
 ·clear hn h0 h1 f
  rintro Q hQ z f t ⟨i, rfl, hi, hP, hst, hn, h0, h1, h5⟩
  have hxt := hx.keeps hst
  have hyt := hy.keeps hst
  by_cases hlt : i < M.length
  rotate_left
  ·obtain rfl : i = M.length := by omega
   have d1 : ¬ ((M.length : Nat) : Int) < ((M.length : Nat) : Int) := by omega
   rw [List.take_length, hlen, List.take_length] at hP
   simp -implicitDefEqProofs (disch := omega) only [allW, allR, oneOf, evalAll, partsA, optA, Nat.reduceLT, Nat.reduceLeDiff, Nat.reduceEqDiff, Nat.reduceAdd, ↓reduceIte, hn, h0, h1, h5, hxt.lenA Try.underlying32, eq_false d1]
   exact hQ _ _ _ (.inr ⟨rfl, hP, hst, by simp only [get_put, n_put, ↓reduceIte, Nat.reduceEqDiff, hn]⟩)
  have hlt2 : i < N.length := by omega
  have d1 : (i : Int) < (M.length : Int) := by omega
  have hix := hxt.indexAddr (P := Try.prog) (k := .i64) (x := (i : Int)) Try.underlying32 szInt (by omega) (by omega)
  have hiy := hyt.indexAddr (P := Try.prog) (k := .i64) (x := (i : Int)) Try.underlying32 szInt (by omega) (by omega)
  rw [Int.toNat_natCast] at hix hiy
  have hli := hxt.load1 (P := Try.prog) agInt hlt
  have hlj := hyt.load1 (P := Try.prog) agInt hlt2
  rw [intsV_getD hlt] at hli
  rw [intsV_getD hlt2] at hlj
  by_cases he : M[i] = N[i]
  ·simp -implicitDefEqProofs (disch := omega) only [allW, allR, oneOf, evalAll, partsA, optA, Nat.reduceLT, Nat.reduceLeDiff, Nat.reduceEqDiff, Nat.reduceAdd, ↓reduceIte, hn, h0, h1, h5, hxt.lenA Try.underlying32, eq_true d1, hix, hiy, hli, hlj, he, hxt.self, hyt.self, valEq_int, valEq_elemPtr, wrapI, not_true_eq_false, decide_false]
   exact wround_next (M.length - (i + 1)) (by omega) ⟨i + 1, rfl, by omega, by rw [takeS hlt, takeS hlt2, hP, he], hst, by simp only [get_put, n_put, ↓reduceIte, Nat.reduceEqDiff, hn], by simp only [get_put, n_put, ↓reduceIte, Nat.reduceEqDiff, h0], by simp only [get_put, n_put, ↓reduceIte, Nat.reduceEqDiff, h1], by simp only [get_put, n_put, ↓reduceIte, Nat.reduceEqDiff]; rfl⟩
  ·simp -implicitDefEqProofs (disch := omega) only [allW, allR, oneOf, evalAll, partsA, optA, Nat.reduceLT, Nat.reduceLeDiff, Nat.reduceEqDiff, Nat.reduceAdd, ↓reduceIte, hn, h0, h1, h5, hxt.lenA Try.underlying32, eq_true d1, hix, hiy, hli, hlj, eq_false he, hxt.self, hyt.self, valEq_int, valEq_elemPtr, not_false_eq_true, decide_true]
   exact hQ _ _ _ (.inl ⟨rfl, fun e => he (by subst e; rfl), hst, by simp only [get_put, n_put, ↓reduceIte, Nat.reduceEqDiff, hn], by simp only [get_put, n_put, ↓reduceIte, Nat.reduceEqDiff]⟩)
 clear hn h0 h1 f
 rintro z f t (⟨rfl, hm, hst, hn, h4⟩ | ⟨rfl, hm, hst, hn⟩)
 ·simp -implicitDefEqProofs (disch := omega) only [allW, allR, wfn_ret, wfn_normal, oneOf, evalAll, partsA, optA, Nat.reduceLT, Nat.reduceLeDiff, Nat.reduceEqDiff, Nat.reduceAdd, ↓reduceIte, hn, h4, Try.results25]
  exact ⟨by rw [decide_eq_false hm], hst⟩
 ·simp -implicitDefEqProofs (disch := omega) only [allW, allR, wfn_ret, wfn_normal, oneOf, evalAll, partsA, optA, Nat.reduceLT, Nat.reduceLeDiff, Nat.reduceEqDiff, Nat.reduceAdd, ↓reduceIte, hn, Try.results25]
  exact ⟨by rw [decide_eq_true hm], hst⟩
end Go.Proofs.Ythlbahnfimigcaa