/-
  The statement DocPuts: any document, any few objects put into it: what is put is found, a number out of range changes nothing, the program and the reference agree: the law returns true.
  Conditions: none.
-/
import Derived.Test.YthlbahnfimigcaaRows
import Derived.Test.YthlbahnfimigcaaDocV
import Derived.Test.YthlbahnfimigcaaCosR
import Derived.Test.YthlbahnfimigcaaLibR
set_option linter.unusedSimpArgs false
set_option linter.unusedVariables false
set_option maxRecDepth 100000
namespace Go.Cl
structure OkD (m : Nat) (E : Dc) : Prop where
 small : SmallP E
 len : E.items.length ≤ m
 nums : ∀ e ∈ E.items, 1 ≤ e.1 ∧ e.1 ≤ 8388607
 rises : E.items.Pairwise fun a b => a.1 < b.1
theorem FairD.ok {D : Dc} (h : FairD D) : OkD 70 D := ⟨h.small.p, h.small.len, h.nums, h.rises⟩
theorem OkD.put {m : Nat} {E : Dc} (h : OkD m E) (hm : m < 1000) {n : Int} {o : O} (ho : Small o) : OkD (m + 1) (setD n o E) := by
 unfold setD
 split
 ·exact ⟨h.small, Nat.le_succ_of_le h.len, h.nums, h.rises⟩
 rename_i c
 have hl := insI_length (n := n) (o := o) E.items
 have h2 := h.len
 refine ⟨⟨h.small.mark, ?_, h.small.trailer, fun e he => ?_⟩, ?_, fun e he => ?_, insI_rises h.rises⟩
 ·show (insI n o E.items).length ≤ 1000
  omega
 ·rcases insI_mem he with rfl | he
  ·exact ho
  ·exact h.small.items e he
 ·show (insI n o E.items).length ≤ m + 1
  omega
 ·rcases insI_mem he with rfl | he
  ·show 1 ≤ n ∧ n ≤ 8388607
   omega
  ·exact h.nums e he
theorem OkD.found {m : Nat} {E : Dc} (h : OkD m E) (n : Int) (o : O) : (findD (setD n o E).items n).2 = (decide (1 ≤ n) && decide (n ≤ 8388607)) ∧ (1 ≤ n -> n ≤ 8388607 -> (findD (setD n o E).items n).1 = o) := by
 unfold setD
 by_cases c : n < 1 ∨ 8388607 < n
 ·rw [if_pos c]
  have e : findD E.items n = (O.none, false) := findD_none (fun j hj e => by
   have := h.nums _ (List.getElem_mem hj)
   omega)
  rw [e]
  refine ⟨?_, fun h1 h2 => by omega⟩
  rcases c with c | c
  ·rw [decide_eq_false (by omega : ¬ 1 ≤ n)]; rfl
  ·rw [decide_eq_false (by omega : ¬ n ≤ 8388607), Bool.and_false]
 ·rw [if_neg c]
  show (findD (insI n o E.items) n).2 = _ ∧ (1 ≤ n -> n ≤ 8388607 -> (findD (insI n o E.items) n).1 = o)
  rw [insI_find]
  exact ⟨by rw [decide_eq_true (by omega : 1 ≤ n), decide_eq_true (by omega : n ≤ 8388607)]; rfl, fun _ _ => rfl⟩
end Go.Cl
namespace Go.Proofs.Ythlbahnfimigcaa.docPuts
open Go.ChangeShapes Go.WideShapes Go.ChangeAt Go.RowKit Go.Cl Go.Lib
section
variable {H : Type} {enc : TypeId × Value -> H} {W : World}
theorem arg_items {S : St} (h : Begun W S) {r : Reach} {b0 : Nat} {v : Value} {d : DataW H} {ps : List MemPlace} (hd : DataW.Trod enc Try.prog W 0 (fun _ => true) true 27 v d ps) (hw : Wt Try.prog 27 d) (hval : Value.okWide Try.prog W r b0 27 v) :
  ∃ (S' : St) (v' : Value) (lc : List Value) (D : List (Int × O)), Grew W S S' ∧ VR S' v' v ∧ Sees S'.s 6 v' D.length lc ∧ ORows ItIs 6 (fun _ => True) S'.s D lc ∧ (∀ e ∈ D, Fit e.2) ∧ D.length ≤ 140737488351232 := by
 obtain ⟨a, len, cap, rfl⟩ := okWide_slice Try.underlying27 hval
 obtain ⟨fuel, hf⟩ := hd
 obtain ⟨S', v', v, lc, D, e, hg, hv, hs, _, hq, hp, hk⟩ := rows_open h (Q := fun F s cs e => ItIs F s cs e) (p := fun e => Fit e.2) (fun h k => rowedI.keeps h k) (fun h k => rowedI.mono h k) Try.underlying27 coIt (by decide) coIt1 (fun m _ S hS cs x h hw => item_of hS h hw) hf hw
 have e' : [Value.slice a len cap] = [v] := e
 injection e' with e'
 subst e'
 rw [reach_eq] at hk
 exact ⟨S', v', lc, D, hg, hv, hs, ⟨hs.length, fun i hi => rowedI.mono (hq i hi) (fun _ _ => trivial)⟩, hp, by omega⟩
end
theorem neB (b : Bool) : binA Try.prog .neq 4 (.bool b) (.bool b) = some (.bool false) := by cases b <;> kernel_rfl
theorem libRf : LibRf libP := by constructor <;> rfl
set_option maxRecDepth 100000 in
set_option maxHeartbeats 16000000 in
theorem law (s : ASt) (mv : Value) (tc : List Value) (iv : Value) (ic : List Value) (D : Dc) (hD : DocIs (fun _ => True) s mv tc iv ic D) (hfit : FitD D) (jv : Value) (jc : List Value) (M : List (Int × O)) (hJ : Sees s 6 jv M.length jc) (hJR : ORows ItIs 6 (fun _ => True) s M jc) (hJF : ∀ e ∈ M, Fit e.2) (hJl : M.length ≤ 140737488351232) :
  Runs Try.prog libP 7 [.agg (docC D mv tc iv).toArray, jv] s fun v _ => v = .bool true := by
 obtain ⟨QQ, hQQ⟩ : ∃ QQ : Value -> ASt -> Prop, QQ = fun v _ => v = .bool true := ⟨_, rfl⟩
 rw [← hQQ]
 have htl := hD.trailer.len
 have dl := db_len (D := D) (mv := mv) (iv := iv) htl
 refine Runs.enter 122 Try.func7 rfl rfl rfl rfl ?_
 intro f hn hf
 have h0 : f.get 0 = .agg (docC D mv tc iv).toArray := hf 0
 have h1 : f.get 1 = jv := hf 1
 clear hf
 simp -implicitDefEqProofs (disch := omega) only [allW, allR, oneOf, evalAll, partsA, optA, Nat.reduceLT, Nat.reduceLeDiff, Nat.reduceEqDiff, Nat.reduceAdd, ↓reduceIte, hn, h0, h1]
 refine wstep_newPtr ?_
 intro s1 ht1 hst1 hnx1
 have ht1 : Thing s1 s.next (docC D mv tc iv) := ht1
 simp -implicitDefEqProofs (disch := omega) only [allW, allR, oneOf, evalAll, partsA, optA, Nat.reduceLT, Nat.reduceLeDiff, Nat.reduceEqDiff, Nat.reduceAdd, ↓reduceIte, hn, h0, h1, dl]
 refine (awake_any rfl libRf rfl rfl rfl rfl rfl rfl rfl rfl rfl rfl rfl rfl s1).mono ?_
 rintro _ s2 ⟨rfl, k2⟩
 have ht2 := ht1.keeps k2
 have n1 := hst1.next
 have n2 := k2.next
 have hs2 : Stay s.next s s2 := hst1.trans (k2.weaken n1)
 simp -implicitDefEqProofs (disch := omega) only [allW, allR, oneOf, evalAll, partsA, optA, Nat.reduceLT, Nat.reduceLeDiff, Nat.reduceEqDiff, Nat.reduceAdd, ↓reduceIte, undef, hn, h0, h1, Bool.not_true, db_all ht2 htl]
 refine (fair_any rfl rfl rfl rfl rfl rfl rfl rfl rfl _ s2 D mv tc iv ic (hD.lows.keeps hs2) hfit).mono ?_
 rintro _ s3 ⟨⟨u, rfl, hu⟩, k3⟩
 have n3 := k3.next
 have hs3 : Stay s.next s s3 := hs2.trans (k3.weaken (by omega))
 have ht3 := ht2.keeps k3
 have hJ3 := hJ.keeps hs3
 have hla := hJ3.lenA (P := Try.prog) Try.underlying27 (s2 := s3)
 cases u with
 | false =>
  simp -implicitDefEqProofs (disch := omega) only [allW, allR, wfn_ret, wfn_normal, oneOf, evalAll, partsA, optA, Nat.reduceLT, Nat.reduceLeDiff, Nat.reduceEqDiff, Nat.reduceAdd, ↓reduceIte, undef, hn, h0, h1, Bool.not_false, hla, Try.results7]
  rw [hQQ]
 | true =>
 have hfair := hu rfl
 by_cases cM : ((M.length : Nat) : Int) > 10
 ·simp -implicitDefEqProofs (disch := omega) only [allW, allR, wfn_ret, wfn_normal, oneOf, evalAll, partsA, optA, Nat.reduceLT, Nat.reduceLeDiff, Nat.reduceEqDiff, Nat.reduceAdd, ↓reduceIte, undef, hn, h0, h1, Bool.not_true, hla, eq_true cM, Try.results7]
  rw [hQQ]
 have hok := hfair.ok
 have hD3 := hD.lows.keeps hs3
 simp -implicitDefEqProofs (disch := omega) only [allW, allR, oneOf, evalAll, partsA, optA, Nat.reduceLT, Nat.reduceLeDiff, Nat.reduceEqDiff, Nat.reduceAdd, ↓reduceIte, undef, hn, h0, h1, Bool.not_true, hla, eq_false cM, db_all ht3 htl, bO0]
 refine (rput_any (lib := libP) rfl rfl rfl _ s3 D mv tc iv ic hD3 hok.small hok.rises hok.nums 0 noneC O.none (OIs.none _ _) Small.none).mono ?_
 rintro _ s4 ⟨zv, zc, wv, wc, rfl, hZ, k4⟩
 have e0 : setD 0 O.none D = D := if_pos (.inl (by decide))
 rw [e0] at hZ ⊢
 have n4 := k4.next
 have hzl := hZ.trailer.len
 have zl := docC_len hZ
 have zk := docC_ok hZ
 simp -implicitDefEqProofs (disch := omega) only [allW, allR, oneOf, evalAll, partsA, optA, Nat.reduceLT, Nat.reduceLeDiff, Nat.reduceEqDiff, Nat.reduceAdd, ↓reduceIte, hn, h0, h1, zD, plD]
 refine wstep_newPtr ?_
 intro s5 ht5 hst5 hnx5
 have hd10 : noneD.length + 1 = 10 := rfl
 simp -implicitDefEqProofs (disch := omega) only [allW, allR, oneOf, evalAll, partsA, optA, Nat.reduceLT, Nat.reduceLeDiff, Nat.reduceEqDiff, Nat.reduceAdd, ↓reduceIte, hn, h0, h1, hd10]
 refine wstep_storeAll szD (by decide) ht5 rfl rfl zl zk ?_
 intro s6 ht6 nt6 et6
 have ht6 : Thing s6 s4.next (docC D zv zc wv) := ht6
 have n5 := hst5.next
 have k46 : Stay s4.next s4 s6 := hst5.trans ⟨by omega, fun j hj => et6 j (by omega)⟩
 have n6 := k46.next
 have hs6 : Stay s.next s s6 := (hs3.trans (k4.weaken (by omega))).trans (k46.weaken (by omega))
 have k36 : Stay s3.next s3 s6 := k4.trans (k46.weaken (by omega))
 have ht36 := ht3.keeps k36
 have hZ6 := (hZ.lows).keeps k46
 have hD6 := hD3.keeps k36
 simp -implicitDefEqProofs (disch := omega) only [allW, allR, oneOf, evalAll, partsA, optA, Nat.reduceLT, Nat.reduceLeDiff, Nat.reduceEqDiff, Nat.reduceAdd, ↓reduceIte, hn, h0, h1]
 obtain ⟨A, hAe⟩ : ∃ A : Nat -> Bool, A = fun j => decide (j < s6.next) := ⟨_, rfl⟩
 have hAl : ∀ j, A j = true -> j < s6.next := by
  intro j h
  rw [hAe] at h
  exact of_decide_eq_true h
 have hAo : ∀ j, j < s6.next -> A j = true := fun j h => by rw [hAe]; exact decide_eq_true h
 refine LB.Drawn.looseK A hAl 1 2 (by kernel_rfl) (by kernel_rfl) ?_
 have hsp := Stay.spare s6 2
 have hnT : (spare s6 2).next = s6.next + 2 := spare_next _ _
 have hlow : ∀ k, LA.lowV A (some (.pointer (some ⟨s.next, k, some 10⟩))) = true := fun k => LA.lowV_ptr (A := A) (i := s.next) (hAo _ ht36.lt)
 have htq := ht36.keeps hsp
 have hDq := hD6.keeps hsp
 have lX := docC_len hD6
 have kX := docC_ok hD6
 simp -implicitDefEqProofs (disch := omega) only [allW, allR, allL, allB, Nat.sub_self, Nat.add_one_sub_one, Nat.reduceSub, oneOf, evalAll, partsA, optA, Nat.reduceLT, Nat.reduceLeDiff, Nat.reduceEqDiff, Nat.reduceAdd, ↓reduceIte, hn, h0, h1, hlow, db_all htq htl, hDq.self, zD, plD]
 refine LB.smake_newPtr (by omega) ?_
 intro s7 ht7 hnx7 hot7
 simp -implicitDefEqProofs (disch := omega) only [allW, allR, allL, allB, Nat.sub_self, Nat.add_one_sub_one, Nat.reduceSub, oneOf, evalAll, partsA, optA, Nat.reduceLT, Nat.reduceLeDiff, Nat.reduceEqDiff, Nat.reduceAdd, ↓reduceIte, hn, h0, h1, zD, plD]
 refine LB.smake_newPtr (by omega) ?_
 intro s8 ht8 hnx8 hot8
 simp -implicitDefEqProofs (disch := omega) only [allW, allR, allL, allB, Nat.sub_self, Nat.add_one_sub_one, Nat.reduceSub, oneOf, evalAll, partsA, optA, Nat.reduceLT, Nat.reduceLeDiff, Nat.reduceEqDiff, Nat.reduceAdd, ↓reduceIte, hn, h0, h1, hd10]
 refine LB.sstep_storeAll szD (by decide) (ht7.ofPut hnx8 hot8 (by omega)) rfl rfl (by simpa using lX) kX (fun _ => by rw [hAe]; exact decide_eq_false (by omega)) ?_
 intro s9 ht9 hnx9 hot9
 have ht9 : Thing s9 s6.next (docC D mv tc iv) := ht9
 simp -implicitDefEqProofs (disch := omega) only [allW, allR, allL, allB, Nat.sub_self, Nat.add_one_sub_one, Nat.reduceSub, oneOf, evalAll, partsA, optA, Nat.reduceLT, Nat.reduceLeDiff, Nat.reduceEqDiff, Nat.reduceAdd, ↓reduceIte, hn, h0, h1, hd10]
 refine LB.sstep_storeAll szD (by decide) (ht8.ofPut hnx9 hot9 (by omega)) rfl rfl (by simpa using lX) kX (fun h => absurd rfl h) ?_
 intro sa hta hnxa hota
 have hta : Thing sa (s6.next + 1) (docC D mv tc iv) := hta
 have ht9a := ht9.ofPut hnxa hota (by omega)
 have k6a : Stay s6.next s6 sa := ⟨by omega, fun j hj => by rw [hota j (by omega), hot9 j (by omega), hot8 j (by omega), hot7 j (by omega), hsp.get j (by omega)]⟩
 have na := k6a.next
 have na2 : s6.next + 2 ≤ sa.next := by omega
 have hDa := hD6.keeps k6a
 have hZa := hZ6.keeps k6a
 have hta6 := ht6.keeps k6a
 have ht3a := ht36.keeps k6a
 have hJa := (hJ.keeps hs6).keeps (k6a.weaken (by have := hs6.next; omega))
 have hJRa := hJR.below rowedI
 obtain ⟨GG, hGG⟩ : ∃ GG : Nat -> Prop, GG = fun j => j ≠ s6.next ∧ j ≠ s6.next + 1 := ⟨_, rfl⟩
 have hDG : DocIs GG sa mv tc iv ic D := hDa.mono (fun j hj => by rw [hGG]; have := hj.2; have := hs6.next; omega)
 simp -implicitDefEqProofs (disch := omega) only [allW, allR, allL, allB, Nat.sub_self, Nat.add_one_sub_one, Nat.reduceSub, oneOf, evalAll, partsA, optA, Nat.reduceLT, Nat.reduceLeDiff, Nat.reduceEqDiff, Nat.reduceAdd, ↓reduceIte, allW, allR, oneOf, evalAll, partsA, optA, Nat.reduceLT, Nat.reduceLeDiff, Nat.reduceEqDiff, Nat.reduceAdd, ↓reduceIte, hn, h0, h1]
 refine Comes.loopOut (fun z f t => ∃ (i : Nat) (E : Dc) (xv : Value) (xc : List Value) (yv : Value) (yc : List Value) (xv' : Value) (xc' : List Value) (yv' : Value) (yc' : List Value), z = M.length - i ∧ i ≤ M.length ∧ OkD (70 + i) E ∧ Thing t s6.next (docC E xv xc yv) ∧ Thing t (s6.next + 1) (docC E xv' xc' yv') ∧ DocIs GG t xv xc yv yc E ∧ DocIs GG t xv' xc' yv' yc' E ∧ Stay s6.next s6 t ∧ sa.next ≤ t.next ∧ f.n = 122 ∧ f.get 1 = jv ∧ f.get 2 = .pointer (some ⟨s.next, 0, some 10⟩) ∧ f.get 5 = .pointer (some ⟨s4.next, 0, some 10⟩) ∧ f.get 6 = .pointer (some ⟨s6.next, 0, some 10⟩) ∧ f.get 7 = .pointer (some ⟨s6.next + 1, 0, some 10⟩) ∧ f.get 8 = .int .i64 (i : Nat))
  (fun z f t => (z = .ret ∧ f.n = 122 ∧ f.get 4 = .bool true) ∨ (z = .exit 0 ∧ Stay s6.next s6 t ∧ f.n = 122 ∧ f.get 2 = .pointer (some ⟨s.next, 0, some 10⟩) ∧ f.get 5 = .pointer (some ⟨s4.next, 0, some 10⟩)))
  ⟨0, D, mv, tc, iv, ic, mv, tc, iv, ic, rfl, by omega, hok, ht9a, hta, hDG, hDG, k6a, Nat.le_refl _, by simp only [get_put, n_put, ↓reduceIte, Nat.reduceEqDiff, hn], by simp only [get_put, n_put, ↓reduceIte, Nat.reduceEqDiff, h1], by simp only [get_put, n_put, ↓reduceIte, Nat.reduceEqDiff], by simp only [get_put, n_put, ↓reduceIte, Nat.reduceEqDiff], by simp only [get_put, n_put, ↓reduceIte, Nat.reduceEqDiff], by simp only [get_put, n_put, ↓reduceIte, Nat.reduceEqDiff], by simp only [get_put, n_put, ↓reduceIte, Nat.reduceEqDiff]; rfl⟩ ?_ ?_
 ·clear hn h0 h1 f
  rintro Q hQ z f t ⟨i, E, xv, xc, yv, yc, xv', xc', yv', yc', rfl, hi, hE, hA, hB, hX, hY, hst, hnt, hn, h1, h2, h5, h6, h7, h8⟩
  have hJt := (hJ.keeps hs6).keeps (hst.weaken (by have := hs6.next; omega))
  have hlat := hJt.lenA (P := Try.prog) Try.underlying27 (s2 := t)
  by_cases hlt : i < M.length
  rotate_left
  ·obtain rfl : i = M.length := by omega
   have d1 : ¬ ((M.length : Nat) : Int) < ((M.length : Nat) : Int) := by omega
   simp -implicitDefEqProofs (disch := omega) only [allW, allR, oneOf, evalAll, partsA, optA, Nat.reduceLT, Nat.reduceLeDiff, Nat.reduceEqDiff, Nat.reduceAdd, ↓reduceIte, hn, h1, h2, h5, h6, h7, h8, hlat, eq_false d1]
   exact hQ _ _ _ (.inr ⟨rfl, hst, by simp only [get_put, n_put, ↓reduceIte, Nat.reduceEqDiff, hn], by simp only [get_put, n_put, ↓reduceIte, Nat.reduceEqDiff, h2], by simp only [get_put, n_put, ↓reduceIte, Nat.reduceEqDiff, h5]⟩)
  have d1 : (i : Int) < (M.length : Int) := by omega
  have hsn := hs6.next
  have hkt : ∀ t' : ASt, Stay t.next t t' -> Stay s.next s t' := fun t' h => (hs6.trans (hst.weaken (by omega))).trans (h.weaken (by omega))
  have hJx : ∀ t' : ASt, Stay t.next t t' -> indexAddrA Try.prog 27 jv (.int .i64 (i : Int)) = some (elemPtr 6 jv i) ∧ fieldAddrA Try.prog 55 (elemPtr 6 jv i) 0 = some (plusPtr (elemPtr 6 jv i) 0) ∧ fieldAddrA Try.prog 55 (elemPtr 6 jv i) 1 = some (plusPtr (elemPtr 6 jv i) 1) ∧ loadA Try.prog t' 3 (plusPtr (elemPtr 6 jv i) 0) = some (.int .i64 M[i].1) ∧ loadA Try.prog t' 26 (plusPtr (elemPtr 6 jv i) 1) = some (.agg ((jc.drop (i * 6 + 1)).take 5).toArray) ∧ OIs (fun j => True ∧ j < s.next) t' ((jc.drop (i * 6 + 1)).take 5) M[i].2 := by
   intro t' h
   have hJq := hJ.keeps (hkt t' h)
   have hix := hJq.indexAddr (P := Try.prog) (k := .i64) (x := (i : Int)) Try.underlying27 szI (by omega) (by omega)
   rw [Int.toNat_natCast] at hix
   obtain ⟨q0, q1⟩ := efI hJq hlt
   obtain ⟨b1, b2, b3, -⟩ := itemB ((hJRa.keeps rowedI (hkt t' h)).row i hlt)
   have hlv := hJq.loadPart (P := Try.prog) agO szO hlt (j := 1) (by omega)
   have hln := hJq.loadField (P := Try.prog) agInt hlt (j := 0) (by omega)
   rw [Nat.add_zero, b1] at hln
   exact ⟨hix, q0, q1, hln, hlv, b3⟩
  obtain ⟨co, hco⟩ : ∃ co, co = (jc.drop (i * 6 + 1)).take 5 := ⟨_, rfl⟩
  rw [← hco] at hJx
  obtain ⟨hix, q0, q1, -⟩ := hJx t (Stay.refl _ _)
  have hoT := fun t' h => (hJx t' h).2.2.2.2.2
  have hlv := fun t' h => (hJx t' h).2.2.2.2.1
  have hln := fun t' h => (hJx t' h).2.2.2.1
  have hfo : Fit M[i].2 := hJF _ (List.getElem_mem hlt)
  have rt := Stay.refl t.next t
  simp -implicitDefEqProofs (disch := omega) only [allW, allR, oneOf, evalAll, partsA, optA, Nat.reduceLT, Nat.reduceLeDiff, Nat.reduceEqDiff, Nat.reduceAdd, ↓reduceIte, undef, hn, h1, h2, h5, h6, h7, h8, hlat, eq_true d1, hix, q1, hlv t rt]
  refine (rmayTop_any rfl rfl rfl rfl rfl rfl M[i].2 _ t co (hoT t rt) hfo).mono ?_
  rintro _ t1 ⟨⟨u, rfl, hmay⟩, kt1⟩
  cases u with
  | false =>
   simp -implicitDefEqProofs (disch := omega) only [allW, allR, oneOf, evalAll, partsA, optA, Nat.reduceLT, Nat.reduceLeDiff, Nat.reduceEqDiff, Nat.reduceAdd, ↓reduceIte, undef, hn, h1, h2, h5, h6, h7, h8, Bool.not_false]
   exact hQ _ _ _ (.inl ⟨rfl, by simp only [get_put, n_put, ↓reduceIte, Nat.reduceEqDiff, hn], by simp only [get_put, n_put, ↓reduceIte, Nat.reduceEqDiff]⟩)
  | true =>
  simp -implicitDefEqProofs (disch := omega) only [allW, allR, oneOf, evalAll, partsA, optA, Nat.reduceLT, Nat.reduceLeDiff, Nat.reduceEqDiff, Nat.reduceAdd, ↓reduceIte, undef, hn, h1, h2, h5, h6, h7, h8, Bool.not_true, hix, q1, hlv t1 kt1]
  refine (room_any rfl 60 (by decide) _ M[i].2 (Nat.le_refl _) _ t1 co 8 (hoT t1 kt1) hfo (by decide) (by decide)).mono ?_
  rintro _ t2 ⟨⟨u, rfl, hroom⟩, kt2'⟩
  have kt2 : Stay t.next t t2 := kt1.trans (kt2'.weaken kt1.next)
  cases u with
  | false =>
   simp -implicitDefEqProofs (disch := omega) only [allW, allR, oneOf, evalAll, partsA, optA, Nat.reduceLT, Nat.reduceLeDiff, Nat.reduceEqDiff, Nat.reduceAdd, ↓reduceIte, undef, hn, h1, h2, h5, h6, h7, h8, Bool.not_false]
   exact hQ _ _ _ (.inl ⟨rfl, by simp only [get_put, n_put, ↓reduceIte, Nat.reduceEqDiff, hn], by simp only [get_put, n_put, ↓reduceIte, Nat.reduceEqDiff]⟩)
  | true =>
  have hso : Small M[i].2 := (hroom rfl).1
  simp -implicitDefEqProofs (disch := omega) only [allW, allR, oneOf, evalAll, partsA, optA, Nat.reduceLT, Nat.reduceLeDiff, Nat.reduceEqDiff, Nat.reduceAdd, ↓reduceIte, undef, hn, h1, h2, h5, h6, h7, h8, Bool.not_true]
  obtain ⟨C, hC⟩ : ∃ C : Nat -> Bool, C = fun j => decide (j < t2.next) := ⟨_, rfl⟩
  have hCl : ∀ j, C j = true -> j < t2.next := by
   intro j h
   rw [hC] at h
   exact of_decide_eq_true h
  have hCo : ∀ j, j < t2.next -> C j = true := fun j h => by rw [hC]; exact decide_eq_true h
  have p2 := kt2.next
  refine LB.Drawn.looseK C hCl 2 0 (by kernel_rfl) (by kernel_rfl) ?_
  have hsq := Stay.spare t2 0
  have hnq : (spare t2 0).next = t2.next + 0 := spare_next _ _
  have ktq : Stay t.next t (spare t2 0) := kt2.trans (hsq.weaken p2)
  have ml6 : ∀ k, LA.lowV C (some (.pointer (some ⟨s6.next, k, some 10⟩))) = true := fun k => LA.lowV_ptr (A := C) (i := s6.next) (hCo _ (by omega))
  have ml7 : ∀ k, LA.lowV C (some (.pointer (some ⟨s6.next + 1, k, some 10⟩))) = true := fun k => LA.lowV_ptr (A := C) (i := s6.next + 1) (hCo _ (by omega))
  have mlj := LA.lowV_plus (hJ.keeps (hkt t2 kt2)) hCo hlt
  have hxl := hX.trailer.len
  have hxl' := hY.trailer.len
  have tAq := hA.keeps ktq
  have tBq := hB.keeps ktq
  have Xq := (hX.mono (fun _ _ => trivial : ∀ j, GG j -> True)).keeps ktq
  have Yq := (hY.mono (fun _ _ => trivial : ∀ j, GG j -> True)).keeps ktq
  have hjs := hJt.self
  have oq := (hoT _ ktq).mono (fun _ _ => trivial : ∀ j, (True ∧ j < s.next) -> True)
  simp -implicitDefEqProofs (disch := omega) only [allW, allR, allL, allB, Nat.sub_self, Nat.add_one_sub_one, Nat.reduceSub, oneOf, evalAll, partsA, optA, Nat.reduceLT, Nat.reduceLeDiff, Nat.reduceEqDiff, Nat.reduceAdd, ↓reduceIte, undef, hn, h1, h2, h5, h6, h7, h8, ml6, ml7, mlj, db_all tAq hxl, Xq.self, hjs, hix, q0, q1, hln _ ktq, hlv _ ktq, oq.self, valEq_plus, valEq_int]
  refine (put_any (lib := libP) rfl rfl rfl rfl rfl rfl (fun _ => True) (spare t2 0) E xv xc yv yc Xq hE.small M[i].1 co M[i].2 oq hso).mono ?_
  rintro _ t3 ⟨av, ac, cv, cc, rfl, hA3, kt3⟩
  have p3 := kt3.next
  refine ⟨fun _ => LA.Stay.toA hCl (kt3.weaken (by omega)), ?_⟩
  have kt3' : Stay t.next t t3 := ktq.trans (kt3.weaken (by omega))
  have tB3 := tBq.keeps kt3
  have Y3 := Yq.keeps kt3
  have o3 := (hoT _ kt3').mono (fun _ _ => trivial : ∀ j, (True ∧ j < s.next) -> True)
  simp -implicitDefEqProofs (disch := omega) only [allW, allR, allL, allB, Nat.sub_self, Nat.add_one_sub_one, Nat.reduceSub, oneOf, evalAll, partsA, optA, Nat.reduceLT, Nat.reduceLeDiff, Nat.reduceEqDiff, Nat.reduceAdd, ↓reduceIte, undef, hn, h1, h2, h5, h6, h7, h8, ml6, ml7, mlj, db_all tB3 hxl', Y3.self, hA3.self, hjs, hix, q0, q1, hln _ kt3', hlv _ kt3', o3.self, valEq_plus, valEq_int]
  refine (rput_any (lib := libP) rfl rfl rfl (fun _ => True) t3 E xv' xc' yv' yc' Y3 hE.small hE.rises hE.nums M[i].1 co M[i].2 o3 hso).mono ?_
  rintro _ t4 ⟨bv, bc, dv, dc, rfl, hB4, kt4⟩
  have p4 := kt4.next
  refine ⟨fun _ => LA.Stay.toA hCl (kt4.weaken (by omega)), ?_⟩
  have hA4 := hA3.keeps kt4
  obtain ⟨E2, hE2⟩ : ∃ E2, E2 = setD M[i].1 M[i].2 E := ⟨_, rfl⟩
  have hok2 : OkD (70 + i + 1) E2 := by rw [hE2]; exact hE.put (by omega) hso
  have hfd := hE.found M[i].1 M[i].2
  rw [← hE2] at hA3 hA4 hB4 hfd ⊢
  have lA := docC_len hA4
  have kA := docC_ok hA4
  have lB := docC_len hB4
  have kB := docC_ok hB4
  refine LB.sstep_storeAll szD (by decide) ((tAq.keeps kt3).keeps kt4) (db_len hxl) rfl (by simpa using lA) kA (fun h => absurd rfl h) ?_
  intro t5 ht5 hnx5 hot5
  have ht5 : Thing t5 s6.next (docC E2 av ac cv) := ht5
  simp -implicitDefEqProofs (disch := omega) only [allW, allR, allL, allB, Nat.sub_self, Nat.add_one_sub_one, Nat.reduceSub, oneOf, evalAll, partsA, optA, Nat.reduceLT, Nat.reduceLeDiff, Nat.reduceEqDiff, Nat.reduceAdd, ↓reduceIte, undef, hn, h1, h2, h5, h6, h7, h8]
  refine LB.sstep_storeAll szD (by decide) ((tB3.keeps kt4).ofPut hnx5 hot5 (by omega)) (db_len hxl') rfl (by simpa using lB) kB (fun h => absurd rfl h) ?_
  intro t6 ht6 hnx6 hot6
  have ht6 : Thing t6 (s6.next + 1) (docC E2 bv bc dv) := ht6
  have ht56 := ht5.ofPut hnx6 hot6 (by omega)
  have ne : ∀ (p j : Nat), t2.next ≤ j -> p < t2.next -> idOf (.pointer (some ⟨p, 0, none⟩)) ≠ some j := fun p j hj hp e => by
   have e : some p = some j := e
   injection e with e; omega
  have hX6 : DocIs GG t6 av ac cv cc E2 := ((hA4.turns (Turns.ofPut hnx5 hot5) (fun j hj => ne _ j (by omega) (by omega))).turns (Turns.ofPut hnx6 hot6) (fun j hj => ne _ j (by omega) (by omega))).mono (fun j hj => by rw [hGG]; omega)
  have hY6 : DocIs GG t6 bv bc dv dc E2 := ((hB4.turns (Turns.ofPut hnx5 hot5) (fun j hj => ne _ j (by omega) (by omega))).turns (Turns.ofPut hnx6 hot6) (fun j hj => ne _ j (by omega) (by omega))).mono (fun j hj => by rw [hGG]; omega)
  have p6 : t2.next ≤ t6.next := by omega
  have k66 : Stay s6.next s6 t6 := (((hst.trans (ktq.weaken (by omega))).trans (kt3.weaken (by omega))).trans (kt4.weaken (by omega))).trans ⟨by omega, fun j hj => by rw [hot6 j (by omega), hot5 j (by omega)]⟩
  have hkt6 : ∀ t' : ASt, Stay t6.next t6 t' -> Stay s.next s t' := fun t' h => (hs6.trans (k66.weaken (by omega))).trans (h.weaken (by omega))
  have hJx6 : ∀ t' : ASt, Stay t6.next t6 t' -> loadA Try.prog t' 3 (plusPtr (elemPtr 6 jv i) 0) = some (.int .i64 M[i].1) ∧ loadA Try.prog t' 26 (plusPtr (elemPtr 6 jv i) 1) = some (.agg co.toArray) ∧ OIs (fun j => True ∧ j < s.next) t' co M[i].2 := by
   intro t' h
   have hJq := hJ.keeps (hkt6 t' h)
   obtain ⟨b1, b2, b3, -⟩ := itemB ((hJRa.keeps rowedI (hkt6 t' h)).row i hlt)
   have hlv := hJq.loadPart (P := Try.prog) agO szO hlt (j := 1) (by omega)
   have hln := hJq.loadField (P := Try.prog) agInt hlt (j := 0) (by omega)
   rw [Nat.add_zero, b1] at hln
   rw [← hco] at b3 hlv
   exact ⟨hln, hlv, b3⟩
  simp -implicitDefEqProofs (disch := omega) only [allW, allR, allL, allB, Nat.sub_self, Nat.add_one_sub_one, Nat.reduceSub, oneOf, evalAll, partsA, optA, Nat.reduceLT, Nat.reduceLeDiff, Nat.reduceEqDiff, Nat.reduceAdd, ↓reduceIte, allW, allR, oneOf, evalAll, partsA, optA, Nat.reduceLT, Nat.reduceLeDiff, Nat.reduceEqDiff, Nat.reduceAdd, ↓reduceIte, undef, hn, h1, h2, h5, h6, h7, h8]
  obtain ⟨B, hBe⟩ : ∃ B : Nat -> Bool, B = fun j => decide (j < t6.next) := ⟨_, rfl⟩
  have hBl : ∀ j, B j = true -> j < t6.next := by
   intro j h
   rw [hBe] at h
   exact of_decide_eq_true h
  have hBo : ∀ j, j < t6.next -> B j = true := fun j h => by rw [hBe]; exact decide_eq_true h
  refine LB.Drawn.looseK B hBl 1 1 (by kernel_rfl) (by kernel_rfl) ?_
  have hsr := Stay.spare t6 1
  have hnr : (spare t6 1).next = t6.next + 1 := spare_next _ _
  have mr6 : ∀ k, LA.lowV B (some (.pointer (some ⟨s6.next, k, some 10⟩))) = true := fun k => LA.lowV_ptr (A := B) (i := s6.next) (hBo _ (by omega))
  have mrj := LA.lowV_plus (hJ.keeps (hkt6 t6 (Stay.refl _ _))) hBo hlt
  have tA6 := ht56.keeps hsr
  have X6 := hX6.keeps hsr
  have hal := hA4.trailer.len
  obtain ⟨l0, -⟩ := hJx6 _ hsr
  simp -implicitDefEqProofs (disch := omega) only [allW, allR, allL, allB, Nat.sub_self, Nat.add_one_sub_one, Nat.reduceSub, oneOf, evalAll, partsA, optA, Nat.reduceLT, Nat.reduceLeDiff, Nat.reduceEqDiff, Nat.reduceAdd, ↓reduceIte, undef, hn, h1, h2, h5, h6, h7, h8, mr6, mrj, db_all tA6 hal, X6.self, hjs, hix, q0, q1, l0, valEq_plus, valEq_int]
  obtain ⟨fo, fb, hff⟩ : ∃ fo fb, findD E2.items M[i].1 = (fo, fb) := ⟨_, _, rfl⟩
  have hfa := find_any (lib := libP) rfl rfl rfl rfl rfl _ (spare t6 1) E2 av ac cv cc X6 hok2.small M[i].1
  rw [hff] at hfa hfd
  refine hfa.mono ?_
  rintro _ t7 ⟨cx, rfl, ox, kt7⟩
  have p7 := kt7.next
  refine ⟨fun _ => LA.Stay.toA hBl (kt7.weaken (by omega)), ?_⟩
  have hd6 : noneC.length + 1 = 6 := rfl
  have wB : ∀ b, valEq (.bool b) (.bool b) = true := fun b => by cases b <;> rfl
  simp -implicitDefEqProofs (disch := omega) only [allW, allR, allL, allB, Nat.sub_self, Nat.add_one_sub_one, Nat.reduceSub, oneOf, evalAll, partsA, optA, Nat.reduceLT, Nat.reduceLeDiff, Nat.reduceEqDiff, Nat.reduceAdd, ↓reduceIte, undef, hn, h1, h2, h5, h6, h7, h8, ext0, ext1, valEq_found ox.self, ox.self, wB, zO, plO]
  refine LB.smake_newPtr (by omega) ?_
  intro t8 ht8 hnx8 hot8
  have ocl := ox.len
  simp -implicitDefEqProofs (disch := omega) only [allW, allR, allL, allB, Nat.sub_self, Nat.add_one_sub_one, Nat.reduceSub, oneOf, evalAll, partsA, optA, Nat.reduceLT, Nat.reduceLeDiff, Nat.reduceEqDiff, Nat.reduceAdd, ↓reduceIte, undef, hn, h1, h2, h5, h6, h7, h8, hd6]
  refine LB.sstep_storeAll szO (by decide) ht8 rfl rfl (by simpa using ocl) ox.ok (fun h => absurd rfl h) ?_
  intro t9 ht9 hnx9 hot9
  have ht9 : Thing t9 t6.next cx := ht9
  have kt9 : Stay t6.next t6 t9 := (hsr.trans (kt7.weaken (by omega))).trans ⟨by omega, fun j hj => by rw [hot9 j (by omega), hot8 j (by omega)]⟩
  have p9 := kt9.next
  have o9 : OIs (fun j => (spare t6 1).next ≤ j) t9 cx fo := (ox.ofPut hnx8 hot8 (by omega)).ofPut hnx9 hot9 (by omega)
  obtain ⟨l9, v9, m9⟩ := hJx6 t9 kt9
  have tA9 := ht56.keeps kt9
  have tB9 := ht6.keeps kt9
  have X9 := hX6.keeps kt9
  have Y9 := hY6.keeps kt9
  have hbl := hB4.trailer.len
  obtain ⟨G, hG⟩ : ∃ G : Nat -> Bool, G = fun j => decide (j < t9.next) := ⟨_, rfl⟩
  have hGl : ∀ j, G j = true -> j < t9.next := by
   intro j h
   rw [hG] at h
   exact of_decide_eq_true h
  have hGo : ∀ j, j < t9.next -> G j = true := fun j h => by rw [hG]; exact decide_eq_true h
  have hst9 := Stay.spare t9 0
  have hn9 : (spare t9 0).next = t9.next + 0 := spare_next _ _
  have mg6 : ∀ k, LA.lowV G (some (.pointer (some ⟨s6.next, k, some 10⟩))) = true := fun k => LA.lowV_ptr (A := G) (i := s6.next) (hGo _ (by omega))
  have mg7 : ∀ k, LA.lowV G (some (.pointer (some ⟨s6.next + 1, k, some 10⟩))) = true := fun k => LA.lowV_ptr (A := G) (i := s6.next + 1) (hGo _ (by omega))
  have mg9 : ∀ k, LA.lowV G (some (.pointer (some ⟨t6.next, k, some 6⟩))) = true := fun k => LA.lowV_ptr (A := G) (i := t6.next) (hGo _ (by omega))
  have mgj := LA.lowV_plus (hJ.keeps (hkt6 t9 kt9)) hGo hlt
  have tAq9 := tA9.keeps hst9
  have tBq9 := tB9.keeps hst9
  have XA := X9.keeps hst9
  have YA := Y9.keeps hst9
  have hX9 := docC_len hX6
  obtain ⟨hfd1, hfd2⟩ : fb = (decide (1 ≤ M[i].1) && decide (M[i].1 ≤ 8388607)) ∧ (1 ≤ M[i].1 -> M[i].1 ≤ 8388607 -> fo = M[i].2) := hfd
  by_cases g1 : M[i].1 ≥ 1
  rotate_left
  have hfb : fb = false := by rw [hfd1, decide_eq_false (by omega : ¬ 1 ≤ M[i].1)]; rfl
  simp -implicitDefEqProofs (disch := omega) only [allW, allR, allL, allB, Nat.sub_self, Nat.add_one_sub_one, Nat.reduceSub, oneOf, evalAll, partsA, optA, Nat.reduceLT, Nat.reduceLeDiff, Nat.reduceEqDiff, Nat.reduceAdd, ↓reduceIte, allW, allR, oneOf, evalAll, partsA, optA, Nat.reduceLT, Nat.reduceLeDiff, Nat.reduceEqDiff, Nat.reduceAdd, ↓reduceIte, undef, hn, h1, h2, h5, h6, h7, h8, hix, q0, l9, eq_false g1]
  rotate_left
  by_cases g2 : M[i].1 ≤ 8388607
  rotate_left
  have hfb : fb = false := by rw [hfd1, decide_eq_false g2, Bool.and_false]
  simp -implicitDefEqProofs (disch := omega) only [allW, allR, allL, allB, Nat.sub_self, Nat.add_one_sub_one, Nat.reduceSub, oneOf, evalAll, partsA, optA, Nat.reduceLT, Nat.reduceLeDiff, Nat.reduceEqDiff, Nat.reduceAdd, ↓reduceIte, allW, allR, oneOf, evalAll, partsA, optA, Nat.reduceLT, Nat.reduceLeDiff, Nat.reduceEqDiff, Nat.reduceAdd, ↓reduceIte, undef, hn, h1, h2, h5, h6, h7, h8, hix, q0, l9, eq_true g1, eq_false g2]
  rotate_left 2
  ·have hfb : fb = true := by rw [hfd1, decide_eq_true (by omega : 1 ≤ M[i].1), decide_eq_true g2]; rfl
   have hfo : fo = M[i].2 := hfd2 (by omega) g2
   subst hfb hfo
   simp -implicitDefEqProofs (disch := omega) only [allW, allR, allL, allB, Nat.sub_self, Nat.add_one_sub_one, Nat.reduceSub, oneOf, evalAll, partsA, optA, Nat.reduceLT, Nat.reduceLeDiff, Nat.reduceEqDiff, Nat.reduceAdd, ↓reduceIte, allW, allR, oneOf, evalAll, partsA, optA, Nat.reduceLT, Nat.reduceLeDiff, Nat.reduceEqDiff, Nat.reduceAdd, ↓reduceIte, undef, hn, h1, h2, h5, h6, h7, h8, hix, q0, l9, eq_true g1, eq_true g2]
   refine LB.Drawn.looseK G hGl 1 0 (by kernel_rfl) (by kernel_rfl) ?_
   simp -implicitDefEqProofs (disch := omega) only [allW, allR, allL, allB, Nat.sub_self, Nat.add_one_sub_one, Nat.reduceSub, oneOf, evalAll, partsA, optA, Nat.reduceLT, Nat.reduceLeDiff, Nat.reduceEqDiff, Nat.reduceAdd, ↓reduceIte, undef, hn, h1, h2, h5, h6, h7, h8, mg6, mg7, mg9, mgj, db_all tAq9 hal, db_all tBq9 hbl, XA.self, YA.self]
   refine (sameDoc_any (lib := libP) rfl rfl rfl rfl _ _ (spare t9 0) E2 av ac cv cc XA bv bc dv dc YA hok2.small).mono ?_
   rintro _ ta ⟨rfl, ka⟩
   have pa := ka.next
   refine ⟨fun _ => LA.Stay.toA hGl (ka.weaken (by omega)), ?_⟩
   have k9a : Stay t9.next t9 ta := hst9.trans (ka.weaken (by omega))
   obtain ⟨-, va, ma⟩ := hJx6 ta (kt9.trans (k9a.weaken (by omega)))
   simp -implicitDefEqProofs (disch := omega) only [allW, allR, allL, allB, Nat.sub_self, Nat.add_one_sub_one, Nat.reduceSub, oneOf, evalAll, partsA, optA, Nat.reduceLT, Nat.reduceLeDiff, Nat.reduceEqDiff, Nat.reduceAdd, ↓reduceIte, undef, hn, h1, h2, h5, h6, h7, h8, mg6, mg7, mg9, mgj, Bool.not_true, wB, neB, hjs, hix, q1, va, Thing.loadO (ht9.keeps k9a) ocl, ma.self, (o9.keeps k9a).self, valEq_plus, valEq_int]
   refine (rsame_any rfl rfl _ M[i].2 M[i].2 (Nat.le_refl _) _ _ ta cx co (o9.keeps k9a) ma hso hso).mono ?_
   rintro v tb ⟨hv, kb⟩
   obtain rfl := answersT hv (SameO.self _)
   have pb := kb.next
   refine ⟨fun h => h.elim, ?_⟩
   have k9b : Stay t9.next t9 tb := k9a.trans (kb.weaken (by omega))
   simp -implicitDefEqProofs (disch := omega) only [allW, allR, allL, allB, Nat.sub_self, Nat.add_one_sub_one, Nat.reduceSub, oneOf, evalAll, partsA, optA, Nat.reduceLT, Nat.reduceLeDiff, Nat.reduceEqDiff, Nat.reduceAdd, ↓reduceIte, allW, allR, oneOf, evalAll, partsA, optA, Nat.reduceLT, Nat.reduceLeDiff, Nat.reduceEqDiff, Nat.reduceAdd, ↓reduceIte, undef, hn, h1, h2, h5, h6, h7, h8, Bool.not_true, wB, wrapI]
   exact wround_next (M.length - (i + 1)) (by omega) ⟨i + 1, E2, av, ac, cv, cc, bv, bc, dv, dc, rfl, by omega, hok2, tA9.keeps k9b, tB9.keeps k9b, X9.keeps k9b, Y9.keeps k9b, k66.trans ((kt9.trans (k9b.weaken (by omega))).weaken (by omega)), by omega, by simp only [get_put, n_put, ↓reduceIte, Nat.reduceEqDiff, hn], by simp only [get_put, n_put, ↓reduceIte, Nat.reduceEqDiff, h1], by simp only [get_put, n_put, ↓reduceIte, Nat.reduceEqDiff, h2], by simp only [get_put, n_put, ↓reduceIte, Nat.reduceEqDiff, h5], by simp only [get_put, n_put, ↓reduceIte, Nat.reduceEqDiff, h6], by simp only [get_put, n_put, ↓reduceIte, Nat.reduceEqDiff, h7], by simp only [get_put, n_put, ↓reduceIte, Nat.reduceEqDiff]; rfl⟩
  all_goals
   subst hfb
   refine LB.Drawn.looseK G hGl 1 0 (by kernel_rfl) (by kernel_rfl) ?_
   simp -implicitDefEqProofs (disch := omega) only [allW, allR, allL, allB, Nat.sub_self, Nat.add_one_sub_one, Nat.reduceSub, oneOf, evalAll, partsA, optA, Nat.reduceLT, Nat.reduceLeDiff, Nat.reduceEqDiff, Nat.reduceAdd, ↓reduceIte, undef, hn, h1, h2, h5, h6, h7, h8, mg6, mg7, mg9, mgj, db_all tAq9 hal, db_all tBq9 hbl, XA.self, YA.self]
   refine (sameDoc_any (lib := libP) rfl rfl rfl rfl _ _ (spare t9 0) E2 av ac cv cc XA bv bc dv dc YA hok2.small).mono ?_
   rintro _ ta ⟨rfl, ka⟩
   have pa := ka.next
   refine ⟨fun _ => LA.Stay.toA hGl (ka.weaken (by omega)), ?_⟩
   have k9b : Stay t9.next t9 ta := hst9.trans (ka.weaken (by omega))
   simp -implicitDefEqProofs (disch := omega) only [allW, allR, allL, allB, Nat.sub_self, Nat.add_one_sub_one, Nat.reduceSub, oneOf, evalAll, partsA, optA, Nat.reduceLT, Nat.reduceLeDiff, Nat.reduceEqDiff, Nat.reduceAdd, ↓reduceIte, allW, allR, oneOf, evalAll, partsA, optA, Nat.reduceLT, Nat.reduceLeDiff, Nat.reduceEqDiff, Nat.reduceAdd, ↓reduceIte, undef, hn, h1, h2, h5, h6, h7, h8, Bool.not_true, wB, neB, wrapI]
   exact wround_next (M.length - (i + 1)) (by omega) ⟨i + 1, E2, av, ac, cv, cc, bv, bc, dv, dc, rfl, by omega, hok2, tA9.keeps k9b, tB9.keeps k9b, X9.keeps k9b, Y9.keeps k9b, k66.trans ((kt9.trans (k9b.weaken (by omega))).weaken (by omega)), by omega, by simp only [get_put, n_put, ↓reduceIte, Nat.reduceEqDiff, hn], by simp only [get_put, n_put, ↓reduceIte, Nat.reduceEqDiff, h1], by simp only [get_put, n_put, ↓reduceIte, Nat.reduceEqDiff, h2], by simp only [get_put, n_put, ↓reduceIte, Nat.reduceEqDiff, h5], by simp only [get_put, n_put, ↓reduceIte, Nat.reduceEqDiff, h6], by simp only [get_put, n_put, ↓reduceIte, Nat.reduceEqDiff, h7], by simp only [get_put, n_put, ↓reduceIte, Nat.reduceEqDiff]; rfl⟩
 clear hn h0 h1 f
 rintro z f t (⟨rfl, hn, h4⟩ | ⟨rfl, hst, hn, h2, h5⟩)
 ·simp -implicitDefEqProofs (disch := omega) only [allW, allR, wfn_ret, wfn_normal, oneOf, evalAll, partsA, optA, Nat.reduceLT, Nat.reduceLeDiff, Nat.reduceEqDiff, Nat.reduceAdd, ↓reduceIte, hn, h4, Try.results7]
  rw [hQQ]
 have htD := ht36.keeps hst
 have htZ := ht6.keeps hst
 simp -implicitDefEqProofs (disch := omega) only [allW, allR, oneOf, evalAll, partsA, optA, Nat.reduceLT, Nat.reduceLeDiff, Nat.reduceEqDiff, Nat.reduceAdd, ↓reduceIte, hn, h2, h5, db_all htD htl, db_all htZ hzl]
 refine (sameDoc_any (lib := libP) rfl rfl rfl rfl _ _ t D mv tc iv ic (hD6.keeps hst) zv zc wv wc (hZ6.keeps hst) hok.small).mono ?_
 rintro _ ta ⟨rfl, ka⟩
 simp -implicitDefEqProofs (disch := omega) only [allW, allR, wfn_ret, wfn_normal, oneOf, evalAll, partsA, optA, Nat.reduceLT, Nat.reduceLeDiff, Nat.reduceEqDiff, Nat.reduceAdd, ↓reduceIte, hn, Try.results7]
 rw [hQQ]
theorem own : ownKnob Try.prog.godebug = none := by kernel_rfl
theorem sound : progOk Try.prog libP = true := by kernel_rfl
theorem laid : laidOutB Try.prog = true := by kernel_rfl
theorem read : ∀ t ∈ Try.f7.params.toList, Try.prog.readableRec t = true ∧ t < Try.prog.types.size := by
 have : (Try.f7.params.toList.all fun t => Try.prog.readableRec t && decide (t < Try.prog.types.size)) = true := by kernel_rfl
 intro t ht
 simpa using List.all_eq_true.mp this t ht
set_option maxRecDepth 100000 in
theorem lifted (os : Os) (started : os.Started) (H : Type) (enc : TypeId × Value -> H) :
  ReturnsInHanded {} Try.checked os 7 .any (Rows.docPutsSpec.pre6 enc Try.prog Try.f7 Rows.docPutsRow.domain false) (Rows.docPutsSpec.post enc Try.prog Try.f7 false true false false) := by
 refine returnsInHanded_of_change_sized (C := Try.checked) own started (by kernel_rfl) Try.func7
  (ChangeSpec.witness6 (enc := enc) (C := Try.checked) false ⟨#[], #[.agg #[.int .i64 0, .slice none 0 0, .int .i64 0, .int .i64 0, .int .i64 0, .slice none 0 0, .slice none 0 0, .slice none 0 0, .slice none 0 0], .slice none 0 0], []⟩ 8 (by kernel_rfl) (by kernel_rfl) (by kernel_rfl) (by kernel_rfl)) ?_
 intro W base args ds gs before hval hW hcnd hsz _
 obtain ⟨p, q, hA, _, _, _, _⟩ := id hW
 have hA : DataW.TrodAll enc Try.prog W 0 (fun _ => true) true Try.f7.params.toList args.toList ds p := hA
 rw [Try.params7] at hA
 obtain ⟨v0, v1, d0, d1, p0, p1, rfl, rfl, rfl, h0, h1⟩ := trodAll_two hA
 have hv0 : Value.okWide Try.prog W .any base 29 v0 := hval 0 _ _ (by rw [Try.params7]; rfl) rfl
 have hw0 : Wt Try.prog 29 d0 := fun n hn => by simpa using List.all_eq_true.1 hsz n (DataW.weights_mem_each (j := 0) (t := 29) (d := d0) (by rw [Try.params7]; rfl) rfl n hn)
 have hv1 : Value.okWide Try.prog W .any base 27 v1 := hval 1 _ _ (by rw [Try.params7]; rfl) rfl
 have hw1 : Wt Try.prog 27 d1 := fun n hn => by simpa using List.all_eq_true.1 hsz n (DataW.weights_mem_each (j := 1) (t := 27) (d := d1) (by rw [Try.params7]; rfl) rfl n hn)
 obtain ⟨S0, mv0, tc0, iv0, ic0, D0, hg0, hr0, ho0, hf0⟩ := arg_doc (Begun.start W) hv0 h0 hw0
 obtain ⟨S1, x1, l1, D1, hg1, hr1, hs1, hq1, hp1, hk1⟩ := arg_items hg0.begun h1 hw1 hv1
 have hcalls := Runs.callsL libFrP libOkP sound rfl hg1.begun (law S1.s mv0 tc0 iv0 ic0 D0 (ho0.keeps hg1.stay) hf0 x1 l1 D1 hs1 hq1 hp1 hk1) (args' := #[v0, v1]) (VRL.cons (hr0.mono hg1.ext) (VRL.cons hr1 VRL.nil))
 refine hcalls.mono fun e W' ⟨he, hb⟩ => ?_
 subst he
 exact law_post laid read rfl Try.underlying4 rfl (fun L hL => by match L, hL with | [a0, a1], _ => rfl) hW hb
theorem over : Rows.docPutsRow.holds Try.pinned (OpenSpec.ofChange Rows.docPutsSpec) :=
 OpenClaim.holds_of_wide 7 Try.f7 rfl rfl rfl rfl rfl rfl rfl ⟨rfl, rfl, rfl, rfl, rfl⟩ rfl rfl rfl rfl rfl (by kernel_rfl) Try.func7 (by kernel_rfl)
  (of_decide_eq_true (by kernel_rfl)) (by unfold Func.isWrapper; first | (rw [if_pos (by decide +kernel)]; kernel_rfl) | (rw [if_neg (by decide +kernel)]; exact ⟨rfl, rfl⟩))
  (fun os started H enc _ => lifted os started H enc)
theorem proved : Rows.DocPutsSaid := over
#print axioms proved
end Go.Proofs.Ythlbahnfimigcaa.docPuts