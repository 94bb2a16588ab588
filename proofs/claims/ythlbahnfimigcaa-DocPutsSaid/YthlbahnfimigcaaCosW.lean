import Derived.Test.YthlbahnfimigcaaCosK
import Derived.Test.YthlbahnfimigcaaObjU
set_option linter.unusedSimpArgs false
set_option linter.unusedVariables false
set_option maxRecDepth 100000
namespace Go.Proofs.Ythlbahnfimigcaa
open Go.Cl Go.Lib
def PartsR (s : ASt) (F : Nat -> Prop) (o : O) (v : Value) (s' : ASt) : Prop := ∃ LC, Sees s' 5 v (partsO o).length LC ∧ ORows OIs 5 F s' (partsO o) LC ∧ Stay s.next s s'
set_option maxHeartbeats 4000000 in
theorem parts_any {lib : Prims} (hl : lib.at 79 = none) (hle : lib.at 67 = none) (F : Nat -> Prop) (s : ASt) (cs : List Value) (o : O) (ho : OIs F s cs o) (hsm : Small o) :
  Runs Try.prog lib 79 [.agg cs.toArray] s (PartsR s (fun j => F j ∧ j < s.next) o) := by
 have hcl := ho.len
 have ho0 := ho
 cases o with
 | mk kind num b l d =>
 obtain ⟨bv, lv, dv, lc, dc, rfl, hb, hL, hD, fb, fl, fd, rl, rd⟩ := ho.lows.parts
 cases hsm with
 | mk hb1 hl2 hd1 hK1 hL1 hD1 =>
 refine Runs.enter 27 Try.func79 rfl hl rfl rfl ?_
 intro f hn hf
 have h0 : f.get 0 = .agg #[.int .i64 kind, .int .i64 num, bv, lv, dv] := hf 0
 clear hf
 simp -implicitDefEqProofs (disch := omega) only [allW, allR, oneOf, evalAll, partsA, optA, Nat.reduceLT, Nat.reduceLeDiff, Nat.reduceEqDiff, Nat.reduceAdd, ↓reduceIte, hn, h0]
 refine wstep_newPtr ?_
 intro s1 ht1 hst1 hnx1
 have l7 : loadA Try.prog s1 3 (.pointer (some ⟨s.next, 0, some 6⟩)) = some (.int .i64 kind) := ht1.load agInt (off := 0) (c := 6) rfl (by simp)
 have l10 : loadA Try.prog s1 23 (.pointer (some ⟨s.next, 3, some 6⟩)) = some lv := ht1.load agLs (off := 3) (c := 6) rfl (by simp)
 by_cases c6 : kind = 6
 ·simp -implicitDefEqProofs (disch := omega) only [allW, allR, wfn_ret, wfn_normal, oneOf, evalAll, partsA, optA, Nat.reduceLT, Nat.reduceLeDiff, Nat.reduceEqDiff, Nat.reduceAdd, ↓reduceIte, hn, h0, List.length_cons, List.length_nil, of0, of3, l7, l10, eq_true c6, Try.results79]
  have e : partsO (.mk kind num b l d) = l := by rw [partsO_mk, if_pos c6]
  exact ⟨lc, by rw [e]; exact hL.keeps hst1, by rw [e]; exact rl.keeps rowedO hst1, hst1⟩
 simp -implicitDefEqProofs (disch := omega) only [allW, allR, oneOf, evalAll, partsA, optA, Nat.reduceLT, Nat.reduceLeDiff, Nat.reduceEqDiff, Nat.reduceAdd, ↓reduceIte, hn, h0, List.length_cons, List.length_nil, of0, l7, eq_false c6, Thing.loadO ht1 rfl]
 refine (entries_any hle F s1 _ _ (ho0.keeps hst1)).mono ?_
 rintro _ s2 ⟨rfl, hst2⟩
 have hs2 : Stay s.next s s2 := hst1.trans (hst2.weaken hst1.next)
 cases hh : (O.mk kind num b l d).has with
 | false =>
  simp -implicitDefEqProofs (disch := omega) only [allW, allR, wfn_ret, wfn_normal, oneOf, evalAll, partsA, optA, Nat.reduceLT, Nat.reduceLeDiff, Nat.reduceEqDiff, Nat.reduceAdd, ↓reduceIte, hn, h0, Try.results79]
  have e : partsO (.mk kind num b l d) = [] := by
   rw [partsO_mk, if_neg c6, if_neg]
   intro h
   rcases h with h | h <;> simp [O.has, O.kind, h] at hh
  exact ⟨[], by rw [e]; exact .nil, by rw [e]; exact ORows.nil, hs2⟩
 | true =>
 have e : partsO (.mk kind num b l d) = d.map (·.2) := by
  rw [partsO_mk, if_neg c6, if_pos]
  have hh' : (decide (kind = 7) || decide (kind = 8)) = true := hh
  rcases Bool.or_eq_true_iff.1 hh' with h2 | h2
  ·exact .inl (of_decide_eq_true h2)
  ·exact .inr (of_decide_eq_true h2)
 have ht2 := ht1.keeps hst2
 have hD2 := hD.keeps hs2
 have l14 : loadA Try.prog s2 24 (.pointer (some ⟨s.next, 4, some 6⟩)) = some dv := ht2.load agDs (off := 4) (c := 6) rfl (by simp)
 simp -implicitDefEqProofs (disch := omega) only [allW, allR, oneOf, evalAll, partsA, optA, Nat.reduceLT, Nat.reduceLeDiff, Nat.reduceEqDiff, Nat.reduceAdd, ↓reduceIte, hn, h0, of4, l14, hD2.lenA Try.underlying24]
 refine Comes.loopOut (fun z f t => ∃ (i : Nat) (w : Value) (LC : List Value), z = d.length - i ∧ i ≤ d.length ∧ Own t 5 w i LC ∧ ORows OIs 5 (fun j => F j ∧ j < s.next) t ((d.map (·.2)).take i) LC ∧ Fresh s2.next w ∧ Stay s2.next s2 t ∧ f.n = 27 ∧ f.get 3 = w ∧ f.get 14 = dv ∧ f.get 15 = .int .i64 (d.length : Nat) ∧ f.get 16 = .int .i64 (i : Nat))
  (fun z f t => z = .exit 0 ∧ ∃ (w : Value) (LC : List Value), Own t 5 w d.length LC ∧ ORows OIs 5 (fun j => F j ∧ j < s.next) t (d.map (·.2)) LC ∧ Stay s2.next s2 t ∧ f.n = 27 ∧ f.get 3 = w)
  ⟨0, .slice none 0 0, [], rfl, by omega, .nil, by rw [List.take_zero]; exact ORows.nil, Fresh.nil _, Stay.refl _ _, by simp only [get_put, n_put, ↓reduceIte, Nat.reduceEqDiff, hn], by simp only [get_put, n_put, ↓reduceIte, Nat.reduceEqDiff], by simp only [get_put, n_put, ↓reduceIte, Nat.reduceEqDiff], by simp only [get_put, n_put, ↓reduceIte, Nat.reduceEqDiff], by simp only [get_put, n_put, ↓reduceIte, Nat.reduceEqDiff]; rfl⟩ ?_ ?_
 ·clear hn h0 f
  rintro Q hQ z f t ⟨i, w, LC, rfl, hi, hw, hwr, hwF, hst, hn, h3, h14, h15, h16⟩
  by_cases hlt : i < d.length
  rotate_left
  ·obtain rfl : i = d.length := by omega
   rw [List.take_of_length_le (by simp)] at hwr
   have d1 : ¬ ((d.length : Nat) : Int) < ((d.length : Nat) : Int) := by omega
   simp -implicitDefEqProofs (disch := omega) only [allW, allR, oneOf, evalAll, partsA, optA, Nat.reduceLT, Nat.reduceLeDiff, Nat.reduceEqDiff, Nat.reduceAdd, ↓reduceIte, hn, h3, h14, h15, h16, eq_false d1]
   exact hQ _ _ _ ⟨rfl, w, LC, hw, hwr, hst, by simp only [get_put, n_put, ↓reduceIte, Nat.reduceEqDiff, hn], by simp only [get_put, n_put, ↓reduceIte, Nat.reduceEqDiff, h3]⟩
  have d1 : (i : Int) < (d.length : Int) := by omega
  have hs0t : Stay s.next s t := hs2.trans (hst.weaken hs2.next)
  have hDt := hD.keeps hs0t
  have hix := hDt.indexAddr (P := Try.prog) (k := .i64) (x := (i : Int)) Try.underlying24 szE (by omega) (by omega)
  rw [Int.toNat_natCast] at hix
  have hll := hDt.loadAgg (P := Try.prog) agE szE hlt
  obtain ⟨r, hr1, hr2, hr3⟩ := rd.row i hlt
  have hrl := hr2.len
  rw [hr1] at hll
  obtain ⟨xs, hxs⟩ : ∃ xs, xs = Value.string ⟨(d[i].1).toArray⟩ :: r := ⟨_, rfl⟩
  rw [← hxs] at hll
  have hxl : xs.length = 6 := by rw [hxs]; simp [hrl]
  have hxok : xs.all okCell = true := by rw [hxs, List.all_cons, hr2.ok]; rfl
  have hd7 : noneE.length + 1 = 7 := rfl
  simp -implicitDefEqProofs (disch := omega) only [allW, allR, oneOf, evalAll, partsA, optA, Nat.reduceLT, Nat.reduceLeDiff, Nat.reduceEqDiff, Nat.reduceAdd, ↓reduceIte, hn, h3, h14, h15, h16, eq_true d1, hix, hll, zE, plE]
  refine wstep_newPtr ?_
  intro t1 ht1' hst1' hnx1'
  simp -implicitDefEqProofs (disch := omega) only [allW, allR, oneOf, evalAll, partsA, optA, Nat.reduceLT, Nat.reduceLeDiff, Nat.reduceEqDiff, Nat.reduceAdd, ↓reduceIte, hn, h3, h14, h15, h16, hd7]
  refine wstep_storeAll szE (by decide) ht1' rfl rfl hxl hxok ?_
  intro t2 ht2' hnx2' hot2'
  have ht2' : Thing t2 t.next xs := ht2'
  have hstt2 : Stay t.next t t2 := hst1'.trans ⟨by omega, fun j hj => hot2' j (by omega)⟩
  have l21 : loadA Try.prog t2 26 (.pointer (some ⟨t.next, 1, some 7⟩)) = some (.agg r.toArray) := by
   have := Thing.loadMid (P := Try.prog) agO szO ht2' (off := 1) (c := 7) (by rw [hxl]) (by omega)
   rw [this, hxs, List.drop_succ_cons, List.drop_zero, List.take_of_length_le (by omega)]
  simp -implicitDefEqProofs (disch := omega) only [allW, allR, oneOf, evalAll, partsA, optA, Nat.reduceLT, Nat.reduceLeDiff, Nat.reduceEqDiff, Nat.reduceAdd, ↓reduceIte, hn, h3, h14, h15, h16, ofE1, l21, buildAgg1 (cs := r.toArray) Try.underlying23 szO zO plO rfl hrl (by decide)]
  refine wstep_newSlice (by rw [hrl]) ?_
  intro bb t3 hb3 hbF3 hst3'
  simp -implicitDefEqProofs (disch := omega) only [allW, allR, oneOf, evalAll, partsA, optA, Nat.reduceLT, Nat.reduceLeDiff, Nat.reduceEqDiff, Nat.reduceAdd, ↓reduceIte, hn, h3, h14, h15, h16]
  have hn2 := hst.next
  have hst23 := hstt2.trans (hst3'.weaken hstt2.next)
  refine wstep_append Try.underlying23 Try.underlying23 (.inl ⟨_, rfl⟩) szO byO zO rfl (hw.keeps hst23) hb3.sees.src hrl (by decide) hr2.ok (by omega) (by omega) hwF (by have := hst23.next; omega) ?_
  intro w' t4 hw' hwF' hst4' htu4 _
  simp -implicitDefEqProofs (disch := omega) only [allW, allR, oneOf, evalAll, partsA, optA, Nat.reduceLT, Nat.reduceLeDiff, Nat.reduceEqDiff, Nat.reduceAdd, ↓reduceIte, hn, h3, h14, h15, h16, wrapI]
  have hs24 : Stay s2.next s2 t4 := (hst.trans (hst23.weaken hn2)).trans hst4'
  refine wround_next (d.length - (i + 1)) (by omega) ⟨i + 1, w', LC ++ r, rfl, by omega, hw', ?_, hwF', hs24, by simp only [get_put, n_put, ↓reduceIte, Nat.reduceEqDiff, hn], by simp only [get_put, n_put, ↓reduceIte, Nat.reduceEqDiff], by simp only [get_put, n_put, ↓reduceIte, Nat.reduceEqDiff, h14], by simp only [get_put, n_put, ↓reduceIte, Nat.reduceEqDiff, h15], by simp only [get_put, n_put, ↓reduceIte, Nat.reduceEqDiff]; rfl⟩
  have e1 : (d.map (·.2)).take (i + 1) = (d.map (·.2)).take i ++ [d[i].2] := by rw [List.take_add_one, List.getElem?_map, List.getElem?_eq_getElem hlt]; rfl
  rw [e1]
  exact ((hwr.keeps rowedO hst23).turns rowedO htu4 (fun j hj e => by have := hwF _ e; have := hj.2; have := hs2.next; omega)).snoc hrl (hr2.keeps (hs2.trans (hs24.weaken hs2.next)))
 clear hn h0 f
 rintro z f t ⟨rfl, w, LC, hw, hwr, hst, hn, h3⟩
 simp -implicitDefEqProofs (disch := omega) only [allW, allR, wfn_ret, wfn_normal, oneOf, evalAll, partsA, optA, Nat.reduceLT, Nat.reduceLeDiff, Nat.reduceEqDiff, Nat.reduceAdd, ↓reduceIte, hn, h3, Try.results79]
 exact ⟨LC, by rw [e, List.length_map]; exact hw.sees, by rw [e]; exact hwr, hs2.trans (hst.weaken hs2.next)⟩
theorem partsO_small {o : O} (h : Small o) : (partsO o).length ≤ 100000 ∧ ∀ x ∈ partsO o, Small x := by
 cases h with
 | mk hb hl hd hK hL hD =>
  rename_i k n b l d
  show (if k = 6 then l else if k = 7 ∨ k = 8 then d.map (·.2) else []).length ≤ 100000 ∧ ∀ x ∈ (if k = 6 then l else if k = 7 ∨ k = 8 then d.map (·.2) else []), Small x
  split
  ·exact ⟨hl, hL⟩
  ·split
   ·refine ⟨by rw [List.length_map]; exact hd, fun x hx => ?_⟩
    obtain ⟨e, he, rfl⟩ := List.mem_map.1 hx
    exact hD e he
   ·exact ⟨by simp, fun x hx => by cases hx⟩
def RefsR (s : ASt) (o : O) (v : Value) (s' : ASt) : Prop := Own s' 1 v (refsO o).length (intsV (refsO o)) ∧ Fresh s.next v ∧ Stay s.next s s'
set_option maxHeartbeats 4000000 in
theorem refs_any {lib : Prims} (hl : lib.at 61 = none) (hlp : lib.at 79 = none) (hle : lib.at 67 = none) : ∀ (N : Nat) (o : O), SizeOf.sizeOf o ≤ N -> ∀ (F : Nat -> Prop) (s : ASt) (cs : List Value), OIs F s cs o -> Small o -> (refsO o).length ≤ 10000000 ->
  Runs Try.prog lib 61 [.agg cs.toArray] s (RefsR s o) := by
 intro N
 induction N with
 | zero => intro o h; have := o.size_pos; omega
 | succ N ih =>
 intro o hN F s cs ho hsm hlen
 have hcl := ho.len
 have ho0 := ho
 obtain ⟨bv, lv, dv, hcs⟩ : ∃ bv lv dv : Value, cs = [.int .i64 o.kind, .int .i64 o.num, bv, lv, dv] := by
  cases o with
  | mk k n b l d => obtain ⟨bv, lv, dv, lc, dc, h, -⟩ := ho.parts; exact ⟨bv, lv, dv, h⟩
 subst hcs
 refine Runs.enter 25 Try.func61 rfl hl rfl rfl ?_
 intro f hn hf
 have h0 : f.get 0 = .agg #[.int .i64 o.kind, .int .i64 o.num, bv, lv, dv] := hf 0
 clear hf
 simp -implicitDefEqProofs (disch := omega) only [allW, allR, oneOf, evalAll, partsA, optA, Nat.reduceLT, Nat.reduceLeDiff, Nat.reduceEqDiff, Nat.reduceAdd, ↓reduceIte, hn, h0]
 refine wstep_newPtr ?_
 intro s1 ht1 hst1 hnx1
 have l7 : loadA Try.prog s1 3 (.pointer (some ⟨s.next, 0, some 6⟩)) = some (.int .i64 o.kind) := ht1.load agInt (off := 0) (c := 6) rfl (by simp)
 have l10 : loadA Try.prog s1 2 (.pointer (some ⟨s.next, 1, some 6⟩)) = some (.int .i64 o.num) := ht1.load agI64 (off := 1) (c := 6) rfl (by simp)
 by_cases c9 : o.kind = 9
 ·have e : refsO o = [o.num] := by rw [refsO_eq, if_pos c9]
  simp -implicitDefEqProofs (disch := omega) only [allW, allR, oneOf, evalAll, partsA, optA, Nat.reduceLT, Nat.reduceLeDiff, Nat.reduceEqDiff, Nat.reduceAdd, ↓reduceIte, hn, h0, List.length_cons, List.length_nil, of0, of1, l7, l10, eq_true c9, build1 Try.underlying32 szInt zInt]
  refine wstep_newSlice rfl ?_
  intro v s2 hv hF hst2
  simp -implicitDefEqProofs (disch := omega) only [allW, allR, wfn_ret, wfn_normal, oneOf, evalAll, partsA, optA, Nat.reduceLT, Nat.reduceLeDiff, Nat.reduceEqDiff, Nat.reduceAdd, ↓reduceIte, hn, Try.results61]
  exact ⟨by rw [e]; exact hv, fun j hj => by have := hF j hj; have := hst1.next; omega, hst1.trans (hst2.weaken hst1.next)⟩
 have e := refsO_parts c9
 obtain ⟨hpl, hps⟩ := partsO_small hsm
 simp -implicitDefEqProofs (disch := omega) only [allW, allR, oneOf, evalAll, partsA, optA, Nat.reduceLT, Nat.reduceLeDiff, Nat.reduceEqDiff, Nat.reduceAdd, ↓reduceIte, hn, h0, List.length_cons, List.length_nil, of0, l7, eq_false c9, Thing.loadO ht1 rfl]
 refine (parts_any hlp hle F s1 _ o (ho0.keeps hst1) hsm).mono ?_
 rintro x s2 ⟨LC, hx, hxr, hst2⟩
 have hs2 : Stay s.next s s2 := hst1.trans (hst2.weaken hst1.next)
 rw [e] at hlen
 simp -implicitDefEqProofs (disch := omega) only [allW, allR, oneOf, evalAll, partsA, optA, Nat.reduceLT, Nat.reduceLeDiff, Nat.reduceEqDiff, Nat.reduceAdd, ↓reduceIte, hn, h0, hx.lenA Try.underlying23]
 refine Comes.loopOut (fun z f t => ∃ (i : Nat) (w : Value), z = (partsO o).length - i ∧ i ≤ (partsO o).length ∧ Own t 1 w (((partsO o).take i).flatMap refsO).length (intsV (((partsO o).take i).flatMap refsO)) ∧ Fresh s2.next w ∧ Stay s2.next s2 t ∧ f.n = 25 ∧ f.get 3 = w ∧ f.get 13 = x ∧ f.get 14 = .int .i64 ((partsO o).length : Nat) ∧ f.get 15 = .int .i64 (i : Nat))
  (fun z f t => z = .exit 0 ∧ ∃ (w : Value), Own t 1 w (((partsO o)).flatMap refsO).length (intsV (((partsO o)).flatMap refsO)) ∧ Fresh s2.next w ∧ Stay s2.next s2 t ∧ f.n = 25 ∧ f.get 3 = w)
  ⟨0, .slice none 0 0, rfl, by omega, by rw [List.take_zero]; exact .nil, Fresh.nil _, Stay.refl _ _, by simp only [get_put, n_put, ↓reduceIte, Nat.reduceEqDiff, hn], by simp only [get_put, n_put, ↓reduceIte, Nat.reduceEqDiff], by simp only [get_put, n_put, ↓reduceIte, Nat.reduceEqDiff], by simp only [get_put, n_put, ↓reduceIte, Nat.reduceEqDiff], by simp only [get_put, n_put, ↓reduceIte, Nat.reduceEqDiff]; rfl⟩ ?_ ?_
 ·clear hn h0 f
  rintro Q hQ z f t ⟨i, w, rfl, hi, hw, hwF, hst, hn, h3, h13, h14, h15⟩
  by_cases hlt : i < (partsO o).length
  rotate_left
  ·obtain rfl : i = (partsO o).length := by omega
   rw [List.take_length] at hw
   have d1 : ¬ (((partsO o).length : Nat) : Int) < (((partsO o).length : Nat) : Int) := by omega
   simp -implicitDefEqProofs (disch := omega) only [allW, allR, oneOf, evalAll, partsA, optA, Nat.reduceLT, Nat.reduceLeDiff, Nat.reduceEqDiff, Nat.reduceAdd, ↓reduceIte, hn, h3, h13, h14, h15, eq_false d1]
   exact hQ _ _ _ ⟨rfl, w, hw, hwF, hst, by simp only [get_put, n_put, ↓reduceIte, Nat.reduceEqDiff, hn], by simp only [get_put, n_put, ↓reduceIte, Nat.reduceEqDiff, h3]⟩
  have d1 : (i : Int) < ((partsO o).length : Int) := by omega
  have hxt := hx.keeps hst
  have hix := hxt.indexAddr (P := Try.prog) (k := .i64) (x := (i : Int)) Try.underlying23 szO (by omega) (by omega)
  rw [Int.toNat_natCast] at hix
  have hll := hxt.loadAgg (P := Try.prog) agO szO hlt
  have hoi := (hxr.row i hlt).keeps hst
  obtain ⟨xs, hxs⟩ : ∃ xs, xs = (LC.drop (i * 5)).take 5 := ⟨_, rfl⟩
  rw [← hxs] at hll hoi
  have hxl := hoi.len
  have hd6 : noneC.length + 1 = 6 := rfl
  simp -implicitDefEqProofs (disch := omega) only [allW, allR, oneOf, evalAll, partsA, optA, Nat.reduceLT, Nat.reduceLeDiff, Nat.reduceEqDiff, Nat.reduceAdd, ↓reduceIte, hn, h3, h13, h14, h15, eq_true d1, hix, hll, zO, plO]
  refine wstep_newPtr ?_
  intro t1 ht1' hst1' hnx1'
  simp -implicitDefEqProofs (disch := omega) only [allW, allR, oneOf, evalAll, partsA, optA, Nat.reduceLT, Nat.reduceLeDiff, Nat.reduceEqDiff, Nat.reduceAdd, ↓reduceIte, hn, h3, h13, h14, h15, hd6]
  refine wstep_storeAll szO (by decide) ht1' rfl rfl hxl hoi.ok ?_
  intro t2 ht2' hnx2' hot2'
  have ht2' : Thing t2 t.next xs := ht2'
  have hstt2 : Stay t.next t t2 := hst1'.trans ⟨by omega, fun j hj => hot2' j (by omega)⟩
  have l20 : loadA Try.prog t2 26 (.pointer (some ⟨t.next, 0, some 6⟩)) = some (.agg xs.toArray) := Thing.loadO ht2' hxl
  have hfl := flat_take_le (partsO o) (i + 1)
  rw [flat_take hlt, List.length_append] at hfl
  simp -implicitDefEqProofs (disch := omega) only [allW, allR, oneOf, evalAll, partsA, optA, Nat.reduceLT, Nat.reduceLeDiff, Nat.reduceEqDiff, Nat.reduceAdd, ↓reduceIte, hn, h3, h13, h14, h15, l20]
  refine (ih (partsO o)[i] (by have := partsO_lt (List.getElem_mem hlt); omega) _ t2 xs (hoi.keeps hstt2) (hps _ (List.getElem_mem hlt)) (by omega)).mono ?_
  rintro y t3 ⟨hy, hyF, hst3'⟩
  have hst23 := hstt2.trans (hst3'.weaken hstt2.next)
  simp -implicitDefEqProofs (disch := omega) only [allW, allR, oneOf, evalAll, partsA, optA, Nat.reduceLT, Nat.reduceLeDiff, Nat.reduceEqDiff, Nat.reduceAdd, ↓reduceIte, hn, h3, h13, h14, h15]
  refine wstep_append Try.underlying32 Try.underlying32 (.inl ⟨_, rfl⟩) szInt byInt zInt rfl (hw.keeps hst23) hy.sees.src (by rw [intsV_length, Nat.mul_one]) (by decide) (intsV_ok _) (by omega) (by omega) hwF (by have := hst.next; have := hst23.next; omega) ?_
  intro w' t4 hw' hwF' hst4' _ _
  simp -implicitDefEqProofs (disch := omega) only [allW, allR, oneOf, evalAll, partsA, optA, Nat.reduceLT, Nat.reduceLeDiff, Nat.reduceEqDiff, Nat.reduceAdd, ↓reduceIte, hn, h3, h13, h14, h15, wrapI]
  exact wround_next ((partsO o).length - (i + 1)) (by omega) ⟨i + 1, w', rfl, by omega, by rw [flat_take hlt, List.length_append, intsV_append]; exact hw', hwF', (hst.trans (hst23.weaken hst.next)).trans hst4', by simp only [get_put, n_put, ↓reduceIte, Nat.reduceEqDiff, hn], by simp only [get_put, n_put, ↓reduceIte, Nat.reduceEqDiff], by simp only [get_put, n_put, ↓reduceIte, Nat.reduceEqDiff, h13], by simp only [get_put, n_put, ↓reduceIte, Nat.reduceEqDiff, h14], by simp only [get_put, n_put, ↓reduceIte, Nat.reduceEqDiff]; rfl⟩
 clear hn h0 f
 rintro z f t ⟨rfl, w, hw, hwF, hst, hn, h3⟩
 simp -implicitDefEqProofs (disch := omega) only [allW, allR, wfn_ret, wfn_normal, oneOf, evalAll, partsA, optA, Nat.reduceLT, Nat.reduceLeDiff, Nat.reduceEqDiff, Nat.reduceAdd, ↓reduceIte, hn, h3, Try.results61]
 exact ⟨by rw [e]; exact hw, fun j hj => by have := hwF j hj; have := hs2.next; omega, hs2.trans (hst.weaken hs2.next)⟩
end Go.Proofs.Ythlbahnfimigcaa