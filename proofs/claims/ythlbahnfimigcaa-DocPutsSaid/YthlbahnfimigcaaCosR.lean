import Derived.Test.YthlbahnfimigcaaCosK
import Derived.Test.YthlbahnfimigcaaDocE
import Derived.Test.YthlbahnfimigcaaCosA
set_option linter.unusedSimpArgs false
set_option linter.unusedVariables false
set_option maxRecDepth 100000
namespace Go.Cl
open Go.RowKit Go.ChangeShapes Go.WideShapes
theorem VR.aggL {S : St} {cs ds : List Value} {d : Array Value} (h : VRL S cs ds) (hd : d.toList = ds) : VR S (.agg cs.toArray) (.agg d) := by
 subst hd
 exact .agg _ _ h.1 h.2
end Go.Cl
namespace Go.Proofs.Ythlbahnfimigcaa
open Go.Cl Go.Lib Go.RowKit Go.ChangeShapes Go.WideShapes
variable {H : Type} {enc : TypeId × Value -> H} {W : World}
end Go.Proofs.Ythlbahnfimigcaa
set_option linter.unusedSimpArgs false
set_option linter.unusedVariables false
set_option maxRecDepth 100000
namespace Go.Proofs.Ythlbahnfimigcaa
open Go.Cl Go.Lib Go.RowKit Go.ChangeShapes Go.WideShapes
variable {H : Type} {enc : TypeId × Value -> H} {W : World}
theorem coIt : Try.prog.cellsOf 55 = 6 := by kernel_rfl
theorem coIs : Try.prog.cellsOf 27 = 1 := by kernel_rfl
theorem coDc : Try.prog.cellsOf 29 = 9 := by kernel_rfl
theorem coIt1 : 1 ≤ Try.prog.bytesOf 55 := by rw [show Try.prog.bytesOf 55 = 96 from by kernel_rfl]; decide
theorem item_of {n : Nat} {S : St} (hS : Begun W S) {cs : List Value} {x : DataW H × List MemPlace} (h : DataW.trod enc Try.prog W 0 (fun _ => true) true n 55 cs = some x) (hwt : Wt Try.prog 55 x.1) :
  ∃ S' cs' e, Grew W S S' ∧ VRL S' cs' cs ∧ cs'.length = 6 ∧ ItIs (fun j => j < S'.s.next) S'.s cs' e ∧ Fit e.2 := by
 obtain ⟨xs, m, hm, rfl, hl, hxl, hx⟩ := DataW.trod_struct Try.underlying55 h
 rw [coIt] at hl
 have h0 := hx 0 _ rfl
 have h1 := hx 1 _ rfl
 change DataW.trod enc Try.prog W 0 (fun _ => true) true m 3 ((cs.drop 0).take (Try.prog.cellsOf 3)) = xs[0]? at h0
 change DataW.trod enc Try.prog W 0 (fun _ => true) true m 26 ((cs.drop 1).take (Try.prog.cellsOf 26)) = xs[1]? at h1
 rw [coI] at h0
 rw [coO] at h1
 have hs : xs.length = 2 := hxl
 rw [List.getElem?_eq_getElem (by omega)] at h0 h1
 have w1 : Wt Try.prog 26 (xs[1]).1 := hwt.struct Try.underlying55 (i := 1) rfl (by rw [List.getElem?_map, List.getElem?_eq_getElem (by omega)]; rfl)
 obtain ⟨num, e0, _⟩ := DataW.trod_int Try.underlying3 h0
 obtain ⟨S', cs', o, hg, hv, hol, ho, hfo⟩ := obj_open m S hS _ _ h1 w1
 obtain ⟨v0, v1, v2, v3, v4, v5, rfl⟩ : ∃ v0 v1 v2 v3 v4 v5, cs = [v0, v1, v2, v3, v4, v5] := by
  clear h h0 h1 e0
  match cs, hl with
  | [a, b, c, d, e, f], _ => exact ⟨_, _, _, _, _, _, rfl⟩
 simp at e0
 subst e0
 exact ⟨S', .int .i64 num :: cs', (num, o), hg, .cons (.int _ _) hv, by simp [hol], ⟨cs', rfl, ho⟩, hfo⟩
theorem doc_open {fuel : Nat} {S : St} (hS : Begun W S) {cs : List Value} {x : DataW H × List MemPlace} (h : DataW.trod enc Try.prog W 0 (fun _ => true) true fuel 29 cs = some x) (hwt : Wt Try.prog 29 x.1) :
  ∃ S' mv tc iv ic D, Grew W S S' ∧ VRL S' (docC D mv tc iv) cs ∧ DocIs (fun j => j < S'.s.next) S'.s mv tc iv ic D ∧ FitD D := by
 obtain ⟨xs, n, hn, rfl, hl, hxl, hx⟩ := DataW.trod_struct Try.underlying29 h
 rw [coDc] at hl
 have h0 := hx 0 _ rfl
 have h1 := hx 1 _ rfl
 have h2 := hx 2 _ rfl
 have h3 := hx 3 _ rfl
 have h4 := hx 4 _ rfl
 change DataW.trod enc Try.prog W 0 (fun _ => true) true n 3 ((cs.drop 0).take (Try.prog.cellsOf 3)) = xs[0]? at h0
 change DataW.trod enc Try.prog W 0 (fun _ => true) true n 22 ((cs.drop 1).take (Try.prog.cellsOf 22)) = xs[1]? at h1
 change DataW.trod enc Try.prog W 0 (fun _ => true) true n 3 ((cs.drop 2).take (Try.prog.cellsOf 3)) = xs[2]? at h2
 change DataW.trod enc Try.prog W 0 (fun _ => true) true n 26 ((cs.drop 3).take (Try.prog.cellsOf 26)) = xs[3]? at h3
 change DataW.trod enc Try.prog W 0 (fun _ => true) true n 27 ((cs.drop 8).take (Try.prog.cellsOf 27)) = xs[4]? at h4
 rw [coI] at h0 h2
 rw [coB] at h1
 rw [coO] at h3
 rw [coIs] at h4
 have hs : xs.length = 5 := hxl
 rw [List.getElem?_eq_getElem (by omega)] at h0 h1 h2 h3 h4
 have w1 : Wt Try.prog 22 (xs[1]).1 := hwt.struct Try.underlying29 (i := 1) rfl (by rw [List.getElem?_map, List.getElem?_eq_getElem (by omega)]; rfl)
 have w3 : Wt Try.prog 26 (xs[3]).1 := hwt.struct Try.underlying29 (i := 3) rfl (by rw [List.getElem?_map, List.getElem?_eq_getElem (by omega)]; rfl)
 have w4 : Wt Try.prog 27 (xs[4]).1 := hwt.struct Try.underlying29 (i := 4) rfl (by rw [List.getElem?_map, List.getElem?_eq_getElem (by omega)]; rfl)
 obtain ⟨minor, e0, _⟩ := DataW.trod_int Try.underlying3 h0
 obtain ⟨tail, e2, _⟩ := DataW.trod_int Try.underlying3 h2
 obtain ⟨S1, bv, bw, lb, B, e1, g1, r1, s1, f1, q1, _, k1⟩ := rows_open hS (Q := fun _ _ cs (d : UInt8) => cs = [.int .u8 (d.toNat : Int)]) (p := fun _ => True) (fun h _ => h) (fun h _ => h) Try.underlying22 coU8 (by decide) coB1 (fun m _ S hS cs x h _ => by
  obtain ⟨c, e, _, hw⟩ := DataW.trod_int Try.underlying5 h
  obtain ⟨bs, hb1, hb2⟩ := bytes_of (zs := [c]) (by simpa using hw)
  match bs, hb1 with
  | [u], _ =>
   have hb2 : [Value.int .u8 c] = [Value.int .u8 (u.toNat : Int)] := hb2
   exact ⟨S, [.int .u8 c], u, Grew.refl hS, by rw [e]; exact .cons (.int _ _) .nil, rfl, hb2, trivial⟩) h1 w1
 obtain ⟨S2, tc, o, g2, r2, ol, ho, fo⟩ := obj_open n S1 g1.begun _ _ h3 w3
 obtain ⟨S3, iv, iw, ic, L, e4, g3, r3, s3, f3, q3, p3, k3⟩ := rows_open g2.begun (Q := fun F s cs e => ItIs F s cs e) (p := fun e => Fit e.2) (fun h k => rowedI.keeps h k) (fun h k => rowedI.mono h k) Try.underlying27 coIt (by decide) coIt1 (fun m _ S hS cs x h hw => item_of hS h hw) h4 w4
 rw [reach_eq, Nat.mul_one] at k1 k3
 have hlb := s1.length
 rw [Nat.mul_one] at hlb
 have hB : lb = ofBytes B := bytes_rows hlb q1
 subst hB
 have m13 : ∀ j, j < S1.s.next -> j < S3.s.next := fun j hj => Nat.lt_of_lt_of_le hj (Nat.le_trans g2.stay.next g3.stay.next)
 have m23 : ∀ j, j < S2.s.next -> j < S3.s.next := fun j hj => Nat.lt_of_lt_of_le hj g3.stay.next
 obtain ⟨v0, v1, v2, v3, v4, v5, v6, v7, v8, rfl⟩ : ∃ v0 v1 v2 v3 v4 v5 v6 v7 v8, cs = [v0, v1, v2, v3, v4, v5, v6, v7, v8] := by
  clear h h0 h1 h2 h3 h4 e0 e1 e2 e4 r2
  match cs, hl with
  | [a, b, c, d, e, f, g, h, i], _ => exact ⟨_, _, _, _, _, _, _, _, _, rfl⟩
 have r2 : VRL S2 tc [v3, v4, v5, v6, v7] := r2
 simp at e0 e1 e2 e4
 subst e0; subst e1; subst e2; subst e4
 have rr := (r2.mono g3.ext)
 refine ⟨S3, bv, tc, iv, ic, ⟨minor, B, tail, o, L⟩, (g1.trans g2).trans g3, .cons (.int _ _) (.cons ((r1.mono g2.ext).mono g3.ext) (.cons (.int _ _) ?_)), ⟨(s1.keeps g2.stay).keeps g3.stay, f1.mono m13, (ho.keeps g3.stay).mono m23, s3, f3, ⟨s3.length, q3⟩⟩, ⟨k1, fo, k3, p3⟩⟩
 exact rr.append (.cons r3 .nil)
theorem arg_doc {S : St} (h : Begun W S) {r : Reach} {b0 : Nat} {v : Value} {d : DataW H} {ps : List MemPlace} (hval : Value.okWide Try.prog W r b0 29 v) (hd : DataW.Trod enc Try.prog W 0 (fun _ => true) true 29 v d ps) (hw : Wt Try.prog 29 d) :
  ∃ (S' : St) (mv : Value) (tc : List Value) (iv : Value) (ic : List Value) (D : Dc), Grew W S S' ∧ VR S' (.agg (docC D mv tc iv).toArray) v ∧ DocIs (fun _ => True) S'.s mv tc iv ic D ∧ FitD D := by
 obtain ⟨c, rfl, _⟩ := okWide_struct Try.underlying29 hval
 obtain ⟨fuel, hf⟩ := hd
 obtain ⟨S', mv, tc, iv, ic, D, hg, hv, hD, hfit⟩ := doc_open h hf hw
 exact ⟨S', mv, tc, iv, ic, D, hg, .aggL hv rfl, hD.mono (fun _ _ => trivial), hfit⟩
end Go.Proofs.Ythlbahnfimigcaa
set_option linter.unusedSimpArgs false
set_option linter.unusedVariables false
set_option maxRecDepth 100000
namespace Go.Proofs.Ythlbahnfimigcaa
open Go.Cl
def Roomed (most : Int) (s : ASt) (o : O) (v : Value) (s' : ASt) : Prop := Tells (Small o ∧ (o.items.length : Int) + (o.ents.length : Int) ≤ most) v ∧ Stay s.next s s'
set_option maxHeartbeats 8000000 in
theorem room_any {lib : Prims} (hl0 : lib.at 18 = none) (most : Int) (hm : most ≤ 100000) : ∀ (N : Nat) (o : O), SizeOf.sizeOf o ≤ N -> ∀ (F : Nat -> Prop) (s : ASt) (cs : List Value) (depth : Int), OIs F s cs o -> Fit o -> -1 ≤ depth -> depth ≤ 1000 ->
  Runs Try.prog lib 18 [.agg cs.toArray, .int .i64 depth, .int .i64 most] s (Roomed most s o) := by
 intro N
 induction N with
 | zero => intro o h; cases o; simp at h
 | succ N ih =>
 intro o hN F s cs depth ho hfit hd0 hd1
 cases o with
 | mk kind num b l d =>
 obtain ⟨bv, lv, dv, lc, dc, rfl, hb, hL, hD, fb, fl, fd, rl, rd⟩ := ho.parts
 cases hfit with
 | mk hfb hfl hfd hfK hfL hfD =>
 refine Runs.enter 73 Try.func18 rfl hl0 rfl rfl ?_
 intro f hn hf
 have h0 : f.get 0 = .agg #[.int .i64 kind, .int .i64 num, bv, lv, dv] := hf 0
 have h1 : f.get 1 = .int .i64 depth := hf 1
 have h2 : f.get 2 = .int .i64 most := hf 2
 clear hf
 simp -implicitDefEqProofs (disch := omega) only [allW, allR, oneOf, evalAll, partsA, optA, Nat.reduceLT, Nat.reduceLeDiff, Nat.reduceEqDiff, Nat.reduceAdd, ↓reduceIte, hn, h0, h1, h2]
 refine wstep_newPtr ?_
 intro s1 ht1 hst1 hnx1
 have l2 : loadA Try.prog s1 22 (.pointer (some ⟨s.next, 2, some 6⟩)) = some bv := ht1.load agSl (off := 2) (c := 6) rfl (by simp)
 have l3 : loadA Try.prog s1 23 (.pointer (some ⟨s.next, 3, some 6⟩)) = some lv := ht1.load agLs (off := 3) (c := 6) rfl (by simp)
 have l4 : loadA Try.prog s1 24 (.pointer (some ⟨s.next, 4, some 6⟩)) = some dv := ht1.load agDs (off := 4) (c := 6) rfl (by simp)
 have hb1 := hb.keeps hst1
 have hL1 := hL.keeps hst1
 have hD1 := hD.keeps hst1
 have hno : ∀ (f : AFr) (s6 : ASt), Stay s.next s s6 -> f.n = 73 -> f.get 6 = .bool false -> wfn Try.prog Try.f18.results.toList (Roomed most s (.mk kind num b l d)) .ret f s6 := by
  intro f s6 hs hn h6
  simp -implicitDefEqProofs (disch := omega) only [allW, allR, wfn_ret, wfn_normal, oneOf, evalAll, partsA, optA, Nat.reduceLT, Nat.reduceLeDiff, Nat.reduceEqDiff, Nat.reduceAdd, ↓reduceIte, hn, h6, Try.results18]
  exact ⟨⟨false, rfl, fun h => by cases h⟩, hs⟩
 by_cases c1 : depth < 0
 ·simp -implicitDefEqProofs (disch := omega) only [allW, allR, oneOf, evalAll, partsA, optA, Nat.reduceLT, Nat.reduceLeDiff, Nat.reduceEqDiff, Nat.reduceAdd, ↓reduceIte, undef, hn, h0, h1, h2, List.length_cons, List.length_nil, eq_true c1]
  exact hno _ _ hst1 (by simp only [get_put, n_put, ↓reduceIte, Nat.reduceEqDiff, hn]) (by simp only [get_put, n_put, ↓reduceIte, Nat.reduceEqDiff])
 by_cases c2 : ((b.length : Nat) : Int) > 3000
 ·simp -implicitDefEqProofs (disch := omega) only [allW, allR, oneOf, evalAll, partsA, optA, Nat.reduceLT, Nat.reduceLeDiff, Nat.reduceEqDiff, Nat.reduceAdd, ↓reduceIte, undef, hn, h0, h1, h2, List.length_cons, List.length_nil, eq_false c1, of2, l2, hb1.lenA Try.underlying22, eq_true c2]
  exact hno _ _ hst1 (by simp only [get_put, n_put, ↓reduceIte, Nat.reduceEqDiff, hn]) (by simp only [get_put, n_put, ↓reduceIte, Nat.reduceEqDiff])
 by_cases c3 : ((l.length : Nat) : Int) + ((d.length : Nat) : Int) > most
 ·simp -implicitDefEqProofs (disch := omega) only [allW, allR, oneOf, evalAll, partsA, optA, Nat.reduceLT, Nat.reduceLeDiff, Nat.reduceEqDiff, Nat.reduceAdd, ↓reduceIte, undef, hn, h0, h1, h2, List.length_cons, List.length_nil, eq_false c1, of2, l2, hb1.lenA Try.underlying22, eq_false c2, of3, of4, l3, l4, hL1.lenA Try.underlying23, hD1.lenA Try.underlying24, wrapI, eq_true c3]
  exact hno _ _ hst1 (by simp only [get_put, n_put, ↓reduceIte, Nat.reduceEqDiff, hn]) (by simp only [get_put, n_put, ↓reduceIte, Nat.reduceEqDiff])
 simp -implicitDefEqProofs (disch := omega) only [allW, allR, oneOf, evalAll, partsA, optA, Nat.reduceLT, Nat.reduceLeDiff, Nat.reduceEqDiff, Nat.reduceAdd, ↓reduceIte, undef, hn, h0, h1, h2, List.length_cons, List.length_nil, eq_false c1, of2, l2, hb1.lenA Try.underlying22, eq_false c2, of3, of4, l3, l4, hL1.lenA Try.underlying23, hD1.lenA Try.underlying24, wrapI, eq_false c3]
 refine Comes.loopOut (fun z f s6 => ∃ i : Nat, z = l.length - i ∧ i ≤ l.length ∧ (∀ x ∈ l.take i, Small x) ∧ Thing s6 s.next [.int .i64 kind, .int .i64 num, bv, lv, dv] ∧ Stay s.next s s6 ∧ f.n = 73 ∧ f.get 1 = .int .i64 depth ∧ f.get 2 = .int .i64 most ∧ f.get 3 = .pointer (some ⟨s.next, 0, some 6⟩) ∧ f.get 7 = .int .i64 (i : Nat))
  (fun z f s6 => (z = .ret ∧ Stay s.next s s6 ∧ f.n = 73 ∧ f.get 6 = .bool false) ∨ (z = .exit 0 ∧ (∀ x ∈ l, Small x) ∧ Thing s6 s.next [.int .i64 kind, .int .i64 num, bv, lv, dv] ∧ Stay s.next s s6 ∧ f.n = 73 ∧ f.get 1 = .int .i64 depth ∧ f.get 2 = .int .i64 most ∧ f.get 3 = .pointer (some ⟨s.next, 0, some 6⟩)))
  ⟨0, rfl, by omega, by simp, ht1, hst1, by simp only [get_put, n_put, ↓reduceIte, Nat.reduceEqDiff, hn], by simp only [get_put, n_put, ↓reduceIte, Nat.reduceEqDiff, h1], by simp only [get_put, n_put, ↓reduceIte, Nat.reduceEqDiff, h2], by simp only [get_put, n_put, ↓reduceIte, Nat.reduceEqDiff], by simp only [get_put, n_put, ↓reduceIte, Nat.reduceEqDiff]; rfl⟩ ?_ ?_
 ·clear hn h0 h1 h2 f l2 l3 l4 hb1 hL1 hD1 ht1 hno
  rintro Q hQ z f s6 ⟨i, rfl, hi, hS, ht, hs, hn, h1, h2, h3, h7⟩
  have hL6 := hL.keeps hs
  have l6 : loadA Try.prog s6 23 (.pointer (some ⟨s.next, 3, some 6⟩)) = some lv := ht.load agLs (off := 3) (c := 6) rfl (by simp)
  by_cases hlt : i < l.length
  rotate_left
  ·obtain rfl : i = l.length := by omega
   rw [List.take_length] at hS
   have d1 : ¬ ((l.length : Nat) : Int) < ((l.length : Nat) : Int) := by omega
   simp -implicitDefEqProofs (disch := omega) only [allW, allR, oneOf, evalAll, partsA, optA, Nat.reduceLT, Nat.reduceLeDiff, Nat.reduceEqDiff, Nat.reduceAdd, ↓reduceIte, hn, h1, h2, h3, h7, of3, l6, hL6.lenA Try.underlying23, eq_false d1]
   exact hQ _ _ _ (.inr ⟨rfl, hS, ht, hs, by simp only [get_put, n_put, ↓reduceIte, Nat.reduceEqDiff, hn], by simp only [get_put, n_put, ↓reduceIte, Nat.reduceEqDiff, h1], by simp only [get_put, n_put, ↓reduceIte, Nat.reduceEqDiff, h2], by simp only [get_put, n_put, ↓reduceIte, Nat.reduceEqDiff, h3]⟩)
  have d1 : (i : Int) < (l.length : Int) := by omega
  simp -implicitDefEqProofs (disch := omega) only [allW, allR, allL, allB, Nat.sub_self, Nat.add_one_sub_one, Nat.reduceSub, oneOf, evalAll, partsA, optA, Nat.reduceLT, Nat.reduceLeDiff, Nat.reduceEqDiff, Nat.reduceAdd, ↓reduceIte, hn, h1, h2, h3, h7, of3, l6, hL6.lenA Try.underlying23, eq_true d1]
  have hix := hL6.indexAddr (P := Try.prog) (k := .i64) (x := (i : Int)) Try.underlying23 szO (by omega) (by omega)
  rw [Int.toNat_natCast] at hix
  have hld := hL6.loadAgg (P := Try.prog) agO szO hlt
  have hoi := (rl.row i hlt).keeps hs
  simp -implicitDefEqProofs (disch := omega) only [allW, allR, oneOf, evalAll, partsA, optA, Nat.reduceLT, Nat.reduceLeDiff, Nat.reduceEqDiff, Nat.reduceAdd, ↓reduceIte, hn, h1, h2, h3, h7, of3, l6, hL6.self, hix, hld, hoi.self, wrapI]
  refine (ih l[i] (by have := O.items_lt (k := kind) (n := num) (b := b) (l := l) (d := d) (List.getElem_mem hlt); omega) F s6 _ (depth - 1) hoi (hfL _ (List.getElem_mem hlt)) (by omega) (by omega)).mono ?_
  rintro _ s7 ⟨⟨t, rfl, ht7⟩, hs7⟩
  have hn7 := hs7.next
  have hss := hs.trans (hs7.weaken hs.next)
  have htt := ht.keeps hs7
  cases t with
  | false =>
   simp -implicitDefEqProofs (disch := omega) only [allW, allR, oneOf, evalAll, partsA, optA, Nat.reduceLT, Nat.reduceLeDiff, Nat.reduceEqDiff, Nat.reduceAdd, ↓reduceIte, hn, h1, h2, h3, h7]
   exact hQ _ _ _ (.inl ⟨rfl, hss, by simp only [get_put, n_put, ↓reduceIte, Nat.reduceEqDiff, hn], by simp only [get_put, n_put, ↓reduceIte, Nat.reduceEqDiff]⟩)
  | true =>
   simp -implicitDefEqProofs (disch := omega) only [allW, allR, oneOf, evalAll, partsA, optA, Nat.reduceLT, Nat.reduceLeDiff, Nat.reduceEqDiff, Nat.reduceAdd, ↓reduceIte, hn, h1, h2, h3, h7, wrapI]
   exact wround_next (l.length - (i + 1)) (by omega) ⟨i + 1, rfl, by omega, small_take hS hlt (ht7 rfl).1, htt, hss, by simp only [get_put, n_put, ↓reduceIte, Nat.reduceEqDiff, hn], by simp only [get_put, n_put, ↓reduceIte, Nat.reduceEqDiff, h1], by simp only [get_put, n_put, ↓reduceIte, Nat.reduceEqDiff, h2], by simp only [get_put, n_put, ↓reduceIte, Nat.reduceEqDiff, h3], by simp only [get_put, n_put, ↓reduceIte, Nat.reduceEqDiff]; rfl⟩
 clear hn h0 h1 h2 f l2 l3 l4 hb1 hL1 hD1 ht1
 rintro z f s6 (⟨rfl, hs, hn, h6⟩ | ⟨rfl, hS, ht, hs, hn, h1, h2, h3⟩)
 ·simp -implicitDefEqProofs (disch := omega) only [allW, allR, oneOf, evalAll, partsA, optA, Nat.reduceLT, Nat.reduceLeDiff, Nat.reduceEqDiff, Nat.reduceAdd, ↓reduceIte]
  exact hno _ _ hs hn h6
 simp -implicitDefEqProofs (disch := omega) only [allW, allR, oneOf, evalAll, partsA, optA, Nat.reduceLT, Nat.reduceLeDiff, Nat.reduceEqDiff, Nat.reduceAdd, ↓reduceIte, hn, h1, h2, h3]
 refine Comes.loopOut (fun z f s6 => ∃ i : Nat, z = d.length - i ∧ i ≤ d.length ∧ (∀ e ∈ d.take i, e.1.length ≤ 100000 ∧ Small e.2) ∧ Thing s6 s.next [.int .i64 kind, .int .i64 num, bv, lv, dv] ∧ Stay s.next s s6 ∧ f.n = 73 ∧ f.get 1 = .int .i64 depth ∧ f.get 2 = .int .i64 most ∧ f.get 3 = .pointer (some ⟨s.next, 0, some 6⟩) ∧ f.get 8 = .int .i64 (i : Nat))
  (fun z f s6 => (z = .ret ∧ Stay s.next s s6 ∧ f.n = 73 ∧ f.get 6 = .bool false) ∨ (z = .exit 2 ∧ (∀ e ∈ d, e.1.length ≤ 100000 ∧ Small e.2) ∧ Stay s.next s s6 ∧ f.n = 73))
  ⟨0, rfl, by omega, by simp, ht, hs, by simp only [get_put, n_put, ↓reduceIte, Nat.reduceEqDiff, hn], by simp only [get_put, n_put, ↓reduceIte, Nat.reduceEqDiff, h1], by simp only [get_put, n_put, ↓reduceIte, Nat.reduceEqDiff, h2], by simp only [get_put, n_put, ↓reduceIte, Nat.reduceEqDiff, h3], by simp only [get_put, n_put, ↓reduceIte, Nat.reduceEqDiff]; rfl⟩ ?_ ?_
 ·clear hn h1 h2 h3 f hs ht s6 hno
  rintro Q hQ z f s6 ⟨i, rfl, hi, hK, ht, hs, hn, h1, h2, h3, h8⟩
  have hD6 := hD.keeps hs
  have l6 : loadA Try.prog s6 24 (.pointer (some ⟨s.next, 4, some 6⟩)) = some dv := ht.load agDs (off := 4) (c := 6) rfl (by simp)
  by_cases hlt : i < d.length
  rotate_left
  ·obtain rfl : i = d.length := by omega
   rw [List.take_length] at hK
   have d1 : ¬ ((d.length : Nat) : Int) < ((d.length : Nat) : Int) := by omega
   simp -implicitDefEqProofs (disch := omega) only [allW, allR, oneOf, evalAll, partsA, optA, Nat.reduceLT, Nat.reduceLeDiff, Nat.reduceEqDiff, Nat.reduceAdd, ↓reduceIte, hn, h1, h2, h3, h8, of4, l6, hD6.lenA Try.underlying24, eq_false d1]
   exact hQ _ _ _ (.inr ⟨rfl, hK, hs, by simp only [get_put, n_put, ↓reduceIte, Nat.reduceEqDiff, hn]⟩)
  have d1 : (i : Int) < (d.length : Int) := by omega
  have hix := hD6.indexAddr (P := Try.prog) (k := .i64) (x := (i : Int)) Try.underlying24 szE (by omega) (by omega)
  rw [Int.toNat_natCast] at hix
  obtain ⟨q0, q1⟩ := efE hD6 hlt
  obtain ⟨r, hr1, hr2, hr3⟩ := rd.row i hlt
  obtain ⟨hk6, hv6⟩ := chunk6 hr1
  have hlk := hD6.loadField (P := Try.prog) agStr hlt (j := 0) (by omega)
  rw [Nat.add_zero, hk6] at hlk
  have hlv := hD6.loadPart (P := Try.prog) agO szO hlt (j := 1) (by omega)
  rw [hv6] at hlv
  have hoi := hr2.keeps hs
  by_cases c1 : ((d[i].1.length : Nat) : Int) > 300
  ·simp -implicitDefEqProofs (disch := omega) only [allW, allR, oneOf, evalAll, partsA, optA, Nat.reduceLT, Nat.reduceLeDiff, Nat.reduceEqDiff, Nat.reduceAdd, ↓reduceIte, undef, hn, h1, h2, h3, h8, of4, l6, hD6.lenA Try.underlying24, eq_true d1, hD6.self, hix, q0, q1, hlk, hlv, valEq_string, str_len Try.underlying9, eq_true c1]
   exact hQ _ _ _ (.inl ⟨rfl, hs, by simp only [get_put, n_put, ↓reduceIte, Nat.reduceEqDiff, hn], by simp only [get_put, n_put, ↓reduceIte, Nat.reduceEqDiff]⟩)
  simp -implicitDefEqProofs (disch := omega) only [allW, allR, oneOf, evalAll, partsA, optA, Nat.reduceLT, Nat.reduceLeDiff, Nat.reduceEqDiff, Nat.reduceAdd, ↓reduceIte, undef, hn, h1, h2, h3, h8, of4, l6, hD6.lenA Try.underlying24, eq_true d1, hD6.self, hix, q0, q1, hlk, hlv, valEq_string, str_len Try.underlying9, eq_false c1, hoi.self, wrapI]
  refine (ih d[i].2 (by have := O.ents_lt (k := kind) (n := num) (b := b) (l := l) (d := d) (List.getElem_mem hlt); omega) F s6 _ (depth - 1) hoi (hfD _ (List.getElem_mem hlt)) (by omega) (by omega)).mono ?_
  rintro _ s7 ⟨⟨t, rfl, ht7⟩, hs7⟩
  have hn7 := hs7.next
  have hss := hs.trans (hs7.weaken hs.next)
  have htt := ht.keeps hs7
  cases t with
  | false =>
   simp -implicitDefEqProofs (disch := omega) only [allW, allR, oneOf, evalAll, partsA, optA, Nat.reduceLT, Nat.reduceLeDiff, Nat.reduceEqDiff, Nat.reduceAdd, ↓reduceIte, hn, h1, h2, h3, h8]
   exact hQ _ _ _ (.inl ⟨rfl, hss, by simp only [get_put, n_put, ↓reduceIte, Nat.reduceEqDiff, hn], by simp only [get_put, n_put, ↓reduceIte, Nat.reduceEqDiff]⟩)
  | true =>
   simp -implicitDefEqProofs (disch := omega) only [allW, allR, oneOf, evalAll, partsA, optA, Nat.reduceLT, Nat.reduceLeDiff, Nat.reduceEqDiff, Nat.reduceAdd, ↓reduceIte, hn, h1, h2, h3, h8, wrapI]
   refine wround_next (d.length - (i + 1)) (by omega) ⟨i + 1, rfl, by omega, ?_, htt, hss, by simp only [get_put, n_put, ↓reduceIte, Nat.reduceEqDiff, hn], by simp only [get_put, n_put, ↓reduceIte, Nat.reduceEqDiff, h1], by simp only [get_put, n_put, ↓reduceIte, Nat.reduceEqDiff, h2], by simp only [get_put, n_put, ↓reduceIte, Nat.reduceEqDiff, h3], by simp only [get_put, n_put, ↓reduceIte, Nat.reduceEqDiff]; rfl⟩
   intro x hm
   rw [List.take_add_one, List.getElem?_eq_getElem hlt, List.mem_append] at hm
   rcases hm with hm | hm
   ·exact hK x hm
   ·simp at hm; rw [hm]; exact ⟨by omega, (ht7 rfl).1⟩
 clear hn h1 h2 h3 f hs ht s6
 rintro z f s6 (⟨rfl, hs, hn, h6⟩ | ⟨rfl, hK, hs, hn⟩)
 ·simp -implicitDefEqProofs (disch := omega) only [allW, allR, oneOf, evalAll, partsA, optA, Nat.reduceLT, Nat.reduceLeDiff, Nat.reduceEqDiff, Nat.reduceAdd, ↓reduceIte]
  exact hno _ _ hs hn h6
 simp -implicitDefEqProofs (disch := omega) only [allW, allR, wfn_ret, wfn_normal, oneOf, evalAll, partsA, optA, Nat.reduceLT, Nat.reduceLeDiff, Nat.reduceEqDiff, Nat.reduceAdd, ↓reduceIte, hn, Try.results18]
 exact ⟨⟨true, rfl, fun _ => ⟨.mk (by omega) (by omega) (by omega) (fun e he => (hK e he).1) hS (fun e he => (hK e he).2), by simp only [O.items, O.ents]; omega⟩⟩, hs⟩
end Go.Proofs.Ythlbahnfimigcaa
