import Derived.Test.YtokfoagohblkoaaPgI
set_option linter.unusedSimpArgs false
set_option linter.unusedVariables false
set_option maxRecDepth 100000
namespace Go.Cl
theorem KW {w m : Nat} {lv lv' : Value} {s s' : ASt} {L : List PgO} {lc : List Value} (h : zt PgIs 20 (zY w m lv) s L lc) (k : WTo w m lv lv' s s') : zt PgIs 20 (zY w m lv') s' L lc :=
 zt.mono wW (Jt (zt.below wW h) (k.calm.mono fun j _ h => h.1)) fun j h => k.free h.2 h.1
section
variable {X X' : Value -> List Value} {z : Value} {s s' t t2 t3 : ASt} {w : Nat} {D : Dc} {mv : Value} {tc : List Value} {iv : Value} {ic : List Value} {m : Nat} {lv lv' : Value} {W : WkO}
theorem PwIs.push {lc new : List Value} {p : PgO} (h : PwIs X z t w D mv tc iv ic m lv W) (hR : zt PgIs 20 (zY w m lv) t W.pages lc) (hp : PgIs (zY w m lv) t new p) (hsp : zu p.res ∧ zu p.obj) (h2 : Own t2 20 lv' (W.pages.length + 1) (lc ++ new)) (ht : zA lv t t2) (hor : idOf lv' = idOf lv ∨ ∃ i, idOf lv' = some i ∧ t.next ≤ i)
  (h3 : zd t3 w (X lv')) (hn : t3.next = t2.next) (ho : ∀ j, j ≠ w -> t3.heap.get j = t2.heap.get j) : PwIs X z t3 w D mv tc iv ic m lv' ⟨W.seen, W.pages ++ [p]⟩ ∧ WTo w m lv lv' t t3 := by
 have hwlt := h.thing.lt
 obtain ⟨T, hM, hS⟩ := h.met
 have hto : WTo w m lv lv' t t3 := ⟨⟨by rw [hn]; exact ht.next, fun j hj hF => (ho j hF.1).trans (ht.get j hj hF.2.2)⟩, hor⟩
 have hlw : idOf lv' ≠ some w := fun e => by
  rcases hor with h1 | ⟨i, h1, h2⟩
  ·exact h.lw (by rw [← h1]; exact e)
  ·rw [h1] at e; injection e with e; omega
 have hlm : idOf lv' ≠ some m := fun e => by
  have := hM.lt
  rcases hor with h1 | ⟨i, h1, h2⟩
  ·exact h.lm (by rw [← h1]; exact e)
  ·rw [h1] at e; injection e with e; omega
 refine ⟨⟨h.doc.wto hto, h3, ⟨T, (hM.turns ht h.lm).ofPut hn ho h.wm, hS⟩, ⟨lc ++ new, ?_, ?_⟩, ?_, h.wm, hlw, hlm⟩, hto⟩
 ·show Own t3 20 lv' (W.pages ++ [p]).length (lc ++ new)
  rw [List.length_append, List.length_singleton]
  exact Own.ofPut hn ho h2 hlw
 ·exact KW (hR.snoc hp.len hp) hto
 ·intro q hq
  rcases List.mem_append.1 hq with hq | hq
  ·exact h.small q hq
  ·obtain rfl : q = p := by simpa using hq
   exact hsp
end
def xv (D : List (Int × O)) (n : Int) (o mine : O) (w : WkO) : WkO × Nat :=
 match JW D n o mine with
 | none => (w, 4)
 | some p => if w.pages.length ≥ 1000 then (w, 7) else (⟨w.seen, w.pages ++ [p]⟩, 0)
theorem abf {D : Dc} {mv iv lv lv' : Value} {tc : List Value} {m : Nat} (hl : tc.length = 5) : over (pwC D mv tc iv m lv) 10 [lv'] = pwC D mv tc iv m lv' := by
 obtain ⟨a, b, c, d, e, rfl⟩ := five hl
 rfl
theorem qs {D : Dc} {mv iv lv : Value} {tc : List Value} {m : Nat} (hl : tc.length = 5) : (pwC D mv tc iv m lv).length = 11 := by
 obtain ⟨a, b, c, d, e, rfl⟩ := five hl
 rfl
end Go.Cl
namespace Go.Proofs.Ytokfoagohblkoaa
open Go.Cl Go.Lib
theorem szPg : zB Try.prog 57 = some 20 := by kernel_rfl
theorem agPg : yc Try.prog 57 = some true := by kernel_rfl
theorem byPg : xV Try.prog 57 = some 256 := by kernel_rfl
def YY : List Value := lfC Z4 Z4 0 zG ++ (.int .i64 0 :: zG)
theorem zPg : yj Try.prog 57 = some (.agg YY.toArray) := by kernel_rfl
theorem plPg : yn (.agg YY.toArray) = true := by kernel_rfl
theorem KX {l : List Value} (h : l.length = 14) : ∃ a1 a2 a3 a4 a5 a6 a7 a8 a9 a10 a11 a12 a13 a14, l = [a1, a2, a3, a4, a5, a6, a7, a8, a9, a10, a11, a12, a13, a14] := by
 match l, h with
 | [a1, a2, a3, a4, a5, a6, a7, a8, a9, a10, a11, a12, a13, a14], _ => exact ⟨a1, a2, a3, a4, a5, a6, a7, a8, a9, a10, a11, a12, a13, a14, rfl⟩
theorem bPg {l oc : List Value} (n : Int) (hl : l.length = 14) (ho : oc.length = 5) : yE Try.prog 57 [(0, .agg l.toArray), (1, .int .i64 n), (2, .agg oc.toArray)] = some (.agg (l ++ (.int .i64 n :: oc)).toArray) := by
 obtain ⟨a1, a2, a3, a4, a5, a6, a7, a8, a9, a10, a11, a12, a13, a14, rfl⟩ := KX hl
 obtain ⟨a, b, c, d, e, rfl⟩ := five ho
 kernel_rfl
section
variable {t : ASt} {i : Nat} {D : Dc} {mv iv lv : Value} {tc : List Value} {m : Nat}
theorem VZ (h : zd t i (pwC D mv tc iv m lv)) (hl : tc.length = 5) : zg Try.prog t 76 (.pointer (some ⟨i, 9, some 12⟩)) = some (.map (some m)) := by
 rw [h.load (P := Try.prog) agMq (off := 9) (c := 12) (by rw [qs hl]) (by rw [qs hl]; omega)]
 obtain ⟨a, b, c, d, e, rfl⟩ := five hl
 rfl
theorem ZL (h : zd t i (pwC D mv tc iv m lv)) (hl : tc.length = 5) : zg Try.prog t 23 (.pointer (some ⟨i, 10, some 12⟩)) = some lv := by
 rw [h.load (P := Try.prog) agPs (off := 10) (c := 12) (by rw [qs hl]) (by rw [qs hl]; omega)]
 obtain ⟨a, b, c, d, e, rfl⟩ := five hl
 rfl
end
def StepR (X : Value -> List Value) (z : Value) (s : ASt) (w : Nat) (D : Dc) (mv : Value) (tc : List Value) (iv : Value) (ic : List Value) (m : Nat) (lv : Value) (r : WkO × Nat) (v : Value) (s' : ASt) : Prop :=
 v = .int .i64 (r.2 : Nat) ∧ ∃ lv', PwIs X z s' w D mv tc iv ic m lv' r.1 ∧ WTo w m lv lv' s s'
set_option maxHeartbeats 8000000 in
theorem aat (z : Value) (s : ASt) (w : Nat) (D : Dc) (mv : Value) (tc : List Value) (iv : Value) (ic : List Value) (m : Nat) (lv : Value) (W : WkO) (hW : PwIs (pwC D mv tc iv m) z s w D mv tc iv ic m lv W) (hs : yN D) (n : Int) (cs : List Value) (o : O) (ho : OIs (zY w m lv) s cs o) (hso : zu o) (G : Nat -> Prop) (ca : List Value) (mine : O) (ha : OIs G s ca mine) (hsa : zu mine) :
  Runs Try.prog libN 47 [.pointer (some ⟨w, 0, some 12⟩), .int .i64 n, .agg cs.toArray, .agg ca.toArray] s (StepR (pwC D mv tc iv m) z s w D mv tc iv ic m lv (xv D.items n o mine W)) := by
 have htl := hW.doc.trailer.len
 have hol := ho.len
 have hal := ha.len
 refine Runs.enter 40 Try.func47 rfl rfl rfl rfl ?_
 intro f hn hf
 have h0 : f.get 0 = .pointer (some ⟨w, 0, some 12⟩) := hf 0
 have h1 : f.get 1 = .int .i64 n := hf 1
 have h2 : f.get 2 = .agg cs.toArray := hf 2
 have h3 : f.get 3 = .agg ca.toArray := hf 3
 clear hf
 simp -implicitDefEqProofs (disch := omega) only [allW, Nat.reduceLT, ↓reduceIte, hn, h2]
 refine ze ?_
 intro s1 ht1 hst1 hnx1
 have ht1 : zd s1 s.next cs := ht1
 simp -implicitDefEqProofs (disch := omega) only [allW, Nat.reduceLT, Nat.reduceEqDiff, Nat.reduceAdd, ↓reduceIte, hn, h3, hol]
 refine ze ?_
 intro s2 ht2 hst2 hnx2
 have ht2 : zd s2 s1.next ca := ht2
 have n1 := hst1.next
 have n2 := hst2.next
 have hs2 : Stay s.next s s2 := hst1.trans (hst2.weaken n1)
 have hW2 := hW.keeps hs2
 simp -implicitDefEqProofs (disch := omega) only [allW, allR, zc, Nat.reduceLT, Nat.reduceEqDiff, Nat.reduceAdd, ↓reduceIte, hn, h0, hal, zd.loadO ht2 hal]
 refine (aas _ _ s2 w D mv tc iv ic m lv hW2.doc hs hW2.thing ca mine (ha.keeps hs2) hsa).mono ?_
 rintro _ s3 ⟨rc, rfl, hrc, k3⟩
 have n3 := k3.next
 have hrl := hrc.len
 have hLl : (lfC (lfM D.items mine) (lfK D.items mine) (lfT D.items mine) rc).length = 14 := yY wb jp hrl
 have hLs := Wz (m := lfM D.items mine) (c := lfK D.items mine) (r := lfT D.items mine) hrc.self
 have hLo := KU (m := lfM D.items mine) (c := lfK D.items mine) (r := lfT D.items mine) hrc.ok
 have eL := KV D.items n o mine
 obtain ⟨L, hL⟩ : ∃ L, L = lfC (lfM D.items mine) (lfK D.items mine) (lfT D.items mine) rc := ⟨_, rfl⟩
 rw [← hL] at hLl hLs hLo ⊢
 simp -implicitDefEqProofs (disch := omega) only [allW, Nat.reduceLT, Nat.reduceEqDiff, ↓reduceIte, hn, ext0, ext1, zLf, plLf]
 refine ze ?_
 intro s4 ht4 hst4 hnx4
 have hd15 : (lfC Z4 Z4 0 zG).length + 1 = 15 := rfl
 simp -implicitDefEqProofs (disch := omega) only [allW, Nat.reduceLT, Nat.reduceEqDiff, ↓reduceIte, hn, hd15]
 refine zi szLf (by decide) ht4 rfl rfl hLl hLo ?_
 intro s5 ht5 nt5 et5
 have ht5 : zd s5 s3.next L := ht5
 have k35 : Stay s3.next s3 s5 := hst4.trans ⟨by omega, fun j hj => et5 j (by omega)⟩
 have n35 := k35.next
 have k25 : Stay s2.next s2 s5 := k3.trans (k35.weaken n3)
 have ks5 : Stay s.next s s5 := hs2.trans (k25.weaken (by omega))
 have hW5 := hW.keeps ks5
 have hrc5 : OIs (fun j => s2.next ≤ j ∧ j < s3.next) s5 rc (lfR D.items mine) := (hrc.lows.keeps hst4).ofPut nt5 et5 (by omega)
 cases hok : lfOk D.items mine
 ·have e : xv D.items n o mine W = (W, 4) := by unfold xv; rw [eL, hok]; rfl
  rw [e]
  simp -implicitDefEqProofs (disch := omega) only [allW, zh, Nat.reduceLT, Nat.reduceEqDiff, ↓reduceIte, allW, zj, zh, Nat.reduceLT, Nat.reduceEqDiff, ↓reduceIte, hn, Try.results47]
  exact ⟨rfl, lv, hW5, WTo.ofStay ks5⟩
 rw [hok, if_pos rfl] at eL
 obtain ⟨lc, hO5, hR5⟩ := hW5.pages
 by_cases hlen : W.pages.length ≥ 1000
 ·have e : xv D.items n o mine W = (W, 7) := by unfold xv; rw [eL]; simp only; rw [if_pos hlen]
  rw [e]
  have d1 : ((W.pages.length : Nat) : Int) ≥ 1000 := by omega
  simp -implicitDefEqProofs (disch := omega) only [allW, zh, zc, Nat.reduceLT, Nat.reduceEqDiff, ↓reduceIte, allW, zj, zh, zc, Nat.reduceLT, Nat.reduceEqDiff, ↓reduceIte, hn, h0, pw2, ZL hW5.thing htl, hO5.sees.lenA Try.underlying23, eq_true d1, Try.results47]
  exact ⟨rfl, lv, hW5, WTo.ofStay ks5⟩
 obtain ⟨p, hp⟩ : ∃ p : PgO, p = ⟨lfM D.items mine, lfK D.items mine, lfT D.items mine, lfR D.items mine, n, o⟩ := ⟨_, rfl⟩
 rw [← hp] at eL
 have e : xv D.items n o mine W = (⟨W.seen, W.pages ++ [p]⟩, 0) := by unfold xv; rw [eL]; simp only; rw [if_neg hlen]
 rw [e]
 have d1 : ¬ ((W.pages.length : Nat) : Int) ≥ 1000 := by omega
 simp -implicitDefEqProofs (disch := omega) only [allW, zc, Nat.reduceLT, Nat.reduceEqDiff, ↓reduceIte, hn, h0, pw2, ZL hW5.thing htl, hO5.sees.lenA Try.underlying23, eq_false d1]
 obtain ⟨B, hB⟩ : ∃ B : Nat -> Bool, B = fun j => decide (j < s5.next) := ⟨_, rfl⟩
 have hBl : ∀ j, B j = true -> j < s5.next := by
  intro j h
  rw [hB] at h
  exact of_decide_eq_true h
 have hBo : ∀ j, j < s5.next -> B j = true := fun j h => by rw [hB]; exact decide_eq_true h
 refine LB.Drawn.looseK B hBl 0 1 (by kernel_rfl) (by kernel_rfl) ?_
 have hsq := Stay.spare s5 1
 have hnq : (spare s5 1).next = s5.next + 1 := zH _ _
 have ht15 := ht1.keeps ((hst2.trans (k25.weaken n2)))
 have ml1 : ∀ k, LA.lowV B (some (.pointer (some ⟨w, k, some 12⟩))) = true := fun k => LA.lowV_ptr (A := B) (i := w) (hBo _ hW5.thing.lt)
 have ml2 : ∀ k, LA.lowV B (some (.pointer (some ⟨s.next, k, some 6⟩))) = true := fun k => LA.lowV_ptr (A := B) (i := s.next) (hBo _ ht15.lt)
 have ml3 : ∀ k, LA.lowV B (some (.pointer (some ⟨s3.next, k, some 15⟩))) = true := fun k => LA.lowV_ptr (A := B) (i := s3.next) (hBo _ ht5.lt)
 have lLf : zg Try.prog (spare s5 1) 55 (.pointer (some ⟨s3.next, 0, some 15⟩)) = some (.agg L.toArray) := zd.loadAll agLf (by rw [hLl]; exact szLf) (ht5.keeps hsq) (by rw [hLl])
 have ho5 := ho.lows.keeps ks5
 obtain ⟨PC, hPC⟩ : ∃ PC, PC = L ++ (.int .i64 n :: cs) := ⟨_, rfl⟩
 have hPCl : PC.length = 20 := by rw [hPC, List.length_append, List.length_cons, hLl, hol]
 have hPCok : PC.all okCell = true := by rw [hPC, List.all_append, List.all_cons, hLo, ho.ok]; rfl
 have hPCs : zD (.agg PC.toArray) (.agg PC.toArray) = true := by
  show yB PC PC = true
  rw [hPC]
  have h1 : yB L L = true := hLs
  have h2 : yB cs cs = true := ho.self
  refine vI (fun v hv => ?_)
  simp only [List.mem_cons, List.mem_append] at hv
  rcases hv with hv | rfl | hv
  ·exact vb h1 v hv
  ·simp [zV]
  ·exact vb h2 v hv
 have hb := bPg n hLl hol
 rw [← hPC] at hb
 simp -implicitDefEqProofs (disch := omega) only [allW, allL, allB, zn, Nat.reduceLT, Nat.reduceEqDiff, ↓reduceIte, hn, h0, h1, pw2, ZL (hW5.thing.keeps hsq) htl, lLf, zd.loadO (ht15.keeps hsq) hol, ml1, ml2, ml3, hO5.sees.self, hLs, ho5.self, hb, hPCs, yS (cs := PC.toArray) Try.underlying23 szPg zPg plPg rfl hPCl (by decide)]
 refine LB.smake_newSlice (base := s5.next) hPCl (by omega) (Nat.le_refl _) ?_
 intro bs s6 hbs hid k6 hnx6 hot6
 have k56 : Stay s5.next s5 s6 := hsq.trans k6
 have n56 := k56.next
 have hW6 := hW5.keeps k56
 have hO6 := hO5.keeps k56
 simp -implicitDefEqProofs (disch := omega) only [allW, allB, zc, Nat.reduceLT, Nat.reduceEqDiff, ↓reduceIte, hn]
 refine LB.sstep_append Try.underlying23 Try.underlying23 (.inl ⟨_, rfl⟩) szPg byPg zPg rfl hO6 hbs.sees.src hPCl (by decide) hPCok (by omega) (by omega) (base := 0) (fun _ _ => Nat.zero_le _) (Nat.zero_le _) (fun h => absurd rfl h) (fun j hj => by have := hBl j hj; omega) ?_
 intro lv' s7 hO7 _ hut hor
 have hlw : idOf lv ≠ some w := hW.lw
 simp -implicitDefEqProofs (disch := omega) only [allW, allL, allB, Nat.reduceSub, Nat.reduceLT, Nat.reduceEqDiff, ↓reduceIte, hn, pw2]
 refine LB.sstep_storeN szPs (by decide) (hW6.thing.turns hut hlw) (off := 10) (c := 12) (by rw [qs htl]) (vs := [lv']) hO7.sees.cell1 rfl (by rw [qs htl]; exact Nat.le_refl _) (by simp [hO7.sees.okCell]) (fun h => absurd rfl h) ?_
 intro s8 ht8 nt8 et8
 rw [abf htl] at ht8
 have hwlt := hW.thing.lt
 have hwm : m < s.next := by obtain ⟨T, hT, _⟩ := hW.met; exact hT.lt
 have hwl : ∀ i, idOf lv = some i -> i < s.next := by obtain ⟨lc0, hO, _⟩ := hW.pages; exact hO.idLt
 have hfree : ∀ j, s.next ≤ j -> zY w m lv j := fun j hj => ⟨by omega, by omega, fun e => by have := hwl j e; omega⟩
 have hpg : PgIs (zY w m lv) s6 PC p := by
  refine ⟨rc, cs, ?_, by rw [hp]; exact wb, by rw [hp]; exact jp, ?_, ?_⟩
  ·rw [hPC, hL, hp]; simp [lfC]
  ·rw [hp]; exact (hrc5.keeps k56).mono (fun j hj => hfree j (by omega))
  ·rw [hp]; exact (ho5.keeps k56).mono (fun j hj => hj.1)
 obtain ⟨q1, q2⟩ := PwIs.push hW6 (zt.keeps wW hR5 k56) hpg (by rw [hp]; exact ⟨xG hs.items (yv mine kRes hsa), hso⟩) hO7 hut hor ht8 nt8 et8
 simp -implicitDefEqProofs (disch := omega) only [allW, allB, Nat.reduceSub, zh, Nat.reduceLT, ↓reduceIte, allW, zh, Nat.reduceLT, ↓reduceIte, allW, zj, zh, Nat.reduceLT, ↓reduceIte, hn, Try.results47]
 exact ⟨rfl, lv', q1, (WTo.ofStay (ks5.trans (k56.weaken (by have := ks5.next; omega)))).trans q2⟩
end Go.Proofs.Ytokfoagohblkoaa
set_option linter.unusedSimpArgs false
set_option linter.unusedVariables false
set_option maxRecDepth 100000
namespace Go.Cl
theorem jl (D : List (Int × O)) (k : Nat) (n : Int) (above : O) (w : WkO) : yl D (k + 1) n above w =
  if n ∈ w.seen then (w, 9)
  else if w.seen.length + 1 > 4000 then (⟨n :: w.seen, w.pages⟩, 7)
  else if (yk D n).2 = false ∨ (yk D n).1.kind ≠ 7 then (⟨n :: w.seen, w.pages⟩, 4)
  else if isN (getO (yk D n).1 yA) wP = true then xv D n (yk D n).1 (wQ (yk D n).1 above) ⟨n :: w.seen, w.pages⟩
  else if isN (getO (yk D n).1 yA) zS = false ∨ (xF D (yk D n).1 [yX]).kind ≠ 6 then (⟨n :: w.seen, w.pages⟩, 4)
  else yQ (yl D k) (wQ (yk D n).1 above) (xF D (yk D n).1 [yX]).items ⟨n :: w.seen, w.pages⟩ := by
 rw [yl]
 unfold xv
 rfl
theorem Tv (D : List (Int × O)) (n : Int) (o mine : O) (w : WkO) : (xv D n o mine w).1.seen = w.seen := by
 unfold xv
 split
 ·rfl
 ·split <;> rfl
theorem Qa {step : Int -> O -> WkO -> WkO × Nat} {mine : O} (h : ∀ n w, w.seen.length ≤ 4000 -> w.seen.length ≤ (step n mine w).1.seen.length ∧ ((step n mine w).2 = 0 -> (step n mine w).1.seen.length ≤ 4000)) :
  ∀ (l : List O) (w : WkO), w.seen.length ≤ 4000 -> w.seen.length ≤ (yQ step mine l w).1.seen.length ∧ ((yQ step mine l w).2 = 0 -> (yQ step mine l w).1.seen.length ≤ 4000)
 | [], w, hw => ⟨Nat.le_refl _, fun _ => hw⟩
 | x :: r, w, hw => by
  unfold yQ
  split
  ·exact ⟨Nat.le_refl _, fun e => by simp at e⟩
  ·obtain ⟨h1, h2⟩ := h x.num w hw
   split
   ·exact ⟨h1, h2⟩
   ·rename_i e
    have e : (step x.num mine w).2 = 0 := by simpa using e
    obtain ⟨h3, h4⟩ := Qa h r _ (h2 e)
    exact ⟨Nat.le_trans h1 h3, h4⟩
theorem ZM (D : List (Int × O)) : ∀ (k : Nat) (n : Int) (above : O) (w : WkO), w.seen.length ≤ 4000 -> w.seen.length ≤ (yl D k n above w).1.seen.length ∧ ((yl D k n above w).2 = 0 -> (yl D k n above w).1.seen.length ≤ 4000)
 | 0, n, above, w, hw => ⟨Nat.le_refl _, fun _ => hw⟩
 | k + 1, n, above, w, hw => by
  rw [jl]
  split
  ·exact ⟨Nat.le_refl _, fun _ => hw⟩
  split
  ·exact ⟨by simp, fun e => by simp at e⟩
  split
  ·exact ⟨by simp, fun e => by simp at e⟩
  split
  ·rw [Tv]; exact ⟨by simp, fun _ => by simp; omega⟩
  split
  ·exact ⟨by simp, fun e => by simp at e⟩
  ·obtain ⟨h1, h2⟩ := Qa (step := yl D k) (mine := wQ (yk D n).1 above) (fun n w h => ZM D k n _ w h) (xF D (yk D n).1 [yX]).items ⟨n :: w.seen, w.pages⟩ (by simp; omega)
   exact ⟨Nat.le_trans (by simp) h1, h2⟩
section
variable {X : Value -> List Value} {z : Value} {s s' : ASt} {w : Nat} {D : Dc} {mv : Value} {tc : List Value} {iv : Value} {ic : List Value} {m : Nat} {lv lv' : Value} {W : WkO}
theorem PwIs.free (h : PwIs X z s w D mv tc iv ic m lv W) {j : Nat} (hj : s.next ≤ j) : zY w m lv j := by
 have h1 := h.thing.lt
 obtain ⟨T, hT, _⟩ := h.met
 have h2 := hT.lt
 obtain ⟨lc, hO, _⟩ := h.pages
 exact ⟨by omega, by omega, fun e => by have := hO.idLt j e; omega⟩
theorem Sees.wto {z : Nat} {v : Value} {n : Nat} {l : List Value} (h : Sees s z v n l) (hf : Foot (zY w m lv) v) (k : WTo w m lv lv' s s') : Sees s' z v n l ∧ Foot (zY w m lv') v :=
 ⟨h.calm hf k.calm, (Foot.below h hf).mono fun j hj => k.free hj.2 hj.1⟩
theorem Jv {L : List O} {lc : List Value} (h : zt OIs 5 (zY w m lv) s L lc) (k : WTo w m lv lv' s s') : zt OIs 5 (zY w m lv') s' L lc := ⟨h.len, fun i hi => (h.row i hi).wto k⟩
end
end Go.Cl
namespace Go.Proofs.Ytokfoagohblkoaa
open Go.Cl Go.Lib
theorem szU0 : zB Try.prog 99 = some 0 := by kernel_rfl
theorem zU0 : yj Try.prog 99 = some (.agg #[]) := by kernel_rfl
theorem plU0 : yn (.agg #[]) = true := rfl
theorem bU0 : yE Try.prog 99 [] = some (.agg #[]) := by kernel_rfl
theorem uMq : Try.prog.underlying 76 = some (.map 3 99) := Try.underlying76
theorem JY : Try.prog.underlying 3 = some (.int .i64) := Try.underlying3
theorem SD {P : Program} {e : TypeId} (h : zB P e = some 0) (s : ASt) (i o c : Nat) : yZ P s e (.pointer (some ⟨i, o, some c⟩)) (.agg #[]) = some s := by
 unfold yZ; rw [h]; rfl
theorem KY (s : ASt) : zX Try.prog s 109 1 [(0, .string ⟨#[75, 105, 100, 115]⟩)] = zM s (strs [yX]) 1 1 :=
 aaQ Try.underlying109 jf zStrP rfl ⟨_, rfl⟩ rfl
theorem SE (F : Nat -> Prop) (s : ASt) (D : Dc) (mv : Value) (tc : List Value) (iv : Value) (ic : List Value) (hD : ye F s mv tc iv ic D) (hs : yN D) (n : Int) : Runs Try.prog libN 40 [.agg (docC D mv tc iv).toArray, .int .i64 n] s (FindR s (yk D.items n)) := KJ rfl rfl rfl rfl rfl F s D mv tc iv ic hD hs n
theorem SF (F : Nat -> Prop) (s : ASt) (D : Dc) (mv : Value) (tc : List Value) (iv : Value) (ic : List Value) (hD : ye F s mv tc iv ic D) (hs : yN D) (G : Nat -> Prop) (cs : List Value) (o : O) (ho : OIs G s cs o) (hso : zu o) (x : Value) (K : List (List UInt8)) (hx : Sees s 1 x K.length (strs K)) (hK : K.length ≤ 1000) :
  Runs Try.prog libN 44 [.agg (docC D mv tc iv).toArray, .agg cs.toArray, x] s (NewO s (xF D.items (resD D.items o) K)) := aal rfl rfl rfl rfl rfl rfl rfl rfl rfl rfl F s D mv tc iv ic hD hs G cs o ho hso x K hx hK yv
theorem Jw {D : List (Int × O)} {o : O} (h : ¬ o.kind = 9) : resD D o = o := by
 unfold resD; rw [YV h 32, if_neg h]
set_option maxHeartbeats 16000000 in
theorem aau (w : Nat) (D : Dc) (mv : Value) (tc : List Value) (iv : Value) (ic : List Value) (m : Nat) (hs : yN D) : ∀ (k : Nat) (s : ASt) (lv : Value) (W : WkO) (n : Int) (ca : List Value) (above : O), W.seen.length + k ≥ 4001 -> W.seen.length ≤ 4000 -> above.ents.length + 4 * k ≤ 40000 -> zu above -> OIs (zY w m lv) s ca above -> PwIs (pwC D mv tc iv m) (.agg #[]) s w D mv tc iv ic m lv W ->
  Runs Try.prog libN 26 [.pointer (some ⟨w, 0, some 12⟩), .int .i64 n, .agg ca.toArray] s (StepR (pwC D mv tc iv m) (.agg #[]) s w D mv tc iv ic m lv (yl D.items k n above W)) := by
 intro k
 induction k with
 | zero => intro s lv W n ca above h1 h2; omega
 | succ k ih =>
 intro s lv W n ca above hk hsn hen hsa ha hW
 have htl := hW.doc.trailer.len
 have hal := ha.len
 have hd6 : zG.length + 1 = 6 := rfl
 refine Runs.enter 104 Try.func26 rfl rfl rfl rfl ?_
 intro f hn hf
 have h0 : f.get 0 = .pointer (some ⟨w, 0, some 12⟩) := hf 0
 have h1 : f.get 1 = .int .i64 n := hf 1
 have h2 : f.get 2 = .agg ca.toArray := hf 2
 clear hf
 simp -implicitDefEqProofs (disch := omega) only [allW, Nat.reduceLT, ↓reduceIte, hn, h2]
 refine ze ?_
 intro s1 ht1 hst1 hnx1
 have ht1 : zd s1 s.next ca := ht1
 have n1 := hst1.next
 have hW1 := hW.keeps hst1
 obtain ⟨T, hT, hS⟩ := hW1.met
 have hlk := hT.lookup uMq JY zU0 plU0 n
 have hlk1 : (yT n T).getD (.agg #[]) = .agg #[] := by rw [hS.at_]; split <;> rfl
 have hlk2 : (yT n T).isSome = decide (n ∈ W.seen) := by rw [hS.at_]; split <;> simp [*]
 rw [hlk1, hlk2] at hlk
 simp -implicitDefEqProofs (disch := omega) only [allW, Nat.reduceLT, Nat.reduceEqDiff, Nat.reduceAdd, ↓reduceIte, hn, h0, h1, hal, pw1, VZ hW1.thing htl, hlk, ext0, ext1, zU0, plU0]
 refine ze ?_
 intro s2 ht2 hst2 hnx2
 have hd1 : (#[] : Array Value).toList.length + 1 = 1 := rfl
 have n2 := hst2.next
 have hs2 : Stay s.next s s2 := hst1.trans (hst2.weaken n1)
 have hW2 := hW1.keeps hst2
 rw [jl]
 by_cases c1 : n ∈ W.seen
 ·rw [if_pos c1]
  simp -implicitDefEqProofs (disch := omega) only [allW, zj, zh, Nat.reduceLT, Nat.reduceEqDiff, ↓reduceIte, undef, hn, c1, SD szU0, Try.results26]
  exact ⟨rfl, lv, hW2, WTo.ofStay hs2⟩
 rw [if_neg c1]
 have hT2 := hT.keeps hst2
 simp -implicitDefEqProofs (disch := omega) only [allW, allR, zn, Nat.reduceLT, Nat.reduceEqDiff, ↓reduceIte, undef, hn, h0, h1, eq_false c1, SD szU0, pw1, VZ hW2.thing htl, bU0]
 refine jK uMq JY hT2 n (.agg #[]) ?_
 intro s3 hT3 nt3 et3
 have hS3 := hS.cons c1
 have hW3 := hW2.seen hT3 hS3 nt3 et3
 have hto3 : WTo w m lv lv s s3 := (WTo.ofStay hs2).trans (WTo.ofPut nt3 et3 (.inr rfl))
 have hlen := hT3.len uMq
 rw [hS3.len] at hlen
 by_cases c2 : W.seen.length + 1 > 4000
 ·rw [if_pos c2]
  have d1 : (((n :: W.seen).length : Nat) : Int) > 4000 := by rw [List.length_cons]; omega
  simp -implicitDefEqProofs (disch := omega) only [allW, zj, zh, zc, Nat.reduceLT, Nat.reduceEqDiff, ↓reduceIte, undef, hn, h0, pw1, VZ hW3.thing htl, hlen, eq_true d1, Try.results26]
  exact ⟨rfl, lv, hW3, hto3⟩
 rw [if_neg c2]
 have d1 : ¬ (((n :: W.seen).length : Nat) : Int) > 4000 := by rw [List.length_cons]; omega
 simp -implicitDefEqProofs (disch := omega) only [allW, allR, zc, Nat.reduceLT, Nat.reduceEqDiff, ↓reduceIte, undef, hn, h0, h1, pw0, pw1, VZ hW3.thing htl, hlen, eq_false d1, Zf hW3.thing htl]
 refine (SE _ s3 D mv tc iv ic hW3.doc hs n).mono ?_
 rintro _ s4 ⟨c4, rfl, ho4, k4⟩
 have n4 := k4.next
 have hl4 := ho4.len
 obtain ⟨W3, hW3e⟩ : ∃ W3 : WkO, W3 = ⟨n :: W.seen, W.pages⟩ := ⟨_, rfl⟩
 rw [← hW3e] at hW3
 have hW4 := hW3.keeps k4
 obtain ⟨o, hoe⟩ : ∃ o, o = (yk D.items n).1 := ⟨_, rfl⟩
 obtain ⟨ok, hoke⟩ : ∃ ok, ok = (yk D.items n).2 := ⟨_, rfl⟩
 have hso : zu o := by rw [hoe]; exact vm hs.items n
 simp only [← hoe, ← hoke, ← hW3e] at ho4 ⊢
 refine ZW (fun f => f.n = 104 ∧ f.get 0 = .pointer (some ⟨w, 0, some 12⟩) ∧ f.get 1 = .int .i64 n ∧ f.get 5 = .pointer (some ⟨s.next, 0, some 6⟩)) ⟨by simp only [zf, hn], by first | simp only [za, ↓reduceIte, Nat.reduceEqDiff, h0] | simp only [za, zf, ↓reduceIte, Nat.reduceEqDiff], by first | simp only [za, ↓reduceIte, Nat.reduceEqDiff, h1] | simp only [za, zf, ↓reduceIte, Nat.reduceEqDiff], by first | simp only [za, zf, ↓reduceIte, Nat.reduceEqDiff, h5] | simp only [za, ↓reduceIte, Nat.reduceEqDiff]⟩ ?_
 rintro f ⟨hn, h0, h1, h5⟩
 have hs4 : WTo w m lv lv s s4 := hto3.trans (WTo.ofStay k4)
 have n03 := hto3.next
 have hslt : s.next < s2.next := by omega
 have hfs : zY w m lv s.next := hW.free (Nat.le_refl _)
 have ht14 : zd s4 s.next ca := ((ht1.keeps hst2).ofPut nt3 et3 (by have := hT.lt; intro e; rw [e] at hfs; exact hfs.2.1 rfl)).keeps k4
 have ha4 := ha.wto hs4
 clear ht1 ht2 hT2 hT3 hT hS3 hS hlk hlk1 hlk2 hlen hW1 hW2 et3
 simp -implicitDefEqProofs (disch := omega) only [allW, Nat.reduceLT, Nat.reduceEqDiff, ↓reduceIte, hn, ext0, ext1, zO, plO]
 refine ze ?_
 intro s5 ht5 hst5 hnx5
 simp -implicitDefEqProofs (disch := omega) only [allW, Nat.reduceLT, Nat.reduceEqDiff, ↓reduceIte, hn, hd6]
 refine zi szO (by decide) ht5 rfl rfl hl4 ho4.ok ?_
 intro s6 ht6 nt6 et6
 have ht6 : zd s6 s4.next c4 := ht6
 have k46 : Stay s4.next s4 s6 := hst5.trans ⟨by omega, fun j hj => et6 j (by omega)⟩
 have n46 := k46.next
 have ho6 : OIs (fun j => s3.next ≤ j ∧ j < s4.next) s6 c4 o := (ho4.lows.keeps hst5).ofPut nt6 et6 (by omega)
 have hW6 := hW4.keeps k46
 have ha6 := ha4.keeps k46
 have ht16 := ht14.keeps k46
 simp -implicitDefEqProofs (disch := omega) only [allW, Nat.reduceLT, Nat.reduceEqDiff, ↓reduceIte, hn]
 obtain ⟨B, hB⟩ : ∃ B : Nat -> Bool, B = fun j => decide (j < s6.next) := ⟨_, rfl⟩
 have hBl : ∀ j, B j = true -> j < s6.next := by
  intro j h
  rw [hB] at h
  exact of_decide_eq_true h
 have hBo : ∀ j, j < s6.next -> B j = true := fun j h => by rw [hB]; exact decide_eq_true h
 refine LB.Drawn.looseK B hBl 2 3 (by kernel_rfl) (by kernel_rfl) ?_
 have hsq := Stay.spare s6 3
 have hnq : (spare s6 3).next = s6.next + 3 := zH _ _
 have ml1 : ∀ k, LA.lowV B (some (.pointer (some ⟨w, k, some 12⟩))) = true := fun k => LA.lowV_ptr (A := B) (i := w) (hBo _ hW6.thing.lt)
 have ml2 : ∀ k, LA.lowV B (some (.pointer (some ⟨s4.next, k, some 6⟩))) = true := fun k => LA.lowV_ptr (A := B) (i := s4.next) (hBo _ ht6.lt)
 simp -implicitDefEqProofs (disch := omega) only [allW, allR, allL, allB, Nat.add_one_sub_one, zc, Nat.reduceLT, Nat.reduceEqDiff, ↓reduceIte, hn, h0, pw0, zd.loadO (ht6.keeps hsq) hl4, ml2, ho6.self]
 refine (vR _ (spare s6 3) c4 o (ho6.keeps hsq) hso yA).mono ?_
 rintro _ s7 ⟨c7, rfl, ho7, k7⟩
 have n7 := k7.next
 have hl7 := ho7.len
 refine ⟨fun _ => LA.Stay.toA hBl (k7.weaken (by omega)), ?_⟩
 have k67 : Stay s6.next s6 s7 := hsq.trans (k7.weaken (by omega))
 simp -implicitDefEqProofs (disch := omega) only [allW, allL, allB, zn, Nat.reduceLT, Nat.reduceEqDiff, ↓reduceIte, hn, Zf (hW6.thing.keeps k67) htl, zd.loadO (ht6.keeps k67) hl4, ml1, ml2, hW6.doc.self, ho6.self, KY]
 refine LB.smake_newSlice (base := s6.next) (by rfl) (by omega) (Nat.le_refl _) ?_
 intro kv s8 hkv hid8 k78 nx8 ot8
 have k68 : Stay s6.next s6 s8 := k67.trans k78
 have hkv : Sees s8 1 kv [yX].length (strs [yX]) := hkv.sees
 try simp -implicitDefEqProofs (disch := omega) only [allW, allR, allB, Nat.sub_self, zc, Nat.reduceLT, Nat.reduceEqDiff, ↓reduceIte, hn]
 refine (SF _ s8 D mv tc iv ic (hW6.doc.keeps k68) hs _ c4 o (ho6.keeps k68) hso kv [yX] hkv (by decide)).mono ?_
 rintro _ s9 ⟨c9, rfl, ho9, k9⟩
 have n9 := k9.next
 have hl9 := ho9.len
 have n8 := k68.next
 refine ⟨fun _ => LA.Stay.toA hBl (k9.weaken (by omega)), ?_⟩
 have k69 : Stay s6.next s6 s9 := k68.trans (k9.weaken n8)
 simp -implicitDefEqProofs (disch := omega) only [allW, ↓reduceIte, zO, plO]
 refine LB.smake_newPtr (by omega) ?_
 intro a1 ha1 na1 ea1
 simp -implicitDefEqProofs (disch := omega) only [allW, allB, Nat.reduceLT, ↓reduceIte, hn, zO, plO]
 refine LB.smake_newPtr (by omega) ?_
 intro a2 ha2 na2 ea2
 simp -implicitDefEqProofs (disch := omega) only [allW, allB, Nat.reduceLT, Nat.reduceEqDiff, ↓reduceIte, hn, hd6]
 refine LB.sstep_storeAll szO (by decide) (ha1.ofPut na2 ea2 (by omega)) rfl rfl (by simpa using hl7) ho7.ok (fun h => absurd rfl h) ?_
 intro a3 ha3 na3 ea3
 have ha3 : zd a3 (s6.next + 1) c7 := ha3
 simp -implicitDefEqProofs (disch := omega) only [allW, allB, Nat.reduceSub, Nat.reduceLT, Nat.reduceEqDiff, ↓reduceIte, hn]
 refine LB.sstep_storeAll szO (by decide) (ha2.ofPut na3 ea3 (by omega)) rfl rfl (by simpa using hl9) ho9.ok (fun h => absurd rfl h) ?_
 intro a4 ha4' na4 ea4
 have ha4' : zd a4 (s6.next + 2) c9 := ha4'
 have htt : zd a4 (s6.next + 1) c7 := ha3.ofPut na4 ea4 (by omega)
 have k6a : Stay s6.next s6 a4 := k69.trans ⟨by omega, fun j hj => by rw [ea4 j (by omega), ea3 j (by omega), ea2 j (by omega), ea1 j (by omega)]⟩
 have oty : OIs (fun j => s6.next ≤ j) a4 c7 (getO o yA) := ((((((((ho7.mono (G := fun j => s6.next + 3 ≤ j) (fun j (hj : _ ≤ j) => by omega)).ofPut nx8 ot8 (by omega)).keeps k9).ofPut na1 ea1 (by omega)).ofPut na2 ea2 (by omega)).ofPut na3 ea3 (by omega)).ofPut na4 ea4 (by omega))).mono (fun j (hj : _ ≤ j) => by omega)
 have okd : OIs (fun j => s6.next ≤ j) a4 c9 (xF D.items (resD D.items o) [yX]) := (((((ho9.mono (G := fun j => s6.next + 3 ≤ j) (fun j (hj : _ ≤ j) => by omega)).ofPut na1 ea1 (by omega)).ofPut na2 ea2 (by omega)).ofPut na3 ea3 (by omega)).ofPut na4 ea4 (by omega)).mono (fun j (hj : _ ≤ j) => by omega)
 refine LB.scall_reframe (fun f => f.n = 104 ∧ f.get 0 = .pointer (some ⟨w, 0, some 12⟩) ∧ f.get 1 = .int .i64 n ∧ f.get 5 = .pointer (some ⟨s.next, 0, some 6⟩) ∧ f.get 9 = .pointer (some ⟨s4.next, 0, some 6⟩) ∧ f.get 10 = .bool ok ∧ f.get 11 = .pointer (some ⟨s6.next + 1, 0, some 6⟩) ∧ f.get 12 = .pointer (some ⟨s6.next + 1 + 1, 0, some 6⟩)) ⟨by simp only [zf, hn], by first | simp only [za, ↓reduceIte, Nat.reduceEqDiff, h0] | simp only [za, zf, ↓reduceIte, Nat.reduceEqDiff], by first | simp only [za, ↓reduceIte, Nat.reduceEqDiff, h1] | simp only [za, zf, ↓reduceIte, Nat.reduceEqDiff], by first | simp only [za, ↓reduceIte, Nat.reduceEqDiff, h5] | simp only [za, zf, ↓reduceIte, Nat.reduceEqDiff], by first | simp only [za, zf, ↓reduceIte, Nat.reduceEqDiff, h9] | simp only [za, ↓reduceIte, Nat.reduceEqDiff], by first | simp only [za, zf, ↓reduceIte, Nat.reduceEqDiff, h10] | simp only [za, ↓reduceIte, Nat.reduceEqDiff], by first | simp only [za, zf, ↓reduceIte, Nat.reduceEqDiff, h11] | simp only [za, ↓reduceIte, Nat.reduceEqDiff], by first | simp only [za, zf, ↓reduceIte, Nat.reduceEqDiff, h12] | simp only [za, ↓reduceIte]⟩ ?_
 rintro f ⟨hn, h0, h1, h5, h9, h10, h11, h12⟩
 clear ha1 ha2 ha3 ea1 ea2 ea3 ea4 na1 na2 na3 na4 ht5 ot8 et6 hkv ml1 ml2 hBo hBl hB hd6
 have hd6 : zG.length + 1 = 6 := rfl
 have n6a := k6a.next
 have hWa := hW6.keeps k6a
 have haa := ha6.keeps k6a
 have hta := ht16.keeps k6a
 have hto := ht6.keeps k6a
 have hoa := ho6.keeps k6a
 simp -implicitDefEqProofs (disch := omega) only [allW, allR, allB, Nat.reduceSub, zc, Nat.reduceLT, Nat.reduceEqDiff, ↓reduceIte, allW, allR, zc, Nat.reduceLT, Nat.reduceEqDiff, ↓reduceIte, hn, h5, h9, zd.loadO hto hl4, zd.loadO hta hal]
 refine (aap _ _ a4 c4 ca o above hoa hso haa hsa (by omega)).mono ?_
 rintro _ b1 ⟨cm, rfl, hmi, kb1⟩
 have nb1 := kb1.next
 have hml := hmi.len
 obtain ⟨hsm, hml2⟩ := XZ (o := o) hso hsa (Nat.le_refl _) (by omega)
 obtain ⟨mine, hmine⟩ : ∃ x, x = wQ o above := ⟨_, rfl⟩
 simp only [← hmine] at hmi hsm hml2 ⊢
 simp -implicitDefEqProofs (disch := omega) only [allW, Nat.reduceLT, ↓reduceIte, hn, zO, plO]
 refine ze ?_
 intro b2 hb2 kb2 nb2
 simp -implicitDefEqProofs (disch := omega) only [allW, Nat.reduceLT, Nat.reduceEqDiff, ↓reduceIte, hn, hd6]
 refine zi szO (by decide) hb2 rfl rfl hml hmi.ok ?_
 intro b3 hb3 nb3 eb3
 have hb3 : zd b3 b1.next cm := hb3
 have kab : Stay a4.next a4 b3 := (kb1.trans (kb2.weaken nb1)).trans ⟨by omega, fun j hj => eb3 j (by omega)⟩
 have nab := kab.next
 have hWb := hWa.keeps kab
 have hob : OIs (fun j => s3.next ≤ j ∧ j < s4.next) b3 c4 o := hoa.keeps kab
 have hto3 := hto.keeps kab
 have htt3 := htt.keeps kab
 have htk3 := ha4'.keeps kab
 have oty3 := oty.keeps kab
 have okd3 := okd.keeps kab
 have hf6 : ∀ j, s6.next ≤ j -> zY w m lv j := fun j hj => hW6.free hj
 have hmb : OIs (zY w m lv) b3 cm mine := (((hmi.lows).keeps kb2).ofPut nb3 eb3 (fun h => by have := h.2; omega)).mono (fun j hj => hj.1.elim (fun h => h) (fun h => hf6 j (by omega)))
 have hsb : WTo w m lv lv s b3 := (hs4.trans (WTo.ofStay k46)).trans (WTo.ofStay ((k6a).trans (kab.weaken (by omega))))
 have lk : zg Try.prog b3 3 (.pointer (some ⟨s4.next, 0, some 6⟩)) = some (.int .i64 o.kind) := by
  rw [hto3.load (P := Try.prog) zT (off := 0) (c := 6) (by rw [hl4]) (by omega), hob.kindC.1]
 by_cases c3 : ok = false ∨ ¬ o.kind = 7
 ·have c3' : ok = false ∨ o.kind ≠ 7 := c3
  rw [if_pos c3']
  cases hok : ok
  ·rw [hok] at h10
   simp -implicitDefEqProofs (disch := omega) only [allW, allR, zj, zh, Nat.reduceLT, Nat.reduceEqDiff, ↓reduceIte, undef, hn, h10, Try.results26]
   exact ⟨rfl, lv, hWb, hsb⟩
  ·rw [hok] at c3 h10
   have cd7 : ¬ o.kind = 7 := by simpa using c3
   simp -implicitDefEqProofs (disch := omega) only [allW, allR, zj, zh, Nat.reduceLT, Nat.reduceEqDiff, ↓reduceIte, undef, hn, h9, h10, of0, lk, eq_true cd7, Try.results26]
   exact ⟨rfl, lv, hWb, hsb⟩
 have c3' : ¬ (ok = false ∨ o.kind ≠ 7) := c3
 rw [if_neg c3']
 have hok : ok = true := by cases ok <;> simp_all
 have cd7 : o.kind = 7 := by by_cases h : o.kind = 7; exact h; exact absurd (.inr h) c3
 rw [hok] at h10
 have hrs : resD D.items o = o := Jw (by rw [cd7]; decide)
 rw [hrs] at okd3
 simp -implicitDefEqProofs (disch := omega) only [allW, allR, zc, Nat.reduceLT, Nat.reduceEqDiff, ↓reduceIte, undef, hn, h9, h10, h11, of0, lk, cd7, zd.loadO htt3 hl7]
 refine (SB _ b3 c7 _ oty3 wP).mono ?_
 rintro _ b4 ⟨rfl, kb4⟩
 have nb4 := kb4.next
 have hWc := hWb.keeps kb4
 have hsc : WTo w m lv lv s b4 := hsb.trans (WTo.ofStay kb4)
 cases hp : isN (getO o yA) wP
 rotate_left
 ·rw [if_pos rfl]
  simp -implicitDefEqProofs (disch := omega) only [allW, allR, zc, Nat.reduceLT, Nat.reduceEqDiff, ↓reduceIte, hn, h0, h1, h9, zd.loadO (hto3.keeps kb4) hl4, zd.loadO (hb3.keeps kb4) hml]
  refine (aat _ b4 w D mv tc iv ic m lv W3 hWc hs n c4 o ((hob.keeps kb4).mono (fun j hj => hW.free (by omega))) hso _ cm mine (hmb.keeps kb4) hsm).mono ?_
  rintro _ b5 ⟨rfl, lv', q1, q2⟩
  simp -implicitDefEqProofs (disch := omega) only [allW, zh, Nat.reduceLT, ↓reduceIte, allW, zj, zh, Nat.reduceLT, ↓reduceIte, hn, Try.results26]
  exact ⟨rfl, lv', q1, hsc.trans q2⟩
 rw [if_neg (by decide)]
 simp -implicitDefEqProofs (disch := omega) only [allW, allR, zc, Nat.reduceLT, Nat.reduceEqDiff, ↓reduceIte, hn, h11, zd.loadO (htt3.keeps kb4) hl7]
 refine (SB _ b4 c7 _ (oty3.keeps kb4) zS).mono ?_
 rintro _ b5 ⟨rfl, kb5⟩
 have nb5 := kb5.next
 have kb35 : Stay b3.next b3 b5 := kb4.trans (kb5.weaken nb4)
 have hWd := hWc.keeps kb5
 have hsd : WTo w m lv lv s b5 := hsc.trans (WTo.ofStay kb5)
 have htk5 : zd b5 (s6.next + 1 + 1) c9 := htk3.keeps kb35
 have okd5 := okd3.keeps kb35
 have hb5 := hb3.keeps kb35
 have hmb5 := hmb.keeps kb35
 have hsK : zu (xF D.items o [yX]) := xG hs.items (yv _ _ hso)
 obtain ⟨KO, hKO⟩ : ∃ KO, KO = xF D.items o [yX] := ⟨_, rfl⟩
 rw [← hKO] at okd5 hsK ⊢
 clear hoa hto ht6 ho6 haa hta ha6 ht16 hWa hW6 hWb hWc ho4 hW4 hW3 oty okd ha4' htt oty3 okd3 htt3 htk3 hto3 hob hb3 hmb
 cases KO with
 | mk kk kn kb kl kd =>
 obtain ⟨kbv, klv, kdv, klc, kdc, rfl, hkb, hkl, hkd, fkb, fkl, fkd, rkl, rkd⟩ := okd5.parts
 have lk9 : zg Try.prog b5 3 (.pointer (some ⟨s6.next + 1 + 1, 0, some 6⟩)) = some (.int .i64 kk) := htk5.load zT (off := 0) (c := 6) rfl (by simp)
 have ll9 : zg Try.prog b5 28 (.pointer (some ⟨s6.next + 1 + 1, 3, some 6⟩)) = some klv := htk5.load agLs (off := 3) (c := 6) rfl (by simp)
 have hsl : kl.length ≤ 100000 := by cases hsK with | mk _ h _ _ _ _ => exact h
 by_cases c5 : isN (getO o yA) zS = false ∨ ¬ kk = 6
 ·have c5' : isN (getO o yA) zS = false ∨ (O.mk kk kn kb kl kd).kind ≠ 6 := c5
  rw [if_pos c5']
  cases hq : isN (getO o yA) zS
  ·simp -implicitDefEqProofs (disch := omega) only [allW, allR, zj, zh, Nat.reduceLT, Nat.reduceEqDiff, ↓reduceIte, undef, hn, Try.results26]
   exact ⟨rfl, lv, hWd, hsd⟩
  ·rw [hq] at c5
   have cd6 : ¬ kk = 6 := by simpa using c5
   simp -implicitDefEqProofs (disch := omega) only [allW, allR, zj, zh, Nat.reduceLT, Nat.reduceEqDiff, ↓reduceIte, hn, h12, of0, lk9, eq_true cd6, Try.results26]
   exact ⟨rfl, lv, hWd, hsd⟩
 have c5' : ¬ (isN (getO o yA) zS = false ∨ (O.mk kk kn kb kl kd).kind ≠ 6) := c5
 rw [if_neg c5']
 have hq : isN (getO o yA) zS = true := by cases h : isN (getO o yA) zS; exact absurd (.inl h) c5; rfl
 have cd6 : kk = 6 := by by_cases h : kk = 6; exact h; exact absurd (.inr h) c5
 have eit : (O.mk kk kn kb kl kd).items = kl := rfl
 rw [eit, hq]
 simp -implicitDefEqProofs (disch := omega) only [allW, allR, zc, Nat.reduceLT, Nat.reduceEqDiff, ↓reduceIte, hn, h12, of0, of3, lk9, cd6, ll9, hkl.lenA Try.underlying28]
 have hfW : ∀ j, s6.next ≤ j -> zY w m lv j := fun j hj => hW.free (by omega)
 have hW3s : W3.seen.length = W.seen.length + 1 := by rw [hW3e]; rfl
 have n35 := kb35.next
 have sp := hsm
 refine yf.loopOut (fun z f t => ∃ (i : Nat) (lv' : Value) (W' : WkO), z = kl.length - i ∧ i ≤ kl.length ∧ yQ (yl D.items k) mine kl W3 = yQ (yl D.items k) mine (kl.drop i) W' ∧ W'.seen.length + k ≥ 4001 ∧ W'.seen.length ≤ 4000 ∧ PwIs (pwC D mv tc iv m) (.agg #[]) t w D mv tc iv ic m lv' W' ∧ WTo w m lv lv' s t ∧ OIs (zY w m lv') t cm mine ∧ zY w m lv' b1.next ∧ zd t b1.next cm ∧ Sees t 5 klv kl.length klc ∧ Foot (zY w m lv') klv ∧ zt OIs 5 (zY w m lv') t kl klc ∧ f.n = 104 ∧ f.get 0 = .pointer (some ⟨w, 0, some 12⟩) ∧ f.get 13 = .pointer (some ⟨b1.next, 0, some 6⟩) ∧ f.get 86 = klv ∧ f.get 87 = .int .i64 (kl.length : Nat) ∧ f.get 88 = .int .i64 (i : Nat))
  (fun z f t => f.n = 104 ∧ ∃ lv', PwIs (pwC D mv tc iv m) (.agg #[]) t w D mv tc iv ic m lv' (yQ (yl D.items k) mine kl W3).1 ∧ WTo w m lv lv' s t ∧ ((z = .exit 1 ∧ (yQ (yl D.items k) mine kl W3).2 = 0) ∨ (z = .ret ∧ f.get 6 = .int .i64 ((yQ (yl D.items k) mine kl W3).2 : Nat))))
  ⟨0, lv, W3, rfl, by omega, by rw [List.drop_zero], by omega, by omega, hWd, hsd, hmb5, hfW _ (by omega), hb5, hkl, fkl.mono hfW, rkl.mono yG hfW, by simp only [zf, hn], by simp only [za, ↓reduceIte, Nat.reduceEqDiff, h0], by simp only [za, ↓reduceIte, Nat.reduceEqDiff], by simp only [za, ↓reduceIte, Nat.reduceEqDiff], by simp only [za, ↓reduceIte, Nat.reduceEqDiff], by simp only [za, ↓reduceIte]; rfl⟩ ?_ ?_
 ·clear hn h0 h1 h5 h9 h10 h11 h12 hkl fkl rkl hb5 hmb5 hWd f
  rintro Q hQ z f t ⟨i, lv', W', rfl, hi, hkeq, hsk, hsn', hWt, hto, hmt, hfb, hbt, hkt, fkt, rkt, hn, h0, h13, h86, h87, h88⟩
  by_cases hlt : i < kl.length
  rotate_left
  ·obtain rfl : i = kl.length := by omega
   have d1 : ¬ ((kl.length : Nat) : Int) < ((kl.length : Nat) : Int) := by omega
   rw [List.drop_length] at hkeq
   have hkeq : yQ (yl D.items k) mine kl W3 = (W', 0) := hkeq
   simp -implicitDefEqProofs (disch := omega) only [allW, Nat.reduceLT, ↓reduceIte, hn, h87, h88, eq_false d1]
   refine hQ _ _ _ ⟨by simp only [zf, hn], lv', ?_, hto, .inl ⟨rfl, ?_⟩⟩
   ·rw [hkeq]; exact hWt
   ·rw [hkeq]
  have d1 : (i : Int) < (kl.length : Int) := by omega
  have hix := hkt.indexAddr (P := Try.prog) (k := .i64) (x := (i : Int)) Try.underlying28 szO (by omega) (by omega)
  rw [Int.toNat_natCast] at hix
  have hld := hkt.loadAgg (P := Try.prog) agO szO hlt
  have hoi := rkt.row i hlt
  obtain ⟨xs, hxs⟩ : ∃ xs, xs = (klc.drop (i * 5)).take 5 := ⟨_, rfl⟩
  rw [← hxs] at hld hoi
  have hxl := hoi.len
  rw [List.drop_eq_getElem_cons hlt] at hkeq
  obtain ⟨x, hx⟩ : ∃ x, x = kl[i] := ⟨_, rfl⟩
  rw [← hx] at hoi hkeq
  simp -implicitDefEqProofs (disch := omega) only [allW, Nat.reduceLT, Nat.reduceEqDiff, ↓reduceIte, hn, h86, h87, h88, eq_true d1, hix, hld, zO, plO]
  refine ze ?_
  intro t1 ht1 hst1' hnx1'
  simp -implicitDefEqProofs (disch := omega) only [allW, Nat.reduceLT, Nat.reduceEqDiff, ↓reduceIte, hn, hd6]
  refine zi szO (by decide) ht1 rfl rfl hxl hoi.ok ?_
  intro t2 ht2 nt2 et2
  have ht2 : zd t2 t.next xs := ht2
  have kt2 : Stay t.next t t2 := hst1'.trans ⟨by omega, fun j hj => et2 j (by omega)⟩
  have nt2' := kt2.next
  have hoi2 := hoi.keeps kt2
  have lkx : zg Try.prog t2 3 (.pointer (some ⟨t.next, 0, some 6⟩)) = some (.int .i64 x.kind) := by
   rw [ht2.load (P := Try.prog) zT (off := 0) (c := 6) (by rw [hxl]) (by omega), hoi2.kindC.1]
  have lnx : zg Try.prog t2 2 (.pointer (some ⟨t.next, 1, some 6⟩)) = some (.int .i64 x.num) := by
   rw [ht2.load (P := Try.prog) wH (off := 1) (c := 6) (by rw [hxl]) (by omega), hoi2.kindC.2]
  have hto2 : WTo w m lv lv' s t2 := hto.trans (WTo.ofStay kt2)
  have hWt2 := hWt.keeps kt2
  by_cases c9 : x.kind = 9
  rotate_left
  ·have e : yQ (yl D.items k) mine kl W3 = (W', 4) := by rw [hkeq, yQ, if_pos c9]
   simp -implicitDefEqProofs (disch := omega) only [allW, Nat.reduceLT, ↓reduceIte, undef, hn, of0, lkx, eq_true c9]
   refine hQ _ _ _ ⟨by simp only [zf, hn], lv', ?_, hto2, .inr ⟨rfl, ?_⟩⟩
   ·rw [e]; exact hWt2
   ·rw [e]; simp only [za, ↓reduceIte]; rfl
  have e : yQ (yl D.items k) mine kl W3 = if (yl D.items k x.num mine W').2 ≠ 0 then yl D.items k x.num mine W' else yQ (yl D.items k) mine (kl.drop (i + 1)) (yl D.items k x.num mine W').1 := by
   rw [hkeq, yQ, if_neg (fun h => h c9)]
  simp -implicitDefEqProofs (disch := omega) only [allW, allR, zc, Nat.reduceLT, Nat.reduceEqDiff, ↓reduceIte, undef, hn, h0, h13, of0, of1, lkx, lnx, c9, not_true, zd.loadO (hbt.keeps kt2) hml]
  refine (ih t2 lv' W' x.num cm mine hsk hsn' (by omega) sp (hmt.keeps kt2) hWt2).mono ?_
  rintro _ t3 ⟨rfl, lv2, hW2, hto23⟩
  obtain ⟨r, hr⟩ : ∃ r, r = yl D.items k x.num mine W' := ⟨_, rfl⟩
  have hseen := ZM D.items k x.num mine W' hsn'
  rw [← hr] at e hW2 hseen ⊢
  have hto3 : WTo w m lv lv2 s t3 := hto2.trans hto23
  have hto03 : WTo w m lv' lv2 t t3 := (WTo.ofStay kt2).trans hto23
  by_cases c0 : r.2 = 0
  rotate_left
  ·have d2 : ¬ ((r.2 : Nat) : Int) = 0 := by omega
   rw [if_pos c0] at e
   simp -implicitDefEqProofs (disch := omega) only [allW, Nat.reduceLT, Nat.reduceEqDiff, ↓reduceIte, hn, eq_true d2]
   refine hQ _ _ _ ⟨by simp only [zf, hn], lv2, ?_, hto3, .inr ⟨rfl, ?_⟩⟩
   ·rw [e]; exact hW2
   ·rw [e]; simp only [za, ↓reduceIte]
  rw [if_neg (fun h => h c0)] at e
  have d2 : ((r.2 : Nat) : Int) = 0 := by omega
  obtain ⟨hkt3, fkt3⟩ := hkt.wto fkt hto03
  simp -implicitDefEqProofs (disch := omega) only [allW, allR, Nat.reduceLT, Nat.reduceEqDiff, ↓reduceIte, hn, h88, d2, not_true, zR]
  exact zz (kl.length - (i + 1)) (by omega) ⟨i + 1, lv2, r.1, rfl, by omega, e, by omega, hseen.2 c0, hW2, hto3, hmt.wto hto03, hto03.free hbt.lt hfb, hbt.calm hto03.calm hfb, hkt3, fkt3, Jv rkt hto03, by simp only [zf, hn], by simp only [za, ↓reduceIte, Nat.reduceEqDiff, h0], by simp only [za, ↓reduceIte, Nat.reduceEqDiff, h13], by simp only [za, ↓reduceIte, Nat.reduceEqDiff, h86], by simp only [za, ↓reduceIte, Nat.reduceEqDiff, h87], by simp only [za, ↓reduceIte]; rfl⟩
 clear hn h0 h1 h5 h9 h10 h11 h12 f
 rintro z f t ⟨hn, lv', q1, q2, ⟨rfl, e⟩ | ⟨rfl, h6⟩⟩
 ·simp -implicitDefEqProofs (disch := omega) only [allW, zh, Nat.reduceLT, ↓reduceIte, allW, zj, zh, Nat.reduceLT, ↓reduceIte, hn, Try.results26]
  exact ⟨by rw [e]; rfl, lv', q1, q2⟩
 ·simp -implicitDefEqProofs (disch := omega) only [allW, zh, Nat.reduceLT, ↓reduceIte, allW, zj, zh, Nat.reduceLT, ↓reduceIte, hn, h6, Try.results26]
  exact ⟨rfl, lv', q1, q2⟩
end Go.Proofs.Ytokfoagohblkoaa
set_option linter.unusedSimpArgs false
set_option linter.unusedVariables false
set_option maxRecDepth 100000
namespace Go.Cl
theorem PwIs.start {X : Value -> List Value} {z : Value} {s : ASt} {w : Nat} {D : Dc} {mv : Value} {tc : List Value} {iv : Value} {ic : List Value} {m : Nat} {F : Nat -> Prop} (hD : ye F s mv tc iv ic D) (h1 : zd s w (X (.slice none 0 0))) (h2 : MapJ s m []) (hw : ∀ j, F j -> j ≠ w ∧ j ≠ m) (hm : w ≠ m) : PwIs X z s w D mv tc iv ic m (.slice none 0 0) ⟨[], []⟩ :=
 ⟨hD.mono fun j hj => ⟨(hw j hj).1, (hw j hj).2, fun e => by cases e⟩, h1, ⟨[], h2, kq.nil z⟩, ⟨[], .nil, zt.nil⟩, (fun p hp => by cases hp), hm, (fun e => by cases e), fun e => by cases e⟩
end Go.Cl
namespace Go.Proofs.Ytokfoagohblkoaa
open Go.Cl Go.Lib
theorem bPw {D : Dc} {mv iv : Value} {tc : List Value} (hl : tc.length = 5) (a : Nat) : yE Try.prog 78 [(0, .agg (docC D mv tc iv).toArray), (1, .map (some a))] = some (.agg (pwC D mv tc iv a (.slice none 0 0)).toArray) := by
 obtain ⟨a, b, c, d, e, rfl⟩ := five hl
 kernel_rfl
def AllR (s : ASt) (r : List PgO × Nat) (v : Value) (s' : ASt) : Prop := ∃ lv lc, v = .tuple #[lv, .int .i64 (r.2 : Nat)] ∧ Sees s' 20 lv r.1.length lc ∧ zt PgIs 20 (fun _ => True) s' r.1 lc ∧ (∀ p ∈ r.1, zu p.res ∧ zu p.obj) ∧ r.1.length ≤ 100000 ∧ Stay s.next s s'
theorem Wa {step : Int -> O -> WkO -> WkO × Nat} {mine : O} (h : ∀ n w, w.pages.length ≤ 1000 -> (step n mine w).1.pages.length ≤ 1000) : ∀ (l : List O) (w : WkO), w.pages.length ≤ 1000 -> (yQ step mine l w).1.pages.length ≤ 1000
 | [], w, hw => hw
 | x :: r, w, hw => by
  unfold yQ
  split
  ·exact hw
  ·split
   ·exact h _ _ hw
   ·exact Wa h r _ (h _ _ hw)
theorem kJ (D : List (Int × O)) : ∀ (k : Nat) (n : Int) (above : O) (w : WkO), w.pages.length ≤ 1000 -> (yl D k n above w).1.pages.length ≤ 1000
 | 0, n, above, w, hw => hw
 | k + 1, n, above, w, hw => by
  rw [jl]
  split
  ·exact hw
  split
  ·exact hw
  split
  ·exact hw
  split
  ·unfold xv
   split
   ·exact hw
   ·split
    ·exact hw
    ·rename_i h; simp at h ⊢; omega
  split
  ·exact hw
  ·exact Wa (fun n w h => kJ D k n _ w h) _ _ hw
set_option maxHeartbeats 8000000 in
theorem UP (F : Nat -> Prop) (s : ASt) (D : Dc) (mv : Value) (tc : List Value) (iv : Value) (ic : List Value) (hD : ye F s mv tc iv ic D) (hs : yN D) :
  Runs Try.prog libN 8 [.agg (docC D mv tc iv).toArray] s (AllR s (qj D.items D.trailer)) := by
 have htl := hD.trailer.len
 have dl := xh (D := D) (mv := mv) (iv := iv) htl
 have hd6 : zG.length + 1 = 6 := rfl
 refine Runs.enter 39 Try.func8 rfl rfl rfl rfl ?_
 intro f hn hf
 have h0 : f.get 0 = .agg (docC D mv tc iv).toArray := hf 0
 clear hf
 simp -implicitDefEqProofs (disch := omega) only [allW, Nat.reduceLT, ↓reduceIte, hn, h0]
 refine ze ?_
 intro s1 ht1 hst1 hnx1
 have ht1 : zd s1 s.next (docC D mv tc iv) := ht1
 have n1 := hst1.next
 have hD1 := hD.lows.keeps hst1
 simp -implicitDefEqProofs (disch := omega) only [allW, Nat.reduceLT, Nat.reduceAdd, ↓reduceIte, hn, dl]
 obtain ⟨B, hB⟩ : ∃ B : Nat -> Bool, B = fun j => decide (j < s1.next) := ⟨_, rfl⟩
 have hBl : ∀ j, B j = true -> j < s1.next := by
  intro j h
  rw [hB] at h
  exact of_decide_eq_true h
 have hBo : ∀ j, j < s1.next -> B j = true := fun j h => by rw [hB]; exact decide_eq_true h
 refine LB.Drawn.looseK B hBl 1 1 (by kernel_rfl) (by kernel_rfl) ?_
 have hsq := Stay.spare s1 1
 have hnq : (spare s1 1).next = s1.next + 1 := zH _ _
 have ml1 : ∀ k, LA.lowV B (some (.pointer (some ⟨s.next, k, some 10⟩))) = true := fun k => LA.lowV_ptr (A := B) (i := s.next) (hBo _ ht1.lt)
 simp -implicitDefEqProofs (disch := omega) only [allW, allR, allL, allB, Nat.sub_self, Nat.reduceSub, zc, Nat.reduceLT, Nat.reduceEqDiff, ↓reduceIte, hn, df3, xC (ht1.keeps hsq) htl, ji (ht1.keeps hsq) htl, ml1, hD1.self, hD1.trailer.self]
 refine (vR _ (spare s1 1) tc D.trailer (hD1.trailer.keeps hsq) hs.trailer wI).mono ?_
 rintro _ s2 ⟨c2, rfl, ho2, k2⟩
 have n2 := k2.next
 refine ⟨fun _ => LA.Stay.toA hBl (k2.weaken (by omega)), ?_⟩
 have k12 : Stay s1.next s1 s2 := hsq.trans (k2.weaken (by omega))
 try simp -implicitDefEqProofs (disch := omega) only [allW, allR, allL, allB, Nat.sub_self, Nat.add_one_sub_one, Nat.reduceSub, zh, zc, zn, optA, Nat.reduceLT, Nat.reduceLeDiff, Nat.reduceEqDiff, Nat.reduceAdd, ↓reduceIte, hn, h0, ho2.self]
 refine (YX _ s2 D mv tc iv ic (hD1.keeps k12) hs _ c2 _ ho2 (yv _ wI hs.trailer)).mono ?_
 rintro _ s3 ⟨c3, rfl, ho3, k3⟩
 have n3 := k3.next
 have hl3 := ho3.len
 refine ⟨fun h => h.elim, ?_⟩
 have k13 : Stay s1.next s1 s3 := k12.trans (k3.weaken (by omega))
 simp -implicitDefEqProofs (disch := omega) only [allW, ↓reduceIte, zO, plO]
 refine LB.smake_newPtr (by omega) ?_
 intro s4 ht4 nt4 et4
 simp -implicitDefEqProofs (disch := omega) only [allW, allB, Nat.reduceLT, Nat.reduceEqDiff, ↓reduceIte, hn, hd6]
 refine LB.sstep_storeAll szO (by decide) ht4 rfl rfl (by simpa using hl3) ho3.ok (fun h => absurd rfl h) ?_
 intro s5 ht5 nt5 et5
 have ht5 : zd s5 s1.next c3 := ht5
 have k15 : Stay s1.next s1 s5 := k13.trans ⟨by omega, fun j hj => by rw [et5 j (by omega), et4 j (by omega)]⟩
 have ho5 : OIs (fun j => s1.next + 1 ≤ j) s5 c3 (resD D.items (getO D.trailer wI)) := ((ho3.mono (G := fun j => s1.next + 1 ≤ j) (fun j (hj : _ ≤ j) => by omega)).ofPut nt4 et4 (by omega)).ofPut nt5 et5 (by omega)
 have n15 := k15.next
 have ht15 := ht1.keeps k15
 have hD5 := hD1.keeps k15
 obtain ⟨R, hR⟩ : ∃ R, R = resD D.items (getO D.trailer wI) := ⟨_, rfl⟩
 have hsR : zu R := by rw [hR]; exact xG hs.items (yv _ _ hs.trailer)
 have epd : qj D.items D.trailer = if R.kind ≠ 7 ∨ (getO R zS).kind ≠ 9 then ([], 8) else if (yl D.items 4001 (getO R zS).num (.mk 7 0 [] [] []) ⟨[], []⟩).2 ≠ 0 then ([], (yl D.items 4001 (getO R zS).num (.mk 7 0 [] [] []) ⟨[], []⟩).2) else ((yl D.items 4001 (getO R zS).num (.mk 7 0 [] [] []) ⟨[], []⟩).1.pages, 0) := by rw [hR]; rfl
 rw [← hR] at ho5
 rw [epd]
 simp -implicitDefEqProofs (disch := omega) only [allW, allR, allB, Nat.reduceSub, zc, Nat.reduceLT, ↓reduceIte, allW, allR, zc, Nat.reduceLT, ↓reduceIte, hn, zd.loadO ht5 hl3]
 refine (vR _ s5 c3 R ho5 hsR zS).mono ?_
 rintro _ s6 ⟨c6, rfl, ho6, k6⟩
 have n6 := k6.next
 have hl6 := ho6.len
 simp -implicitDefEqProofs (disch := omega) only [allW, Nat.reduceLT, ↓reduceIte, hn, zO, plO]
 refine ze ?_
 intro s7 ht7 hst7 hnx7
 simp -implicitDefEqProofs (disch := omega) only [allW, Nat.reduceLT, Nat.reduceEqDiff, ↓reduceIte, hn, hd6]
 refine zi szO (by decide) ht7 rfl rfl hl6 ho6.ok ?_
 intro s8 ht8 nt8 et8
 have ht8 : zd s8 s6.next c6 := ht8
 have k58 : Stay s5.next s5 s8 := (k6.trans (hst7.weaken n6)).trans ⟨by omega, fun j hj => et8 j (by omega)⟩
 have n58 := k58.next
 have ht58 := ht5.keeps k58
 have ho58 := ho5.keeps k58
 have ho8 : OIs (fun j => s5.next ≤ j ∧ j < s6.next) s8 c6 (getO R zS) := (ho6.lows.keeps hst7).ofPut nt8 et8 (by omega)
 have k18 : Stay s1.next s1 s8 := k15.trans (k58.weaken n15)
 have ks8 : Stay s.next s s8 := hst1.trans (k18.weaken n1)
 have lk1 : zg Try.prog s8 3 (.pointer (some ⟨s1.next, 0, some 6⟩)) = some (.int .i64 R.kind) := by
  rw [ht58.load (P := Try.prog) zT (off := 0) (c := 6) (by rw [hl3]) (by omega), ho58.kindC.1]
 have lk2 : zg Try.prog s8 3 (.pointer (some ⟨s6.next, 0, some 6⟩)) = some (.int .i64 (getO R zS).kind) := by
  rw [ht8.load (P := Try.prog) zT (off := 0) (c := 6) (by rw [hl6]) (by omega), ho8.kindC.1]
 have ln2 : zg Try.prog s8 2 (.pointer (some ⟨s6.next, 1, some 6⟩)) = some (.int .i64 (getO R zS).num) := by
  rw [ht8.load (P := Try.prog) wH (off := 1) (c := 6) (by rw [hl6]) (by omega), ho8.kindC.2]
 by_cases c1 : R.kind = 7
 rotate_left
 ·rw [if_pos (.inl c1)]
  simp -implicitDefEqProofs (disch := omega) only [allW, allR, zj, zh, Nat.reduceLT, Nat.reduceEqDiff, ↓reduceIte, undef, hn, of0, lk1, eq_true c1, Try.results8]
  exact ⟨_, [], rfl, .nil, zt.nil, (fun p hp => by cases hp), by simp, ks8⟩
 by_cases c2 : (getO R zS).kind = 9
 rotate_left
 ·rw [if_pos (.inr c2)]
  simp -implicitDefEqProofs (disch := omega) only [allW, allR, zj, zh, Nat.reduceLT, Nat.reduceEqDiff, ↓reduceIte, undef, hn, of0, lk1, lk2, c1, not_true, eq_true c2, Try.results8]
  exact ⟨_, [], rfl, .nil, zt.nil, (fun p hp => by cases hp), by simp, ks8⟩
 rw [if_neg (fun h => h.elim (fun h => h c1) (fun h => h c2))]
 have ht18 := ht1.keeps k18
 obtain ⟨s9, e9, hM9, k9, nx9⟩ := UN s8
 simp -implicitDefEqProofs (disch := omega) only [allW, allR, zn, Nat.reduceLT, Nat.reduceEqDiff, ↓reduceIte, undef, hn, of0, lk1, lk2, c1, c2, not_true, xC ht18 htl, e9, bPw htl]
 refine ze ?_
 intro sa hta ka nxa
 have hta : zd sa s9.next (pwC D mv tc iv s8.next (.slice none 0 0)) := hta
 have n9 := k9.next
 have na := ka.next
 have k8a : Stay s8.next s8 sa := k9.trans (ka.weaken n9)
 have ksa : Stay s.next s sa := ks8.trans (k8a.weaken (by have := ks8.next; omega))
 have hWa : PwIs (pwC D mv tc iv s8.next) (.agg #[]) sa s9.next D mv tc iv ic s8.next (.slice none 0 0) ⟨[], []⟩ :=
  PwIs.start (hD.lows.keeps ksa) hta (hM9.keeps ka) (fun j hj => by have := hj.2; have := ks8.next; omega) (by omega)
 have ht8a := ht8.keeps k8a
 have ho8a := ho8.keeps k8a
 have hd12 : (pwC D mv tc iv s8.next (.slice none 0 0)).length + 1 = 12 := by rw [qs htl]
 simp -implicitDefEqProofs (disch := omega) only [allW, Nat.reduceLT, ↓reduceIte, hn, hd12]
 obtain ⟨C, hC⟩ : ∃ B : Nat -> Bool, B = fun j => decide (j < sa.next) := ⟨_, rfl⟩
 have hCl : ∀ j, C j = true -> j < sa.next := by
  intro j h
  rw [hC] at h
  exact of_decide_eq_true h
 have hCo : ∀ j, j < sa.next -> C j = true := fun j h => by rw [hC]; exact decide_eq_true h
 refine LB.Drawn.looseK C hCl 1 0 (by kernel_rfl) (by kernel_rfl) ?_
 have hsr := Stay.spare sa 0
 have hnr : (spare sa 0).next = sa.next + 0 := zH _ _
 have ml3 : ∀ k, LA.lowV C (some (.pointer (some ⟨s6.next, k, some 6⟩))) = true := fun k => LA.lowV_ptr (A := C) (i := s6.next) (hCo _ ht8a.lt)
 have ln3 : zg Try.prog (spare sa 0) 2 (.pointer (some ⟨s6.next, 1, some 6⟩)) = some (.int .i64 (getO R zS).num) := by
  rw [(ht8a.keeps hsr).load (P := Try.prog) wH (off := 1) (c := 6) (by rw [hl6]) (by omega), ho8.kindC.2]
 simp -implicitDefEqProofs (disch := omega) only [allW, allR, allL, allB, Nat.sub_self, Nat.reduceSub, zc, Nat.reduceLT, Nat.reduceEqDiff, ↓reduceIte, hn, of1, ln3, ml3]
 refine (aag libCP (fun _ => False) (spare sa 0) (.slice none 0 0) [] [] .nil zt.nil (by simp) (fun e he => by cases he)).mono ?_
 rintro _ sb ⟨cb, rfl, hob, kb⟩
 have nb := kb.next
 refine ⟨fun _ => LA.Stay.toA hCl (kb.weaken (by omega)), ?_⟩
 have kab : Stay sa.next sa sb := hsr.trans (kb.weaken (by omega))
 have hWb := hWa.keeps kab
 have eD : O.mk 7 0 [] [] (yd [] []) = .mk 7 0 [] [] [] := rfl
 rw [eD] at hob
 try simp -implicitDefEqProofs (disch := omega) only [allW, allR, allL, allB, Nat.sub_self, Nat.add_one_sub_one, Nat.reduceSub, zh, zc, zn, optA, Nat.reduceLT, Nat.reduceLeDiff, Nat.reduceEqDiff, Nat.reduceAdd, ↓reduceIte, hn, h0, hob.self]
 refine (aau s9.next D mv tc iv ic s8.next hs 4001 sb (.slice none 0 0) ⟨[], []⟩ (getO R zS).num cb (.mk 7 0 [] [] []) (by simp) (by simp) (by simp [O.ents]) (zu.bare 7 0) (hob.mono fun j (hj : _ ≤ j) => hWa.free (by omega)) hWb).mono ?_
 rintro _ sc ⟨rfl, lv, hWc, htc⟩
 refine ⟨fun h => h.elim, ?_⟩
 obtain ⟨r, hr⟩ : ∃ r, r = yl D.items 4001 (getO R zS).num (.mk 7 0 [] [] []) ⟨[], []⟩ := ⟨_, rfl⟩
 have hpl : r.1.pages.length ≤ 1000 := by rw [hr]; exact kJ _ _ _ _ _ (by simp)
 rw [← hr] at hWc ⊢
 have ksb : Stay s.next s sb := ksa.trans (kab.weaken (by have := ksa.next; omega))
 have ksc : Stay s.next s sc := ksb.trans ⟨htc.next, fun j hj => htc.calm.get j (by have := ksb.next; omega) ⟨by have := ks8.next; omega, by have := ks8.next; omega, fun e => by cases e⟩⟩
 by_cases c0 : r.2 = 0
 rotate_left
 ·have d2 : ¬ ((r.2 : Nat) : Int) = 0 := by omega
  rw [if_pos c0]
  simp -implicitDefEqProofs (disch := omega) only [allW, zh, Nat.reduceLT, Nat.reduceEqDiff, ↓reduceIte, allW, zh, Nat.reduceLT, Nat.reduceEqDiff, ↓reduceIte, allW, zj, zh, Nat.reduceLT, Nat.reduceEqDiff, ↓reduceIte, hn, eq_true d2, Try.results8]
  exact ⟨_, [], rfl, .nil, zt.nil, (fun p hp => by cases hp), by simp, ksc⟩
 have d2 : ((r.2 : Nat) : Int) = 0 := by omega
 rw [if_neg (show ¬ (r.2 ≠ 0) from fun h => h c0)]
 obtain ⟨lc, hO, hRw⟩ := hWc.pages
 simp -implicitDefEqProofs (disch := omega) only [allW, allR, zh, Nat.reduceLT, Nat.reduceEqDiff, ↓reduceIte, allW, allR, zh, Nat.reduceLT, Nat.reduceEqDiff, ↓reduceIte, allW, allR, zj, zh, Nat.reduceLT, Nat.reduceEqDiff, ↓reduceIte, hn, d2, not_true, pw2, ZL hWc.thing htl, Try.results8]
 exact ⟨lv, lc, rfl, hO.sees, hRw.mono wW (fun _ _ => trivial), hWc.small, Nat.le_trans hpl (by decide), ksc⟩
end Go.Proofs.Ytokfoagohblkoaa
set_option linter.unusedSimpArgs false
set_option linter.unusedVariables false
set_option maxRecDepth 100000
namespace Go.Cl
def rwC (D : Dc) (mv : Value) (tc : List Value) (iv : Value) (m : Nat) (e : Nat) (lv : Value) : List Value := docC D mv tc iv ++ [.map (some m), lv, .int .i64 (e : Nat)]
theorem yo {D : Dc} {mv iv lv : Value} {tc : List Value} {m e : Nat} (hl : tc.length = 5) : (rwC D mv tc iv m e lv).length = 12 := by
 obtain ⟨a, b, c, d, e, rfl⟩ := five hl
 rfl
theorem UQ {D : Dc} {mv iv lv lv' : Value} {tc : List Value} {m e : Nat} (hl : tc.length = 5) : over (rwC D mv tc iv m e lv) 10 [lv'] = rwC D mv tc iv m e lv' := by
 obtain ⟨a, b, c, d, e, rfl⟩ := five hl
 rfl
theorem KZ {D : Dc} {mv iv lv : Value} {tc : List Value} {m e e' : Nat} (hl : tc.length = 5) : (rwC D mv tc iv m e lv).set 11 (.int .i64 (e' : Nat)) = rwC D mv tc iv m e' lv := by
 obtain ⟨a, b, c, d, e, rfl⟩ := five hl
 rfl
theorem PwIs.bad {X X' : Value -> List Value} {z : Value} {s s' : ASt} {w : Nat} {D : Dc} {mv : Value} {tc : List Value} {iv : Value} {ic : List Value} {m : Nat} {lv : Value} {W : WkO} (h : PwIs X z s w D mv tc iv ic m lv W) (h1 : zd s' w (X' lv)) (h2 : s'.next = s.next) (h3 : ∀ j, j ≠ w -> s'.heap.get j = s.heap.get j) : PwIs X' z s' w D mv tc iv ic m lv W ∧ WTo w m lv lv s s' := by
 have hto : WTo w m lv lv s s' := WTo.ofPut h2 h3 (.inl rfl)
 obtain ⟨T, hT, hS⟩ := h.met
 obtain ⟨lc, hO, hR⟩ := h.pages
 exact ⟨⟨h.doc.wto hto, h1, ⟨T, hT.ofPut h2 h3 h.wm, hS⟩, ⟨lc, Own.ofPut h2 h3 hO h.lw, KW hR hto⟩, h.small, h.wm, h.lw, h.lm⟩, hto⟩
def pgC (m c : List Int) (r : Int) (rc : List Value) (n : Int) (oc : List Value) : List Value := lfC m c r rc ++ (.int .i64 n :: oc)
theorem WA {l t vs : List Value} {off : Nat} (h : off + vs.length ≤ l.length) : over (l ++ t) off vs = over l off vs ++ t := by
 unfold over
 rw [List.take_append_of_le_length (by omega), List.drop_append_of_le_length (by omega)]
 simp
section
variable {m c m' oc : List Int} {r r' n : Int} {rc rc' oc : List Value}
theorem aav (hm : m.length = 4) (hc : c.length = 4) (h1 : rc.length = 5) (hm' : m'.length = 4) : over (pgC m c r rc n oc) 0 (i64V m') = pgC m' c r rc n oc := by
 unfold pgC; rw [WA (by rw [yY hm hc h1]; simp [i64V, hm']), KR hm hm']
theorem Ua (hm : m.length = 4) (hc : c.length = 4) (h1 : rc.length = 5) (hm' : m'.length = 4) : over (pgC m c r rc n oc) 4 (i64V m') = pgC m m' r rc n oc := by
 unfold pgC; rw [WA (by rw [yY hm hc h1]; simp [i64V, hm']), Wy hm hc hm']
theorem WB (hm : m.length = 4) (hc : c.length = 4) (h1 : rc.length = 5) : (pgC m c r rc n oc).set 8 (.int .i64 r') = pgC m c r' rc n oc := by
 unfold pgC; rw [List.set_append_left _ _ (by rw [yY hm hc h1]; decide), KS hm hc]
theorem aaw (hm : m.length = 4) (hc : c.length = 4) (h1 : rc.length = 5) (h2 : rc'.length = 5) : over (pgC m c r rc n oc) 9 rc' = pgC m c r rc' n oc := by
 unfold pgC; rw [WA (by rw [yY hm hc h1, h2]; decide), KT hm hc h1 h2]
theorem jq (hm : m.length = 4) (hc : c.length = 4) (h1 : rc.length = 5) (h2 : oc.length = 5) : (pgC m c r rc n oc).length = 20 := by
 unfold pgC; rw [List.length_append, yY hm hc h1, List.length_cons, h2]
theorem jP (hm : m.length = 4) : ((pgC m c r rc n oc).drop 0).take 4 = i64V m := by
 obtain ⟨a, b, d, e, rfl⟩ := four hm
 rfl
theorem pg_res (hm : m.length = 4) (hc : c.length = 4) (h1 : rc.length = 5) : (pgC m c r rc n oc).getD 9 undef = rc.getD 0 undef := by
 obtain ⟨a, b, d, e, rfl⟩ := four hm
 obtain ⟨a1, b1, d1, e1, rfl⟩ := four hc
 obtain ⟨_, _, _, _, _, rfl⟩ := five h1
 rfl
theorem Ub (h : rc.all okCell = true) (h2 : oc.all okCell = true) : (pgC m c r rc n oc).all okCell = true := by
 unfold pgC; rw [List.all_append, List.all_cons, KU h, h2]; rfl
theorem WC (h : zD (.agg rc.toArray) (.agg rc.toArray) = true) (h2 : zD (.agg oc.toArray) (.agg oc.toArray) = true) : zD (.agg (pgC m c r rc n oc).toArray) (.agg (pgC m c r rc n oc).toArray) = true := by
 show yB (pgC m c r rc n oc) (pgC m c r rc n oc) = true
 have h1 : yB (lfC m c r rc) (lfC m c r rc) = true := Wz h
 have h2 : yB oc oc = true := h2
 refine vI (fun v hv => ?_)
 simp only [pgC, List.mem_cons, List.mem_append] at hv
 rcases hv with hv | rfl | hv
 ·exact vb h1 v hv
 ·simp [zV]
 ·exact vb h2 v hv
end
end Go.Cl
namespace Go.Proofs.Ytokfoagohblkoaa
open Go.Cl Go.Lib
theorem szRs : zB Try.prog 44 = some 1 := by kernel_rfl
theorem agRs : yc Try.prog 44 = some false := by kernel_rfl
theorem szRl : zB Try.prog 50 = some 14 := by kernel_rfl
theorem szRp : zB Try.prog 52 = some 20 := by kernel_rfl
theorem agRp : yc Try.prog 52 = some true := by kernel_rfl
theorem byRp : xV Try.prog 52 = some 256 := by kernel_rfl
theorem zRp : yj Try.prog 52 = some (.agg YY.toArray) := by kernel_rfl
theorem bRp (n : Int) {oc : List Value} (ho : oc.length = 5) : yE Try.prog 52 [(1, .int .i64 n), (2, .agg oc.toArray)] = some (.agg (pgC Z4 Z4 0 zG n oc).toArray) := by
 obtain ⟨a, b, c, d, e, rfl⟩ := five ho
 kernel_rfl
theorem rm0 (i o c : Nat) : zk Try.prog 88 (.pointer (some ⟨i, o, some c⟩)) 0 = some (.pointer (some ⟨i, o + 0, some c⟩)) := by
 unfold zk; rw [Try.underlying88]; simp [szD]
theorem szMi : zB Try.prog 86 = some 1 := by kernel_rfl
theorem agMi : yc Try.prog 86 = some false := by kernel_rfl
theorem rm1 (i o c : Nat) : zk Try.prog 88 (.pointer (some ⟨i, o, some c⟩)) 1 = some (.pointer (some ⟨i, o + 9, some c⟩)) := by
 unfold zk; rw [Try.underlying88]; simp [szMi]
theorem rm2 (i o c : Nat) : zk Try.prog 88 (.pointer (some ⟨i, o, some c⟩)) 2 = some (.pointer (some ⟨i, o + 10, some c⟩)) := by
 unfold zk; rw [Try.underlying88]; simp [szRs]
theorem rm3 (i o c : Nat) : zk Try.prog 88 (.pointer (some ⟨i, o, some c⟩)) 3 = some (.pointer (some ⟨i, o + 11, some c⟩)) := by
 unfold zk; rw [Try.underlying88]; simp [yP]
theorem rp0 (i o c : Nat) : zk Try.prog 52 (.pointer (some ⟨i, o, some c⟩)) 0 = some (.pointer (some ⟨i, o + 0, some c⟩)) := by
 unfold zk; rw [Try.underlying52]; simp [szRl]
theorem rl0 (i o c : Nat) : zk Try.prog 50 (.pointer (some ⟨i, o, some c⟩)) 0 = some (.pointer (some ⟨i, o + 0, some c⟩)) := by
 unfold zk; rw [Try.underlying50]; simp [szRx]
theorem rl1 (i o c : Nat) : zk Try.prog 50 (.pointer (some ⟨i, o, some c⟩)) 1 = some (.pointer (some ⟨i, o + 4, some c⟩)) := by
 unfold zk; rw [Try.underlying50]; simp [szRx]
theorem rl2 (i o c : Nat) : zk Try.prog 50 (.pointer (some ⟨i, o, some c⟩)) 2 = some (.pointer (some ⟨i, o + 8, some c⟩)) := by
 unfold zk; rw [Try.underlying50]; simp [yP]
theorem rl3 (i o c : Nat) : zk Try.prog 50 (.pointer (some ⟨i, o, some c⟩)) 3 = some (.pointer (some ⟨i, o + 9, some c⟩)) := by
 unfold zk; rw [Try.underlying50]; simp [szO]
section
variable {t : ASt} {i : Nat} {D : Dc} {mv iv lv : Value} {tc : List Value} {m e : Nat}
theorem Zg (h : zd t i (rwC D mv tc iv m e lv)) (hl : tc.length = 5) : zg Try.prog t 34 (.pointer (some ⟨i, 0, some 13⟩)) = some (.agg (docC D mv tc iv).toArray) := by
 rw [zd.loadMid agD szD h (by rw [yo hl]) (by rw [yo hl]; omega)]
 obtain ⟨a, b, c, d, e, rfl⟩ := five hl
 rfl
theorem Qb (h : zd t i (rwC D mv tc iv m e lv)) (hl : tc.length = 5) : zg Try.prog t 86 (.pointer (some ⟨i, 9, some 13⟩)) = some (.map (some m)) := by
 rw [h.load (P := Try.prog) agMi (off := 9) (c := 13) (by rw [yo hl]) (by rw [yo hl]; omega)]
 obtain ⟨a, b, c, d, e, rfl⟩ := five hl
 rfl
theorem vS (h : zd t i (rwC D mv tc iv m e lv)) (hl : tc.length = 5) : zg Try.prog t 44 (.pointer (some ⟨i, 10, some 13⟩)) = some lv := by
 rw [h.load (P := Try.prog) agRs (off := 10) (c := 13) (by rw [yo hl]) (by rw [yo hl]; omega)]
 obtain ⟨a, b, c, d, e, rfl⟩ := five hl
 rfl
theorem jQ (h : zd t i (rwC D mv tc iv m e lv)) (hl : tc.length = 5) : zg Try.prog t 3 (.pointer (some ⟨i, 11, some 13⟩)) = some (.int .i64 (e : Nat)) := by
 rw [h.load (P := Try.prog) zT (off := 11) (c := 13) (by rw [yo hl]) (by rw [yo hl]; omega)]
 obtain ⟨a, b, c, d, e, rfl⟩ := five hl
 rfl
end
theorem wX (F : Nat -> Prop) (s : ASt) (cs : List Value) (o : O) (ho : OIs F s cs o) (hsm : zu o) (k : List UInt8) : Runs Try.prog libN 33 [.agg cs.toArray, .string ⟨k.toArray⟩] s (NewO s (getO o k)) := KG rfl rfl rfl rfl F s cs o ho hsm k
theorem Yg (F : Nat -> Prop) (s : ASt) (D : Dc) (mv : Value) (tc : List Value) (iv : Value) (ic : List Value) (hD : ye F s mv tc iv ic D) (hs : yN D) (cs : List Value) (o : O) (ho : OIs F s cs o) (hso : zu o) : Runs Try.prog libN 36 [.agg (docC D mv tc iv).toArray, .agg cs.toArray] s (RObj F s (resD D.items o)) := jO (lib := libN) rfl rfl F s D mv tc iv ic hD hs cs o ho hso
theorem rcopyP (F : Nat -> Prop) (s : ASt) (cs : List Value) (o : O) (ho : OIs F s cs o) (hsm : zu o) : Runs Try.prog libN 29 [.agg cs.toArray] s (NewO s o) := jI rfl rfl _ o (Nat.le_refl _) F s cs ho hsm
def Qc (z : Value) (s : ASt) (w : Nat) (D : Dc) (mv : Value) (tc : List Value) (iv : Value) (ic : List Value) (m : Nat) (lv : Value) (r : WkO × Nat) (_ : Value) (s' : ASt) : Prop :=
 ∃ lv', PwIs (rwC D mv tc iv m r.2) z s' w D mv tc iv ic m lv' r.1 ∧ WTo w m lv lv' s s'
set_option maxHeartbeats 16000000 in
theorem SG (z : Value) (s : ASt) (w : Nat) (D : Dc) (mv : Value) (tc : List Value) (iv : Value) (ic : List Value) (m : Nat) (lv : Value) (W : WkO) (hW : PwIs (rwC D mv tc iv m 0) z s w D mv tc iv ic m lv W) (hs : yN D) (n : Int) (G : Nat -> Prop) (cs : List Value) (o : O) (ho : OIs G s cs o) (hso : zu o) (ca : List Value) (mine : O) (ha : OIs (zY w m lv) s ca mine) (hsa : zu mine) :
  Runs Try.prog libN 57 [.pointer (some ⟨w, 0, some 13⟩), .int .i64 n, .agg cs.toArray, .agg ca.toArray] s (Qc z s w D mv tc iv ic m lv (xv D.items n o mine W)) := by
 have htl := hW.doc.trailer.len
 have hol := ho.len
 have hal := ha.len
 have hd6 : zG.length + 1 = 6 := rfl
 have hd21 : YY.length + 1 = 21 := rfl
 refine Runs.enter 133 Try.func57 rfl rfl rfl rfl ?_
 intro f hn hf
 have h0 : f.get 0 = .pointer (some ⟨w, 0, some 13⟩) := hf 0
 have h1 : f.get 1 = .int .i64 n := hf 1
 have h2 : f.get 2 = .agg cs.toArray := hf 2
 have h3 : f.get 3 = .agg ca.toArray := hf 3
 clear hf
 simp -implicitDefEqProofs (disch := omega) only [allW, Nat.reduceLT, ↓reduceIte, hn, h2]
 refine ze ?_
 intro s1 ht1 hst1 hnx1
 have ht1 : zd s1 s.next cs := ht1
 simp -implicitDefEqProofs (disch := omega) only [allW, Nat.reduceLT, Nat.reduceEqDiff, Nat.reduceAdd, ↓reduceIte, hn, h3, hol]
 refine ze ?_
 intro s2 ht2 hst2 hnx2
 have ht2 : zd s2 s1.next ca := ht2
 have n1 := hst1.next
 have n2 := hst2.next
 have hs2 : Stay s.next s s2 := hst1.trans (hst2.weaken n1)
 simp -implicitDefEqProofs (disch := omega) only [allW, allR, zc, Nat.reduceLT, Nat.reduceEqDiff, Nat.reduceAdd, ↓reduceIte, hn, h1, hal, zd.loadO (ht1.keeps hst2) hol]
 refine (rcopyP _ s2 cs o (ho.keeps hs2) hso).mono ?_
 rintro _ s3 ⟨c3, rfl, ho3, k3⟩
 have n3 := k3.next
 have hl3 := ho3.len
 simp -implicitDefEqProofs (disch := omega) only [allW, zn, Nat.reduceLT, Nat.reduceEqDiff, ↓reduceIte, hn, bRp n hl3, zRp, plPg]
 refine ze ?_
 intro s4 ht4 hst4 hnx4
 have n4 := hst4.next
 have hP4 : (pgC Z4 Z4 0 zG n c3).length = 20 := jq rfl rfl rfl hl3
 simp -implicitDefEqProofs (disch := omega) only [allW, Nat.reduceLT, Nat.reduceEqDiff, ↓reduceIte, hn, hd21]
 refine zi szRp (by decide) ht4 rfl rfl hP4 (Ub (by decide) ho3.ok) ?_
 intro s5 ht5 nt5 et5
 have ht5 : zd s5 s3.next (pgC Z4 Z4 0 zG n c3) := ht5
 have k35 : Stay s3.next s3 s5 := hst4.trans ⟨by omega, fun j hj => et5 j (by omega)⟩
 have k25 : Stay s2.next s2 s5 := k3.trans (k35.weaken n3)
 have ks5 : Stay s.next s s5 := hs2.trans (k25.weaken (by omega))
 have n35 := k35.next
 have hc3 : OIs (fun j => s2.next ≤ j ∧ j < s3.next) s5 c3 o := (ho3.lows.keeps hst4).ofPut nt5 et5 (by omega)
 have hW5 := hW.keeps ks5
 have ha5 := ha.keeps ks5
 have ht25 := ht2.keeps k25
 have hfr : ∀ j, s.next ≤ j -> zY w m lv j := fun j hj => hW.free hj
 simp -implicitDefEqProofs (disch := omega) only [allW, Nat.reduceLT, ↓reduceIte, hn]
 obtain ⟨B, hB⟩ : ∃ B : Nat -> Bool, B = fun j => decide (j < s5.next) := ⟨_, rfl⟩
 have hBl : ∀ j, B j = true -> j < s5.next := by
  intro j h
  rw [hB] at h
  exact of_decide_eq_true h
 have hBo : ∀ j, j < s5.next -> B j = true := fun j h => by rw [hB]; exact decide_eq_true h
 refine LB.Drawn.looseK B hBl 1 0 (by kernel_rfl) (by kernel_rfl) ?_
 have hsq := Stay.spare s5 0
 have hnq : (spare s5 0).next = s5.next + 0 := zH _ _
 have ml1 : ∀ k, LA.lowV B (some (.pointer (some ⟨w, k, some 13⟩))) = true := fun k => LA.lowV_ptr (A := B) (i := w) (hBo _ hW5.thing.lt)
 have ml2 : ∀ k, LA.lowV B (some (.pointer (some ⟨s1.next, k, some 6⟩))) = true := fun k => LA.lowV_ptr (A := B) (i := s1.next) (hBo _ ht25.lt)
 simp -implicitDefEqProofs (disch := omega) only [allW, allR, allL, allB, Nat.sub_self, Nat.reduceSub, zc, Nat.reduceLT, Nat.reduceEqDiff, ↓reduceIte, hn, h0, rm0, Zg (hW5.thing.keeps hsq) htl, zd.loadO (ht25.keeps hsq) hal, ml1, ml2, hW5.doc.self, ha5.self]
 refine (wX _ (spare s5 0) ca mine (ha5.keeps hsq) hsa kMed).mono ?_
 rintro _ s6 ⟨c6, rfl, ho6, k6⟩
 have n6 := k6.next
 refine ⟨fun _ => LA.Stay.toA hBl (k6.weaken (by omega)), ?_⟩
 have k56 : Stay s5.next s5 s6 := hsq.trans (k6.weaken (by omega))
 try simp -implicitDefEqProofs (disch := omega) only [allW, allR, allL, allB, Nat.sub_self, Nat.add_one_sub_one, Nat.reduceSub, zh, zc, zn, optA, Nat.reduceLT, Nat.reduceLeDiff, Nat.reduceEqDiff, Nat.reduceAdd, ↓reduceIte, hn, h0, h1, h2, h3, ho6.self]
 refine (KQ (zY w m lv) s6 D mv tc iv ic (hW5.doc.keeps k56) hs c6 _ (ho6.mono fun j (h : _ ≤ j) => hfr j (by have := ks5.next; omega)) (yv mine kMed hsa)).mono ?_
 rintro _ s7 ⟨rfl, k7⟩
 have n7 := k7.next
 refine ⟨fun h => h.elim, ?_⟩
 obtain ⟨b1, hb1⟩ : ∃ b1, b1 = boxD D.items (getO mine kMed) := ⟨_, rfl⟩
 have hM : lfM D.items mine = b1.getD Z4 := by rw [hb1]; rfl
 have hMl : (b1.getD Z4).length = 4 := by rw [hb1]; exact wb
 rw [← hb1]
 have k57 : Stay s5.next s5 s7 := k56.trans (k7.weaken (by omega))
 have n57 := k57.next
 have hnl : zG.length = 5 := rfl
 simp -implicitDefEqProofs (disch := omega) only [allW, allL, allB, Nat.reduceLT, Nat.reduceEqDiff, ↓reduceIte, hn, ext0, ext1, kr _ hMl, jk _ hMl, rp0, rl0]
 refine LB.sstep_storeN szRx (by decide) (ht5.keeps k57) (off := 0) (c := 21) (by rw [hP4]) vF (by simp [i64V, hMl]) (by rw [hP4]; decide) (wV _) (fun h => absurd rfl h) ?_
 intro s8 ht8 nt8 et8
 rw [aav rfl rfl rfl hMl] at ht8
 have hP8 : (pgC (b1.getD Z4) Z4 0 zG n c3).length = 20 := jq hMl rfl rfl hl3
 have lm8 : zg Try.prog s8 48 (.pointer (some ⟨s3.next, 0, some 21⟩)) = some (.agg (i64V (b1.getD Z4)).toArray) := by
  rw [ht8.loadMid (P := Try.prog) agRx szRx (off := 0) (c := 21) (by rw [hP8]) (by rw [hP8]; decide), jP hMl]
 simp -implicitDefEqProofs (disch := omega) only [allW, allL, allB, Nat.reduceSub, Nat.reduceLT, Nat.reduceEqDiff, ↓reduceIte, hn, rp0, rl0, rl1, lm8]
 refine wF szRx (by decide) ht8 (off := 4) (c := 21) (by rw [hP8]) (vs := i64V (b1.getD Z4)) (by rw [yU]) (by simp [i64V, hMl]) (by rw [hP8]; decide) (wV _) ?_
 intro s9 ht9 nt9 et9
 rw [Ua hMl rfl rfl hMl] at ht9
 have hP9 : (pgC (b1.getD Z4) (b1.getD Z4) 0 zG n c3).length = 20 := jq hMl hMl rfl hl3
 have k59 : Stay s3.next s5 s9 := (k57.weaken n35).trans ⟨by omega, fun j hj => by rw [et9 j (by omega), et8 j (by omega)]⟩
 have n59 := k59.next
 have ks9 : Stay s.next s s9 := ks5.trans (k59.weaken (by omega))
 have th9 : zd s9 s1.next ca := ((ht25.keeps k57).ofPut nt8 et8 (by omega)).ofPut nt9 et9 (by omega)
 have hc9 : OIs (fun j => s2.next ≤ j ∧ j < s3.next) s9 c3 o := ((hc3.keeps k57).ofPut nt8 et8 (by omega)).ofPut nt9 et9 (by omega)
 have ha9 := ha.lows.keeps ks9
 simp -implicitDefEqProofs (disch := omega) only [allW, allR, zc, Nat.reduceLT, Nat.reduceEqDiff, ↓reduceIte, hn, zd.loadO th9 hal]
 refine (wX _ s9 ca mine ha9 hsa xT).mono ?_
 rintro _ sa ⟨ca', rfl, hoa, ka⟩
 have na := ka.next
 have hla := hoa.len
 simp -implicitDefEqProofs (disch := omega) only [allW, Nat.reduceLT, ↓reduceIte, hn, zO, plO]
 refine ze ?_
 intro sb htb hstb hnxb
 simp -implicitDefEqProofs (disch := omega) only [allW, Nat.reduceLT, Nat.reduceEqDiff, ↓reduceIte, hn, hd6]
 refine zi szO (by decide) htb rfl rfl hla hoa.ok ?_
 intro sc htc ntc etc
 have htc : zd sc sa.next ca' := htc
 have k9c : Stay s9.next s9 sc := (ka.trans (hstb.weaken na)).trans ⟨by omega, fun j hj => etc j (by omega)⟩
 have nc := k9c.next
 have hoc : OIs (fun j => s9.next ≤ j ∧ j < sa.next) sc ca' (getO mine xT) := (hoa.lows.keeps hstb).ofPut ntc etc (by omega)
 have lk : zg Try.prog sc 3 (.pointer (some ⟨sa.next, 0, some 6⟩)) = some (.int .i64 (getO mine xT).kind) := by
  rw [htc.load (P := Try.prog) zT (off := 0) (c := 6) (by rw [hla]) (by omega), hoc.kindC.1]
 have ksc : Stay s.next s sc := ks9.trans (k9c.weaken (by have := ks9.next; omega))
 have tPc := ht9.keeps k9c
 have thc := th9.keeps k9c
 have hcc := hc9.keeps k9c
 simp -implicitDefEqProofs (disch := omega) only [allW, allR, Nat.reduceLT, ↓reduceIte, undef, hn, of0, lk]
 refine qq (fun f t => f.n = 133 ∧ f.get 0 = .pointer (some ⟨w, 0, some 13⟩) ∧ f.get 7 = .pointer (some ⟨s1.next, 0, some 6⟩) ∧ f.get 8 = .pointer (some ⟨s3.next, 0, some 21⟩) ∧ f.get 9 = .bool (b1.isSome && lfKo D.items mine) ∧ zd t s3.next (pgC (lfM D.items mine) (lfK D.items mine) 0 zG n c3) ∧ zd t s1.next ca ∧ OIs (fun j => s2.next ≤ j ∧ j < s3.next) t c3 o ∧ Stay s.next s t ∧ s5.next ≤ t.next) ?_ ?_
 ·intro Q hQ
  by_cases c0 : (getO mine xT).kind = 0
  ·have e1 : lfKo D.items mine = true := by unfold lfKo; rw [if_pos c0]
   have e2 : lfK D.items mine = b1.getD Z4 := by unfold lfK; rw [if_pos c0, hM]
   simp -implicitDefEqProofs (disch := omega) only [allW, c0, not_true]
   exact hQ _ _ ⟨by simp only [zf, hn], by simp only [za, ↓reduceIte, Nat.reduceEqDiff, h0], by simp only [za, ↓reduceIte, Nat.reduceEqDiff], by simp only [za, ↓reduceIte, Nat.reduceEqDiff], by rw [e1, Bool.and_true]; simp only [za, ↓reduceIte, Nat.reduceEqDiff], by rw [e2, hM]; exact tPc, thc, hcc, ksc, by omega⟩
  simp -implicitDefEqProofs (disch := omega) only [allW, eq_true c0]
  obtain ⟨C, hC⟩ : ∃ B : Nat -> Bool, B = fun j => decide (j < sc.next) := ⟨_, rfl⟩
  have hCl : ∀ j, C j = true -> j < sc.next := by
   intro j h
   rw [hC] at h
   exact of_decide_eq_true h
  have hCo : ∀ j, j < sc.next -> C j = true := fun j h => by rw [hC]; exact decide_eq_true h
  refine LB.Drawn.looseK C hCl 0 1 (by kernel_rfl) (by kernel_rfl) ?_
  have hsr := Stay.spare sc 1
  have hnr : (spare sc 1).next = sc.next + 1 := zH _ _
  have hWc := hW.keeps ksc
  have ml3 : ∀ k, LA.lowV C (some (.pointer (some ⟨w, k, some 13⟩))) = true := fun k => LA.lowV_ptr (A := C) (i := w) (hCo _ hWc.thing.lt)
  have ml4 : ∀ k, LA.lowV C (some (.pointer (some ⟨sa.next, k, some 6⟩))) = true := fun k => LA.lowV_ptr (A := C) (i := sa.next) (hCo _ htc.lt)
  simp -implicitDefEqProofs (disch := omega) only [allW, allR, allL, allB, Nat.reduceSub, zc, Nat.reduceLT, Nat.reduceEqDiff, ↓reduceIte, hn, h0, rm0, Zg (hWc.thing.keeps hsr) htl, zd.loadO (htc.keeps hsr) hla, ml3, ml4, hWc.doc.self, hoc.self]
  refine (KQ (zY w m lv) (spare sc 1) D mv tc iv ic (hWc.doc.keeps hsr) hs ca' _ ((hoc.keeps hsr).mono fun j h => hfr j (by have := ks9.next; omega)) (yv mine xT hsa)).mono ?_
  rintro _ sd ⟨rfl, kd⟩
  have nd := kd.next
  refine ⟨fun h => h.elim, ?_⟩
  obtain ⟨b2, hb2⟩ : ∃ b2, b2 = boxD D.items (getO mine xT) := ⟨_, rfl⟩
  have hKl : (b2.getD Z4).length = 4 := by rw [hb2]; exact wb
  have eK : lfK D.items mine = b2.getD Z4 := by unfold lfK; rw [if_neg c0, ← hb2]
  have eKo : lfKo D.items mine = b2.isSome := by unfold lfKo; rw [if_neg c0, ← hb2]
  rw [← hb2]
  have kcd : Stay sc.next sc sd := hsr.trans (kd.weaken (by omega))
  simp -implicitDefEqProofs (disch := omega) only [allW, allL, allB, Nat.reduceLT, Nat.reduceEqDiff, ↓reduceIte, hn, ext0, ext1, kr _ hKl, jk _ hKl, zRx, plBx]
  refine LB.smake_newPtr (by omega) ?_
  intro se hte nte ete
  have hd5 : [Value.int .i64 0, .int .i64 0, .int .i64 0, .int .i64 0].length + 1 = 5 := rfl
  simp -implicitDefEqProofs (disch := omega) only [allW, allB, Nat.reduceLT, Nat.reduceEqDiff, ↓reduceIte, hn, hd5]
  refine LB.sstep_storeN szRx (by decide) hte (off := 0) (c := 5) rfl vF (by simp [i64V, hKl]) (by decide) (wV _) (fun h => absurd rfl h) ?_
  intro sf htf ntf etf
  have htf : zd sf sc.next (i64V (b2.getD Z4)) := by
   have := ZA (l := [Value.int .i64 0, .int .i64 0, .int .i64 0, .int .i64 0]) (vs := i64V (b2.getD Z4)) (by simp [i64V, hKl])
   rw [this] at htf; exact htf
  have lbx : zg Try.prog sf 48 (.pointer (some ⟨sc.next, 0, some 5⟩)) = some (.agg (i64V (b2.getD Z4)).toArray) := zd.loadAll agRx (by simp only [i64V, List.length_map, hKl]; exact szRx) htf (by simp [i64V, hKl])
  have kcf : Stay sc.next sc sf := kcd.trans ⟨by omega, fun j hj => by rw [etf j (by omega), ete j (by omega)]⟩
  have ncf := kcf.next
  have tPf := tPc.keeps kcf
  simp -implicitDefEqProofs (disch := omega) only [allW, allL, allB, Nat.reduceSub, Nat.reduceLT, Nat.reduceEqDiff, ↓reduceIte, allW, Nat.reduceLT, Nat.reduceEqDiff, ↓reduceIte, hn, rp0, rl1, lbx]
  refine wF szRx (by decide) tPf (off := 4) (c := 21) (by rw [hP9]) (vs := i64V (b2.getD Z4)) (by rw [yU]) (by simp [i64V, hKl]) (by rw [hP9]; decide) (wV _) ?_
  intro sg htg ntg etg
  rw [Ua hMl hMl rfl hKl, ← hM, ← eK] at htg
  have fx : ∀ f : AFr, f.n = 133 -> f.get 0 = .pointer (some ⟨w, 0, some 13⟩) -> f.get 7 = .pointer (some ⟨s1.next, 0, some 6⟩) -> f.get 8 = .pointer (some ⟨s3.next, 0, some 21⟩) -> f.get 9 = .bool (b1.isSome && lfKo D.items mine) -> Q .normal f sg := fun f q1 q2 q3 q4 q5 => hQ f sg ⟨q1, q2, q3, q4, q5, htg, (thc.keeps kcf).ofPut ntg etg (by omega), (hcc.keeps kcf).ofPut ntg etg (by omega), ksc.trans ((kcf.weaken (by have := ksc.next; omega)).trans ⟨by omega, fun j hj => etg j (by omega)⟩), by omega⟩
  rw [eKo] at fx
  cases hp : b1.isSome
  ·simp -implicitDefEqProofs (disch := omega) only [allW, allR, Nat.reduceLT, Nat.reduceEqDiff, ↓reduceIte, undef, hn]
   exact fx _ (by simp only [zf, hn]) (by simp only [za, ↓reduceIte, Nat.reduceEqDiff, h0]) (by simp only [za, ↓reduceIte, Nat.reduceEqDiff]) (by simp only [za, ↓reduceIte, Nat.reduceEqDiff]) (by rw [hp]; simp only [za, ↓reduceIte]; rfl)
  ·simp -implicitDefEqProofs (disch := omega) only [allW, allR, Nat.reduceLT, Nat.reduceEqDiff, ↓reduceIte, undef, hn]
   exact fx _ (by simp only [zf, hn]) (by simp only [za, ↓reduceIte, Nat.reduceEqDiff, h0]) (by simp only [za, ↓reduceIte, Nat.reduceEqDiff]) (by simp only [za, ↓reduceIte, Nat.reduceEqDiff]) (by rw [hp]; simp only [za, ↓reduceIte]; rfl)
 clear hn h0 h1 h2 h3 ht8 ht9 lm8 tPc thc hcc hc9 th9 ha9 htc htb hoa hoc lk f
 rintro f t ⟨hn, h0, h7, h8, h9, tP, th, hc, kst, nst⟩
 have hM2 : (lfM D.items mine).length = 4 := wb
 have hK2 : (lfK D.items mine).length = 4 := jp
 have hPt : (pgC (lfM D.items mine) (lfK D.items mine) 0 zG n c3).length = 20 := jq hM2 hK2 rfl hl3
 have nt := kst.next
 have hat := ha.lows.keeps kst
 simp -implicitDefEqProofs (disch := omega) only [allW, allR, zc, Nat.reduceLT, ↓reduceIte, hn, h7, zd.loadO th hal]
 refine (wX _ t ca mine hat hsa kRot).mono ?_
 rintro _ t1 ⟨c1, rfl, ho1, k1⟩
 have m1 := k1.next
 have hl1 := ho1.len
 simp -implicitDefEqProofs (disch := omega) only [allW, Nat.reduceLT, ↓reduceIte, hn, zO, plO]
 refine ze ?_
 intro t2 ht2' hst2' hnx2'
 simp -implicitDefEqProofs (disch := omega) only [allW, Nat.reduceLT, Nat.reduceEqDiff, ↓reduceIte, hn, hd6]
 refine zi szO (by decide) ht2' rfl rfl hl1 ho1.ok ?_
 intro t3 ht3' nt3 et3
 have ht3' : zd t3 t1.next c1 := ht3'
 have k03 : Stay t.next t t3 := (k1.trans (hst2'.weaken m1)).trans ⟨by omega, fun j hj => et3 j (by omega)⟩
 have n03 := k03.next
 have hor : OIs (fun j => t.next ≤ j ∧ j < t1.next) t3 c1 (getO mine kRot) := (ho1.lows.keeps hst2').ofPut nt3 et3 (by omega)
 have lkr : zg Try.prog t3 3 (.pointer (some ⟨t1.next, 0, some 6⟩)) = some (.int .i64 (getO mine kRot).kind) := by
  rw [ht3'.load (P := Try.prog) zT (off := 0) (c := 6) (by rw [hl1]) (by omega), hor.kindC.1]
 have ks3 : Stay s.next s t3 := kst.trans (k03.weaken nt)
 have tP3 := tP.keeps k03
 have th3 := th.keeps k03
 have hc3' := hc.keeps k03
 simp -implicitDefEqProofs (disch := omega) only [allW, allR, Nat.reduceLT, ↓reduceIte, undef, hn, of0, lkr]
 refine qq (fun f t => f.n = 133 ∧ f.get 0 = .pointer (some ⟨w, 0, some 13⟩) ∧ f.get 7 = .pointer (some ⟨s1.next, 0, some 6⟩) ∧ f.get 8 = .pointer (some ⟨s3.next, 0, some 21⟩) ∧ f.get 9 = .bool ((b1.isSome && lfKo D.items mine) && (wu D.items (getO mine kRot)).2) ∧ zd t s3.next (pgC (lfM D.items mine) (lfK D.items mine) (lfT D.items mine) zG n c3) ∧ zd t s1.next ca ∧ OIs (fun j => s2.next ≤ j ∧ j < s3.next) t c3 o ∧ Stay s.next s t ∧ s5.next ≤ t.next) ?_ ?_
 ·intro Q hQ
  by_cases c0 : (getO mine kRot).kind = 0
  ·have e1 : wu D.items (getO mine kRot) = (0, true) := by unfold wu; rw [if_pos c0]
   have e2 : lfT D.items mine = 0 := by unfold lfT; rw [e1]
   simp -implicitDefEqProofs (disch := omega) only [allW, c0, not_true]
   exact hQ _ _ ⟨by simp only [zf, hn], by simp only [za, ↓reduceIte, Nat.reduceEqDiff, h0], by simp only [za, ↓reduceIte, Nat.reduceEqDiff, h7], by simp only [za, ↓reduceIte, Nat.reduceEqDiff, h8], by rw [e1]; simp only [za, ↓reduceIte, Nat.reduceEqDiff, h9, Bool.and_true], by rw [e2]; exact tP3, th3, hc3', ks3, by omega⟩
  simp -implicitDefEqProofs (disch := omega) only [allW, eq_true c0]
  obtain ⟨C, hC⟩ : ∃ B : Nat -> Bool, B = fun j => decide (j < t3.next) := ⟨_, rfl⟩
  have hCl : ∀ j, C j = true -> j < t3.next := by
   intro j h
   rw [hC] at h
   exact of_decide_eq_true h
  have hCo : ∀ j, j < t3.next -> C j = true := fun j h => by rw [hC]; exact decide_eq_true h
  refine LB.Drawn.looseK C hCl 0 0 (by kernel_rfl) (by kernel_rfl) ?_
  have hsr := Stay.spare t3 0
  have hnr : (spare t3 0).next = t3.next + 0 := zH _ _
  have hW3 := hW.keeps ks3
  have ml3 : ∀ k, LA.lowV C (some (.pointer (some ⟨w, k, some 13⟩))) = true := fun k => LA.lowV_ptr (A := C) (i := w) (hCo _ hW3.thing.lt)
  have ml4 : ∀ k, LA.lowV C (some (.pointer (some ⟨t1.next, k, some 6⟩))) = true := fun k => LA.lowV_ptr (A := C) (i := t1.next) (hCo _ ht3'.lt)
  simp -implicitDefEqProofs (disch := omega) only [allW, allR, allL, allB, Nat.reduceSub, zc, Nat.reduceLT, Nat.reduceEqDiff, ↓reduceIte, hn, h0, rm0, Zg (hW3.thing.keeps hsr) htl, zd.loadO (ht3'.keeps hsr) hl1, ml3, ml4, hW3.doc.self, hor.self]
  refine (Yg (zY w m lv) (spare t3 0) D mv tc iv ic (hW3.doc.keeps hsr) hs c1 _ ((hor.keeps hsr).mono fun j h => hfr j (by omega)) (yv mine kRot hsa)).mono ?_
  rintro _ t4 ⟨c4, rfl, ho4, k4⟩
  have m4 := k4.next
  have hl4 := ho4.len
  refine ⟨fun h => h.elim, ?_⟩
  have k34 : Stay t3.next t3 t4 := hsr.trans (k4.weaken (by omega))
  try simp -implicitDefEqProofs (disch := omega) only [allW, allR, allL, allB, Nat.sub_self, Nat.add_one_sub_one, Nat.reduceSub, zh, zc, zn, optA, Nat.reduceLT, Nat.reduceLeDiff, Nat.reduceEqDiff, Nat.reduceAdd, ↓reduceIte, hn, h0, h7, h8, h9, ho4.self]
  refine LB.sstep_storeAll szO (by decide) (ht3'.keeps k34) hl1 rfl (by simpa using hl4) ho4.ok (fun h => absurd rfl h) ?_
  intro t5 ht5' nt5 et5
  have ht5' : zd t5 t1.next c4 := ht5'
  obtain ⟨x, hx⟩ : ∃ x, x = resD D.items (getO mine kRot) := ⟨_, rfl⟩
  have e1 : wu D.items (getO mine kRot) = ((x.num.tmod 360 + 360).tmod 360, decide (x.kind = 2 ∧ x.num.tmod 90 = 0)) := by unfold wu; rw [if_neg c0, hx]
  have e2 : lfT D.items mine = (x.num.tmod 360 + 360).tmod 360 := by unfold lfT; rw [e1]
  rw [← hx] at ho4
  have lk5 : zg Try.prog t5 3 (.pointer (some ⟨t1.next, 0, some 6⟩)) = some (.int .i64 x.kind) := by
   rw [ht5'.load (P := Try.prog) zT (off := 0) (c := 6) (by rw [hl4]) (by omega), ho4.kindC.1]
  have ln5 : zg Try.prog t5 2 (.pointer (some ⟨t1.next, 1, some 6⟩)) = some (.int .i64 x.num) := by
   rw [ht5'.load (P := Try.prog) wH (off := 1) (c := 6) (by rw [hl4]) (by omega), ho4.kindC.2]
  have tP5 : zd t5 s3.next (pgC (lfM D.items mine) (lfK D.items mine) 0 zG n c3) := (tP3.keeps k34).ofPut nt5 et5 (by omega)
  have k45 : Stay t1.next t3 t5 := (k34.weaken (by omega)).trans ⟨by omega, fun j hj => et5 j (by omega)⟩
  have th5 : zd t5 s1.next ca := (th3.keeps k34).ofPut nt5 et5 (by omega)
  have hc5 : OIs (fun j => s2.next ≤ j ∧ j < s3.next) t5 c3 o := (hc3'.keeps k34).ofPut nt5 et5 (by omega)
  have ks5' : Stay s.next s t5 := ks3.trans (k45.weaken (by omega))
  have fx : ∀ (f : AFr) (u : ASt), f.n = 133 -> f.get 0 = .pointer (some ⟨w, 0, some 13⟩) -> f.get 7 = .pointer (some ⟨s1.next, 0, some 6⟩) -> f.get 8 = .pointer (some ⟨s3.next, 0, some 21⟩) -> f.get 9 = .bool ((b1.isSome && lfKo D.items mine) && decide (x.kind = 2 ∧ x.num.tmod 90 = 0)) -> zd u s3.next (pgC (lfM D.items mine) (lfK D.items mine) ((x.num.tmod 360 + 360).tmod 360) zG n c3) -> u.next = t5.next -> (∀ q, q ≠ s3.next -> u.heap.get q = t5.heap.get q) -> Q .normal f u := fun f u q1 q2 q3 q4 q5 q6 q7 q8 => hQ f u ⟨q1, q2, q3, q4, by rw [e1]; exact q5, by rw [e2]; exact q6, th5.ofPut q7 q8 (by omega), hc5.ofPut q7 q8 (by omega), ks5'.trans ⟨by omega, fun j hj => q8 j (by omega)⟩, by omega⟩
  cases hp : (b1.isSome && lfKo D.items mine)
  ·rw [hp] at h9
   simp -implicitDefEqProofs (disch := omega) only [allW, allR, allB, Nat.reduceSub, Nat.reduceLT, Nat.reduceEqDiff, ↓reduceIte, allW, allR, Nat.reduceLT, Nat.reduceEqDiff, ↓reduceIte, undef, hn, h8, h9, rp0, rl2, of1, ln5, kY, Ze]
   refine yF yP tP5 (off := 8) (c := 21) (by rw [hPt]) (by rw [hPt]; decide) (v := .int .i64 ((x.num.tmod 360 + 360).tmod 360)) rfl ?_
   intro t6 ht6' nt6 et6
   rw [WB hM2 hK2 rfl] at ht6'
   simp -implicitDefEqProofs (disch := omega) only [allW]
   exact fx _ t6 (by simp only [zf, hn]) (by simp only [za, ↓reduceIte, Nat.reduceEqDiff, h0]) (by simp only [za, ↓reduceIte, Nat.reduceEqDiff, h7]) (by simp only [za, ↓reduceIte, Nat.reduceEqDiff, h8]) (by rw [hp]; simp only [za, ↓reduceIte, Nat.reduceEqDiff]; rfl) ht6' nt6 et6
  rw [hp] at h9
  by_cases c2 : x.kind = 2
  ·simp -implicitDefEqProofs (disch := omega) only [allW, allR, allB, Nat.reduceSub, Nat.reduceLT, Nat.reduceEqDiff, ↓reduceIte, allW, allR, Nat.reduceLT, Nat.reduceEqDiff, ↓reduceIte, undef, hn, h8, h9, rp0, rl2, of0, of1, lk5, ln5, c2, kY, Ze]
   refine yF yP tP5 (off := 8) (c := 21) (by rw [hPt]) (by rw [hPt]; decide) (v := .int .i64 ((x.num.tmod 360 + 360).tmod 360)) rfl ?_
   intro t6 ht6' nt6 et6
   rw [WB hM2 hK2 rfl] at ht6'
   simp -implicitDefEqProofs (disch := omega) only [allW]
   exact fx _ t6 (by simp only [zf, hn]) (by simp only [za, ↓reduceIte, Nat.reduceEqDiff, h0]) (by simp only [za, ↓reduceIte, Nat.reduceEqDiff, h7]) (by simp only [za, ↓reduceIte, Nat.reduceEqDiff, h8]) (by rw [hp]; simp only [za, ↓reduceIte, Nat.reduceEqDiff, c2, true_and, Bool.true_and]) ht6' nt6 et6
  ·simp -implicitDefEqProofs (disch := omega) only [allW, allR, allB, Nat.reduceSub, Nat.reduceLT, Nat.reduceEqDiff, ↓reduceIte, allW, allR, Nat.reduceLT, Nat.reduceEqDiff, ↓reduceIte, undef, hn, h8, h9, rp0, rl2, of0, of1, lk5, ln5, eq_false c2, kY, Ze]
   refine yF yP tP5 (off := 8) (c := 21) (by rw [hPt]) (by rw [hPt]; decide) (v := .int .i64 ((x.num.tmod 360 + 360).tmod 360)) rfl ?_
   intro t6 ht6' nt6 et6
   rw [WB hM2 hK2 rfl] at ht6'
   simp -implicitDefEqProofs (disch := omega) only [allW]
   exact fx _ t6 (by simp only [zf, hn]) (by simp only [za, ↓reduceIte, Nat.reduceEqDiff, h0]) (by simp only [za, ↓reduceIte, Nat.reduceEqDiff, h7]) (by simp only [za, ↓reduceIte, Nat.reduceEqDiff, h8]) (by rw [hp]; simp only [za, ↓reduceIte, Nat.reduceEqDiff, eq_false c2, false_and, decide_false, Bool.true_and]) ht6' nt6 et6
 clear hn h0 h7 h8 h9 ht3' ht2' hor lkr tP3 th3 hc3' tP th hc hat nt nst kst hB hBl hBo ml1 ml2 f
 rintro f u ⟨hn, h0, h7, h8, h9, tP, th, hc, kst, nst⟩
 have hPt : (pgC (lfM D.items mine) (lfK D.items mine) (lfT D.items mine) zG n c3).length = 20 := jq hM2 hK2 rfl hl3
 have nt := kst.next
 have hau := ha.lows.keeps kst
 simp -implicitDefEqProofs (disch := omega) only [allW, allR, zc, Nat.reduceLT, ↓reduceIte, hn, h7, zd.loadO th hal]
 refine (wX _ u ca mine hau hsa kRes).mono ?_
 rintro _ u1 ⟨c1', rfl, ho1', k1'⟩
 have m1' := k1'.next
 have hl1' := ho1'.len
 simp -implicitDefEqProofs (disch := omega) only [allW, Nat.reduceLT, ↓reduceIte, hn, zO, plO]
 refine ze ?_
 intro u2 hu2 kst2 nx2
 simp -implicitDefEqProofs (disch := omega) only [allW, Nat.reduceLT, Nat.reduceEqDiff, ↓reduceIte, hn, hd6]
 refine zi szO (by decide) hu2 rfl rfl hl1' ho1'.ok ?_
 intro u3 hu3 nu3 eu3
 have hu3 : zd u3 u1.next c1' := hu3
 have k03 : Stay u.next u u3 := (k1'.trans (kst2.weaken m1')).trans ⟨by omega, fun j hj => eu3 j (by omega)⟩
 have n03 := k03.next
 have hor : OIs (fun j => u.next ≤ j ∧ j < u1.next) u3 c1' (getO mine kRes) := (ho1'.lows.keeps kst2).ofPut nu3 eu3 (by omega)
 have ks3 : Stay s.next s u3 := kst.trans (k03.weaken nt)
 have tP3 := tP.keeps k03
 have hc3' := hc.keeps k03
 have hW3 := hW.keeps ks3
 simp -implicitDefEqProofs (disch := omega) only [allW]
 obtain ⟨C, hC⟩ : ∃ B : Nat -> Bool, B = fun j => decide (j < u3.next) := ⟨_, rfl⟩
 have hCl : ∀ j, C j = true -> j < u3.next := by
  intro j h
  rw [hC] at h
  exact of_decide_eq_true h
 have hCo : ∀ j, j < u3.next -> C j = true := fun j h => by rw [hC]; exact decide_eq_true h
 refine LB.Drawn.looseK C hCl 0 0 (by kernel_rfl) (by kernel_rfl) ?_
 have hsr := Stay.spare u3 0
 have hnr : (spare u3 0).next = u3.next + 0 := zH _ _
 have ml3 : ∀ k, LA.lowV C (some (.pointer (some ⟨w, k, some 13⟩))) = true := fun k => LA.lowV_ptr (A := C) (i := w) (hCo _ hW3.thing.lt)
 have ml4 : ∀ k, LA.lowV C (some (.pointer (some ⟨u1.next, k, some 6⟩))) = true := fun k => LA.lowV_ptr (A := C) (i := u1.next) (hCo _ hu3.lt)
 simp -implicitDefEqProofs (disch := omega) only [allW, allR, allL, allB, Nat.reduceSub, zc, Nat.reduceLT, Nat.reduceEqDiff, ↓reduceIte, hn, h0, h8, rm0, Zg (hW3.thing.keeps hsr) htl, zd.loadO (hu3.keeps hsr) hl1', ml3, ml4, hW3.doc.self, hor.self]
 refine (Yg (fun j => zY w m lv j ∧ j ≠ s3.next) (spare u3 0) D mv tc iv ic (((hW.doc.lows.keeps ks3).keeps hsr).mono fun j h => ⟨h.1, by have := h.2; omega⟩) hs c1' _ ((hor.keeps hsr).mono fun j h => ⟨hfr j (by omega), by omega⟩) (yv mine kRes hsa)).mono ?_
 rintro _ u4 ⟨rc, rfl, ho4, k4⟩
 have m4 := k4.next
 have hl4 := ho4.len
 refine ⟨fun h => h.elim, ?_⟩
 have k34 : Stay u3.next u3 u4 := hsr.trans (k4.weaken (by omega))
 have eR : resD D.items (getO mine kRes) = lfR D.items mine := rfl
 rw [eR] at ho4
 simp -implicitDefEqProofs (disch := omega) only [allW, allL, allB, Nat.reduceLT, Nat.reduceEqDiff, ↓reduceIte, hn, rp0, rl3]
 refine LB.sstep_storeN szO (by decide) (tP3.keeps k34) (off := 9) (c := 21) (by rw [hPt]) (vs := rc) (by rw [yU]) hl4 (by rw [hPt]; decide) ho4.ok (fun h => absurd rfl h) ?_
 intro u5 hu5 nu5 eu5
 rw [aaw hM2 hK2 rfl hl4] at hu5
 have hP5 : (pgC (lfM D.items mine) (lfK D.items mine) (lfT D.items mine) rc n c3).length = 20 := jq hM2 hK2 hl4 hl3
 have hr5 : OIs (zY w m lv) u5 rc (lfR D.items mine) := (ho4.ofPut nu5 eu5 (fun h => h.elim (fun h => h.2 rfl) (fun (h : _ ≤ _) => by omega))).mono fun j h => h.elim (fun h => h.1) (fun (h : _ ≤ j) => hfr j (by omega))
 have hx5 : zd u5 u1.next c1' := (hu3.keeps k34).ofPut nu5 eu5 (by omega)
 have hor5 := (hor.keeps k34).ofPut nu5 eu5 (by omega)
 have hc5 : OIs (fun j => s2.next ≤ j ∧ j < s3.next) u5 c3 o := (hc3'.keeps k34).ofPut nu5 eu5 (by omega)
 have ks5 : Stay s.next s u5 := ks3.trans ((k34.weaken (by omega)).trans ⟨by omega, fun j hj => eu5 j (by omega)⟩)
 have hW5 := hW.keeps ks5
 have lk1 : zg Try.prog u5 3 (.pointer (some ⟨u1.next, 0, some 6⟩)) = some (.int .i64 (getO mine kRes).kind) := by
  rw [hx5.load (P := Try.prog) zT (off := 0) (c := 6) (by rw [hl1']) (by omega), hor5.kindC.1]
 have lk2 : zg Try.prog u5 3 (.pointer (some ⟨s3.next, 9, some 21⟩)) = some (.int .i64 (lfR D.items mine).kind) := by
  rw [hu5.load (P := Try.prog) zT (off := 9) (c := 21) (by rw [hP5]) (by rw [hP5]; decide), pg_res hM2 hK2 hl4, hr5.kindC.1]
 have eok : lfOk D.items mine = (((b1.isSome && lfKo D.items mine) && (wu D.items (getO mine kRot)).2) && (decide ((getO mine kRes).kind = 0) || decide ((lfR D.items mine).kind = 7))) := by unfold lfOk; rw [← hb1, Bool.and_assoc, Bool.and_assoc]
 have eL := KV D.items n o mine
 obtain ⟨q, hq⟩ : ∃ q, q = ((b1.isSome && lfKo D.items mine) && (wu D.items (getO mine kRot)).2) := ⟨_, rfl⟩
 rw [← hq] at h9 eok
 obtain ⟨lc, hO5, hR5⟩ := hW5.pages
 have bad : ∀ (e : Nat) (f : AFr) (u6 : ASt), f.n = 133 -> zd u6 w ((rwC D mv tc iv m 0 lv).set 11 (.int .i64 (e : Nat))) -> u6.next = u5.next -> (∀ j, j ≠ w -> u6.heap.get j = u5.heap.get j) -> xv D.items n o mine W = (W, e) -> wfn Try.prog (Try.f57).results.toList (Qc z s w D mv tc iv ic m lv (xv D.items n o mine W)) .ret f u6 := by
  intro e f u6 hn hT hn6 he6 hpd
  rw [KZ htl] at hT
  obtain ⟨p1, p2⟩ := PwIs.bad (X' := rwC D mv tc iv m e) hW5 hT hn6 he6
  simp -implicitDefEqProofs (disch := omega) only [allW, zj, zh, Try.results57]
  rw [hpd]
  exact ⟨lv, p1, (WTo.ofStay ks5).trans p2⟩
 have e4 : lfOk D.items mine = false -> xv D.items n o mine W = (W, 4) := fun h => by unfold xv; rw [eL, h]; rfl
 cases hqb : q
 ·rw [hqb] at h9 eok
  have eok : lfOk D.items mine = false := eok
  simp -implicitDefEqProofs (disch := omega) only [allW, allR, allB, Nat.reduceSub, Nat.reduceLT, Nat.reduceEqDiff, ↓reduceIte, allW, allR, Nat.reduceLT, Nat.reduceEqDiff, ↓reduceIte, undef, h0, h9, hn, rm3]
  refine yF yP hW5.thing (off := 11) (c := 13) (by rw [yo htl]) (by rw [yo htl]; decide) (v := .int .i64 4) rfl ?_
  intro u6 hu6 nu6 eu6
  simp -implicitDefEqProofs (disch := omega) only [allW]
  exact bad 4 _ u6 (by simp only [zf, hn]) hu6 nu6 eu6 (e4 eok)
 rw [hqb] at h9 eok
 by_cases c0 : (getO mine kRes).kind = 0
 ·have eok : lfOk D.items mine = true := by rw [eok, c0]; rfl
  rw [eok, if_pos rfl] at eL
  by_cases hlen : W.pages.length ≥ 1000
  ·have e : xv D.items n o mine W = (W, 7) := by unfold xv; rw [eL]; simp only; rw [if_pos hlen]
   have d1 : ((W.pages.length : Nat) : Int) ≥ 1000 := by omega
   simp -implicitDefEqProofs (disch := omega) only [allW, allR, allB, Nat.reduceSub, zc, Nat.reduceLT, Nat.reduceEqDiff, ↓reduceIte, allW, allR, zc, Nat.reduceLT, Nat.reduceEqDiff, ↓reduceIte, undef, hn, h9, of0, lk1, c0, h0, not_true, rm2, rm3, vS hW5.thing htl, hO5.sees.lenA Try.underlying44, eq_true d1]
   refine yF yP hW5.thing (off := 11) (c := 13) (by rw [yo htl]) (by rw [yo htl]; decide) (v := .int .i64 7) rfl ?_
   intro u6 hu6 nu6 eu6
   simp -implicitDefEqProofs (disch := omega) only [allW]
   exact bad 7 _ u6 (by simp only [zf, hn]) hu6 nu6 eu6 e
  obtain ⟨p, hp⟩ : ∃ p : PgO, p = ⟨lfM D.items mine, lfK D.items mine, lfT D.items mine, lfR D.items mine, n, o⟩ := ⟨_, rfl⟩
  rw [← hp] at eL
  have e : xv D.items n o mine W = (⟨W.seen, W.pages ++ [p]⟩, 0) := by unfold xv; rw [eL]; simp only; rw [if_neg hlen]
  rw [e]
  have d1 : ¬ ((W.pages.length : Nat) : Int) ≥ 1000 := by omega
  simp -implicitDefEqProofs (disch := omega) only [allW, allR, allB, Nat.reduceSub, zc, Nat.reduceLT, Nat.reduceEqDiff, ↓reduceIte, allW, allR, zc, Nat.reduceLT, Nat.reduceEqDiff, ↓reduceIte, undef, hn, h9, of0, lk1, c0, h0, not_true, rm2, vS hW5.thing htl, hO5.sees.lenA Try.underlying44, eq_false d1]
  obtain ⟨E, hE⟩ : ∃ B : Nat -> Bool, B = fun j => decide (j < u5.next) := ⟨_, rfl⟩
  have hEl : ∀ j, E j = true -> j < u5.next := by
   intro j h
   rw [hE] at h
   exact of_decide_eq_true h
  have hEo : ∀ j, j < u5.next -> E j = true := fun j h => by rw [hE]; exact decide_eq_true h
  refine LB.Drawn.looseK E hEl 0 1 (by kernel_rfl) (by kernel_rfl) ?_
  have hss := Stay.spare u5 1
  have hns : (spare u5 1).next = u5.next + 1 := zH _ _
  have ml5 : ∀ k, LA.lowV E (some (.pointer (some ⟨w, k, some 13⟩))) = true := fun k => LA.lowV_ptr (A := E) (i := w) (hEo _ hW5.thing.lt)
  have ml6 : ∀ k, LA.lowV E (some (.pointer (some ⟨s3.next, k, some 21⟩))) = true := fun k => LA.lowV_ptr (A := E) (i := s3.next) (hEo _ hu5.lt)
  have lPg : zg Try.prog (spare u5 1) 52 (.pointer (some ⟨s3.next, 0, some 21⟩)) = some (.agg (pgC (lfM D.items mine) (lfK D.items mine) (lfT D.items mine) rc n c3).toArray) := zd.loadAll agRp (by rw [hP5]; exact szRp) (hu5.keeps hss) (by rw [hP5])
  obtain ⟨PC, hPC⟩ : ∃ PC, PC = pgC (lfM D.items mine) (lfK D.items mine) (lfT D.items mine) rc n c3 := ⟨_, rfl⟩
  have hPCok : PC.all okCell = true := by rw [hPC]; exact Ub ho4.ok ho3.ok
  have hPCs : zD (.agg PC.toArray) (.agg PC.toArray) = true := by rw [hPC]; exact WC ho4.self ho3.self
  have hPCl : PC.length = 20 := by rw [hPC]; exact hP5
  rw [← hPC] at lPg
  simp -implicitDefEqProofs (disch := omega) only [allW, allL, allB, zn, Nat.reduceLT, Nat.reduceEqDiff, ↓reduceIte, hn, h0, h8, rm2, vS (hW5.thing.keeps hss) htl, lPg, ml5, ml6, hO5.sees.self, hPCs, yS (cs := PC.toArray) Try.underlying44 szRp zRp plPg rfl hPCl (by decide)]
  refine LB.smake_newSlice (base := u5.next) hPCl (by omega) (Nat.le_refl _) ?_
  intro bs u6 hbs hid k6 hnx6 hot6
  have k56 : Stay u5.next u5 u6 := hss.trans k6
  have n56 := k56.next
  have hW6 := hW5.keeps k56
  simp -implicitDefEqProofs (disch := omega) only [allW, allB, zc, Nat.reduceLT, Nat.reduceEqDiff, ↓reduceIte, hn]
  refine LB.sstep_append Try.underlying44 Try.underlying44 (.inl ⟨_, rfl⟩) szRp byRp zRp rfl (hO5.keeps k56) hbs.sees.src hPCl (by decide) hPCok (by omega) (by omega) (base := 0) (fun _ _ => Nat.zero_le _) (Nat.zero_le _) (fun h => absurd rfl h) (fun j hj => by have := hEl j hj; omega) ?_
  intro lv' u7 hO7 _ hut hor7
  simp -implicitDefEqProofs (disch := omega) only [allW, allL, allB, Nat.reduceSub, Nat.reduceLT, Nat.reduceEqDiff, ↓reduceIte, hn, rm2]
  refine LB.sstep_storeN szRs (by decide) (hW6.thing.turns hut hW.lw) (off := 10) (c := 13) (by rw [yo htl]) (vs := [lv']) hO7.sees.cell1 rfl (by rw [yo htl]; decide) (by simp [hO7.sees.okCell]) (fun h => absurd rfl h) ?_
  intro u8 hu8 nu8 eu8
  rw [UQ htl] at hu8
  have hpg : PgIs (zY w m lv) u6 PC p := by
   refine ⟨rc, c3, ?_, by rw [hp]; exact wb, by rw [hp]; exact jp, ?_, ?_⟩
   ·rw [hPC, hp]; simp [pgC, lfC]
   ·rw [hp]; exact hr5.keeps k56
   ·rw [hp]; exact (hc5.keeps k56).mono (fun j hj => hfr j (by omega))
  obtain ⟨q1, q2⟩ := PwIs.push hW6 (zt.keeps wW hR5 k56) hpg (by rw [hp]; exact ⟨xG hs.items (yv mine kRes hsa), hso⟩) hO7 hut hor7 hu8 nu8 eu8
  simp -implicitDefEqProofs (disch := omega) only [allW, allB, Nat.reduceSub, zh, allW, zh, allW, zP, zh, Try.results57]
  exact ⟨lv', q1, (WTo.ofStay (ks5.trans (k56.weaken (by have := ks5.next; omega)))).trans q2⟩
 by_cases c7 : (lfR D.items mine).kind = 7
 ·have eok : lfOk D.items mine = true := by rw [eok, c7, decide_eq_false c0]; rfl
  rw [eok, if_pos rfl] at eL
  by_cases hlen : W.pages.length ≥ 1000
  ·have e : xv D.items n o mine W = (W, 7) := by unfold xv; rw [eL]; simp only; rw [if_pos hlen]
   have d1 : ((W.pages.length : Nat) : Int) ≥ 1000 := by omega
   simp -implicitDefEqProofs (disch := omega) only [allW, allR, allB, Nat.reduceSub, zc, Nat.reduceLT, Nat.reduceEqDiff, Nat.reduceAdd, ↓reduceIte, allW, allR, zc, Nat.reduceLT, Nat.reduceEqDiff, Nat.reduceAdd, ↓reduceIte, undef, hn, h0, h8, h9, rp0, rl3, of0, lk1, lk2, eq_true c0, c7, not_true, rm2, rm3, vS hW5.thing htl, hO5.sees.lenA Try.underlying44, eq_true d1]
   refine yF yP hW5.thing (off := 11) (c := 13) (by rw [yo htl]) (by rw [yo htl]; decide) (v := .int .i64 7) rfl ?_
   intro u6 hu6 nu6 eu6
   simp -implicitDefEqProofs (disch := omega) only [allW]
   exact bad 7 _ u6 (by simp only [zf, hn]) hu6 nu6 eu6 e
  obtain ⟨p, hp⟩ : ∃ p : PgO, p = ⟨lfM D.items mine, lfK D.items mine, lfT D.items mine, lfR D.items mine, n, o⟩ := ⟨_, rfl⟩
  rw [← hp] at eL
  have e : xv D.items n o mine W = (⟨W.seen, W.pages ++ [p]⟩, 0) := by unfold xv; rw [eL]; simp only; rw [if_neg hlen]
  rw [e]
  have d1 : ¬ ((W.pages.length : Nat) : Int) ≥ 1000 := by omega
  simp -implicitDefEqProofs (disch := omega) only [allW, allR, allB, Nat.reduceSub, zc, Nat.reduceLT, Nat.reduceEqDiff, Nat.reduceAdd, ↓reduceIte, allW, allR, zc, Nat.reduceLT, Nat.reduceEqDiff, Nat.reduceAdd, ↓reduceIte, undef, hn, h0, h8, h9, rp0, rl3, of0, lk1, lk2, eq_true c0, c7, not_true, rm2, vS hW5.thing htl, hO5.sees.lenA Try.underlying44, eq_false d1]
  obtain ⟨E, hE⟩ : ∃ B : Nat -> Bool, B = fun j => decide (j < u5.next) := ⟨_, rfl⟩
  have hEl : ∀ j, E j = true -> j < u5.next := by
   intro j h
   rw [hE] at h
   exact of_decide_eq_true h
  have hEo : ∀ j, j < u5.next -> E j = true := fun j h => by rw [hE]; exact decide_eq_true h
  refine LB.Drawn.looseK E hEl 0 1 (by kernel_rfl) (by kernel_rfl) ?_
  have hss := Stay.spare u5 1
  have hns : (spare u5 1).next = u5.next + 1 := zH _ _
  have ml5 : ∀ k, LA.lowV E (some (.pointer (some ⟨w, k, some 13⟩))) = true := fun k => LA.lowV_ptr (A := E) (i := w) (hEo _ hW5.thing.lt)
  have ml6 : ∀ k, LA.lowV E (some (.pointer (some ⟨s3.next, k, some 21⟩))) = true := fun k => LA.lowV_ptr (A := E) (i := s3.next) (hEo _ hu5.lt)
  have lPg : zg Try.prog (spare u5 1) 52 (.pointer (some ⟨s3.next, 0, some 21⟩)) = some (.agg (pgC (lfM D.items mine) (lfK D.items mine) (lfT D.items mine) rc n c3).toArray) := zd.loadAll agRp (by rw [hP5]; exact szRp) (hu5.keeps hss) (by rw [hP5])
  obtain ⟨PC, hPC⟩ : ∃ PC, PC = pgC (lfM D.items mine) (lfK D.items mine) (lfT D.items mine) rc n c3 := ⟨_, rfl⟩
  have hPCok : PC.all okCell = true := by rw [hPC]; exact Ub ho4.ok ho3.ok
  have hPCs : zD (.agg PC.toArray) (.agg PC.toArray) = true := by rw [hPC]; exact WC ho4.self ho3.self
  have hPCl : PC.length = 20 := by rw [hPC]; exact hP5
  rw [← hPC] at lPg
  simp -implicitDefEqProofs (disch := omega) only [allW, allL, allB, zn, Nat.reduceLT, Nat.reduceEqDiff, ↓reduceIte, hn, h0, h8, rm2, vS (hW5.thing.keeps hss) htl, lPg, ml5, ml6, hO5.sees.self, hPCs, yS (cs := PC.toArray) Try.underlying44 szRp zRp plPg rfl hPCl (by decide)]
  refine LB.smake_newSlice (base := u5.next) hPCl (by omega) (Nat.le_refl _) ?_
  intro bs u6 hbs hid k6 hnx6 hot6
  have k56 : Stay u5.next u5 u6 := hss.trans k6
  have n56 := k56.next
  have hW6 := hW5.keeps k56
  simp -implicitDefEqProofs (disch := omega) only [allW, allB, zc, Nat.reduceLT, Nat.reduceEqDiff, ↓reduceIte, hn]
  refine LB.sstep_append Try.underlying44 Try.underlying44 (.inl ⟨_, rfl⟩) szRp byRp zRp rfl (hO5.keeps k56) hbs.sees.src hPCl (by decide) hPCok (by omega) (by omega) (base := 0) (fun _ _ => Nat.zero_le _) (Nat.zero_le _) (fun h => absurd rfl h) (fun j hj => by have := hEl j hj; omega) ?_
  intro lv' u7 hO7 _ hut hor7
  simp -implicitDefEqProofs (disch := omega) only [allW, allL, allB, Nat.reduceSub, Nat.reduceLT, Nat.reduceEqDiff, ↓reduceIte, hn, rm2]
  refine LB.sstep_storeN szRs (by decide) (hW6.thing.turns hut hW.lw) (off := 10) (c := 13) (by rw [yo htl]) (vs := [lv']) hO7.sees.cell1 rfl (by rw [yo htl]; decide) (by simp [hO7.sees.okCell]) (fun h => absurd rfl h) ?_
  intro u8 hu8 nu8 eu8
  rw [UQ htl] at hu8
  have hpg : PgIs (zY w m lv) u6 PC p := by
   refine ⟨rc, c3, ?_, by rw [hp]; exact wb, by rw [hp]; exact jp, ?_, ?_⟩
   ·rw [hPC, hp]; simp [pgC, lfC]
   ·rw [hp]; exact hr5.keeps k56
   ·rw [hp]; exact (hc5.keeps k56).mono (fun j hj => hfr j (by omega))
  obtain ⟨q1, q2⟩ := PwIs.push hW6 (zt.keeps wW hR5 k56) hpg (by rw [hp]; exact ⟨xG hs.items (yv mine kRes hsa), hso⟩) hO7 hut hor7 hu8 nu8 eu8
  simp -implicitDefEqProofs (disch := omega) only [allW, allB, Nat.reduceSub, zh, allW, zh, allW, zP, zh, Try.results57]
  exact ⟨lv', q1, (WTo.ofStay (ks5.trans (k56.weaken (by have := ks5.next; omega)))).trans q2⟩
 have eok : lfOk D.items mine = false := by rw [eok, decide_eq_false c0, decide_eq_false c7]; rfl
 simp -implicitDefEqProofs (disch := omega) only [allW, allR, allB, Nat.reduceSub, Nat.reduceLT, Nat.reduceEqDiff, Nat.reduceAdd, ↓reduceIte, allW, allR, Nat.reduceLT, Nat.reduceEqDiff, Nat.reduceAdd, ↓reduceIte, undef, hn, h0, h8, h9, rp0, rl3, of0, lk1, lk2, eq_true c0, eq_true c7, rm3]
 refine yF yP hW5.thing (off := 11) (c := 13) (by rw [yo htl]) (by rw [yo htl]; decide) (v := .int .i64 4) rfl ?_
 intro u6 hu6 nu6 eu6
 simp -implicitDefEqProofs (disch := omega) only [allW]
 exact bad 4 _ u6 (by simp only [zf, hn]) hu6 nu6 eu6 (e4 eok)
end Go.Proofs.Ytokfoagohblkoaa
