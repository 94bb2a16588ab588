import Derived.Test.YtokfoagohblkoaaPgA
set_option linter.unusedSimpArgs false
set_option linter.unusedVariables false
set_option maxRecDepth 100000
namespace Go.Cl
theorem arrAt {P : Program} {t e : TypeId} {m : Nat} (hu : P.underlying t = some (.array m e)) (hsz : sizeB P e = some 1) (i o c : Nat) {k : Nat} (hk : k < m) (kk : IntKind) :
    indexAddrA P t (.pointer (some ⟨i, o, some c⟩)) (.int kk (k : Nat)) = some (.pointer (some ⟨i, o + k, some c⟩)) := by
  have hb : Nat.blt k m = true := by simpa [Nat.blt_eq] using hk
  show indexAddrA P t _ (.int kk (Int.ofNat k)) = _
  unfold indexAddrA
  rw [hu]
  simp only [hsz, hb, if_true, Nat.mul_one]
def mixV (l : List Int) (k : Nat) : List Int := (List.range 4).map fun j => if j < k then l.getD j 0 else 0
theorem mixV_set (l : List Int) {k : Nat} (h : k < 4) : (i64V (mixV l k)).set k (.int .i64 (l.getD k 0)) = i64V (mixV l (k + 1)) := by
  have : k = 0 ∨ k = 1 ∨ k = 2 ∨ k = 3 := by omega
  rcases this with rfl | rfl | rfl | rfl <;> rfl
def boxV (o : Option (List Int)) : Value := .agg (i64V (o.getD [0, 0, 0, 0])).toArray
theorem boxD_no {D : List (Int × O)} {o : O} (h : ¬ ((resD D o).kind = 6 ∧ (resD D o).items.length = 4 ∧ (resD D o).items.all (okN D) = true)) : boxD D o = none := by unfold boxD; rw [if_neg h]
theorem boxD_yes {D : List (Int × O)} {o : O} (h1 : (resD D o).kind = 6) (h2 : (resD D o).items.length = 4) (h3 : ∀ i, i < 4 → okN D ((resD D o).items.getD i O.none) = true) : boxD D o = some (box4 ((resD D o).items.map (valN D))) := by
  unfold boxD
  rw [if_pos]
  refine ⟨h1, h2, ?_⟩
  rw [List.all_eq_true]
  intro x hx
  obtain ⟨i, hi, rfl⟩ := List.mem_iff_getElem.mp hx
  have := h3 i (by omega)
  simpa [List.getD, List.getElem?_eq_getElem hi] using this
end Go.Cl
namespace Go.Proofs.Ytokfoagohblkoaa
open Go.Cl Go.Lib
theorem szBx : sizeB Try.prog 37 = some 4 := by kernel_rfl
theorem agBx : isAggB Try.prog 37 = some true := by kernel_rfl
theorem zBx : zeroB Try.prog 37 = some (.agg #[.int .i64 0, .int .i64 0, .int .i64 0, .int .i64 0]) := by kernel_rfl
theorem b0Bx : buildA Try.prog 37 [] = some (.agg #[.int .i64 0, .int .i64 0, .int .i64 0, .int .i64 0]) := by kernel_rfl
theorem b4Bx (a b c d : Int) : buildA Try.prog 37 [(0, .int .i64 a), (1, .int .i64 b), (2, .int .i64 c), (3, .int .i64 d)] = some (.agg #[.int .i64 a, .int .i64 b, .int .i64 c, .int .i64 d]) := by
  unfold buildA; rw [Try.underlying37]
  have hz : zeroB Try.prog 37 = some (.agg #[.int .i64 0, .int .i64 0, .int .i64 0, .int .i64 0]) := by kernel_rfl
  rw [hz]
  have ci : ∀ k n, (Value.int k n).cells = #[.int k n] := fun _ _ => rfl
  simp [szI64, plainV, plain1, fillA, placeOf, cells_agg, setAt, ci]
theorem szRx : sizeB Try.prog 48 = some 4 := by kernel_rfl
theorem plBx : plainV (.agg #[.int .i64 0, .int .i64 0, .int .i64 0, .int .i64 0]) = true := rfl
theorem clBx : (Value.agg #[.int .i64 0, .int .i64 0, .int .i64 0, .int .i64 0]).cells.toList = [.int .i64 0, .int .i64 0, .int .i64 0, .int .i64 0] := rfl
def BoxR (s : ASt) (b : Option (List Int)) (v : Value) (s' : ASt) : Prop := v = .tuple #[boxV b, .bool b.isSome] ∧ Stay s.next s s'
set_option maxHeartbeats 16000000 in
theorem pboxF (F : Nat → Prop) (s : ASt) (D : Dc) (mv : Value) (tc : List Value) (iv : Value) (ic : List Value) (hD : DocIs F s mv tc iv ic D) (hs : SmallD D) (cs : List Value) (o : O) (ho : OIs F s cs o) (hso : Fit o) :
    Runs Try.prog libN 10 [.agg (docC D mv tc iv).toArray, .agg cs.toArray] s (BoxR s (boxD D.items o)) := by
  have htl := hD.trailer.len
  have hol := ho.len
  have dl := db_len (D := D) (mv := mv) (iv := iv) htl
  refine Runs.enter 68 Try.func10 rfl rfl rfl rfl ?_
  intro f hn hf
  have h0 : f.get 0 = .agg (docC D mv tc iv).toArray := hf 0
  have h1 : f.get 1 = .agg cs.toArray := hf 1
  clear hf
  simp (config := { maxSteps := 1000000, implicitDefEqProofs := false }) (disch := omega) only [allW, allR, oneOf, evalAll, partsA, optA, Nat.reduceLT, Nat.reduceLeDiff, Nat.reduceEqDiff, Nat.reduceAdd, ↓reduceIte, hn, h0, h1]
  refine wstep_newPtr ?_
  intro s1 ht1 hst1 hnx1
  have ht1 : Thing s1 s.next (docC D mv tc iv) := ht1
  simp (config := { maxSteps := 1000000, implicitDefEqProofs := false }) (disch := omega) only [allW, allR, oneOf, evalAll, partsA, optA, Nat.reduceLT, Nat.reduceLeDiff, Nat.reduceEqDiff, Nat.reduceAdd, ↓reduceIte, hn, h0, h1, dl]
  refine wstep_newPtr ?_
  intro s2 ht2 hst2 hnx2
  have ht2 : Thing s2 s1.next cs := ht2
  simp (config := { maxSteps := 1000000, implicitDefEqProofs := false }) (disch := omega) only [allW, allR, oneOf, evalAll, partsA, optA, Nat.reduceLT, Nat.reduceLeDiff, Nat.reduceEqDiff, Nat.reduceAdd, ↓reduceIte, hn, h0, h1, hol, zBx, plBx, clBx]
  refine wstep_newPtr ?_
  intro s3 ht3 hst3 hnx3
  have hd5 : [Value.int .i64 0, .int .i64 0, .int .i64 0, .int .i64 0].length + 1 = 5 := rfl
  have n1 := hst1.next
  have n2 := hst2.next
  have n3 := hst3.next
  have hs3 : Stay s.next s s3 := (hst1.trans (hst2.weaken n1)).trans (hst3.weaken (by omega))
  have ht13 := ht1.keeps (hst2.trans (hst3.weaken n2))
  have ht23 := ht2.keeps hst3
  simp (config := { maxSteps := 1000000, implicitDefEqProofs := false }) (disch := omega) only [allW, allR, oneOf, evalAll, partsA, optA, Nat.reduceLT, Nat.reduceLeDiff, Nat.reduceEqDiff, Nat.reduceAdd, ↓reduceIte, hn, h0, h1, hd5, db_all ht13 htl, Thing.loadO ht23 hol]
  refine (resolveF (lib := libN) rfl rfl rfl rfl rfl rfl rfl _ s3 D mv tc iv ic (hD.lows.keeps hs3) hs _ cs o (ho.lows.keeps hs3) hso).mono ?_
  rintro _ s4 ⟨c4, rfl, ho4, k4⟩
  have n4 := k4.next
  have hl4 := ho4.len
  have hsx := resD_fit hs.items hso
  simp (config := { maxSteps := 1000000, implicitDefEqProofs := false }) (disch := omega) only [allW, allR, oneOf, evalAll, partsA, optA, Nat.reduceLT, Nat.reduceLeDiff, Nat.reduceEqDiff, Nat.reduceAdd, ↓reduceIte, hn, h0, h1, zO, plO]
  refine wstep_newPtr ?_
  intro s5 ht5 hst5 hnx5
  have hd6 : noneC.length + 1 = 6 := rfl
  simp (config := { maxSteps := 1000000, implicitDefEqProofs := false }) (disch := omega) only [allW, allR, oneOf, evalAll, partsA, optA, Nat.reduceLT, Nat.reduceLeDiff, Nat.reduceEqDiff, Nat.reduceAdd, ↓reduceIte, hn, h0, h1, hd6]
  refine wstep_storeAll szO (by decide) ht5 rfl rfl hl4 ho4.ok ?_
  intro s6 ht6 nt6 et6
  have ht6 : Thing s6 s4.next c4 := ht6
  have n5 := hst5.next
  have ho6 : OIs (fun j => s3.next ≤ j ∧ j < s4.next) s6 c4 (resD D.items o) := (ho4.lows.keeps hst5).ofPut nt6 et6 (by omega)
  have k6 : Stay s4.next s4 s6 := hst5.trans ⟨by omega, fun j hj => et6 j (by omega)⟩
  have hs4 : Stay s.next s s4 := hs3.trans (k4.weaken (by omega))
  have ht14 := ht13.keeps k4
  have ht34 := ht3.keeps k4
  have hi44 := ht34.lt
  obtain ⟨X, hX⟩ : ∃ X, X = resD D.items o := ⟨_, rfl⟩
  rw [← hX] at ho6 hsx
  have lk : loadA Try.prog s6 3 (.pointer (some ⟨s4.next, 0, some 6⟩)) = some (.int .i64 X.kind) := by
    rw [ht6.load (P := Try.prog) agInt (off := 0) (c := 6) (by rw [hl4]) (by omega), ho6.kindC.1]
  have hfail : ∀ (f : AFr) (t : ASt), f.n = 68 → boxD D.items o = none → Stay s4.next s4 t → Thing t s2.next [.int .i64 0, .int .i64 0, .int .i64 0, .int .i64 0] → f.get 4 = .pointer (some ⟨s2.next, 0, some 5⟩) → f.get 5 = .bool false → wfn Try.prog (Try.f10).results.toList (BoxR s (boxD D.items o)) .ret f t := by
    intro f t hn hb hst ht h4 h5
    have lb : loadA Try.prog t 37 (.pointer (some ⟨s2.next, 0, some 5⟩)) = some (.agg #[.int .i64 0, .int .i64 0, .int .i64 0, .int .i64 0]) := Thing.loadAll (cs := [.int .i64 0, .int .i64 0, .int .i64 0, .int .i64 0]) agBx szBx ht (c := 5) rfl
    simp (config := { maxSteps := 1000000, implicitDefEqProofs := false }) (disch := omega) only [allW, allR, wfn_ret, wfn_normal, oneOf, evalAll, partsA, optA, Nat.reduceLT, Nat.reduceLeDiff, Nat.reduceEqDiff, Nat.reduceAdd, ↓reduceIte, hn, h4, h5, lb, resultsA_cell, Try.results10]
    rw [hb]
    exact ⟨rfl, hs4.trans (hst.weaken (by omega))⟩
  cases X with
  | mk k n b l d =>
  obtain ⟨bv, lv, dv, lc, dc, rfl, hbv, hlv, hdv, fb, fl, fd, rl, rd⟩ := ho6.parts
  have lk : loadA Try.prog s6 3 (.pointer (some ⟨s4.next, 0, some 6⟩)) = some (.int .i64 k) := lk
  have hsl : ∀ x ∈ l, Fit x := by cases hsx with | mk _ _ _ _ hL _ => exact hL
  have ll : loadA Try.prog s6 28 (.pointer (some ⟨s4.next, 3, some 6⟩)) = some lv := ht6.load agLs (off := 3) (c := 6) rfl (by simp)
  have ht36 : Thing s6 s2.next [.int .i64 0, .int .i64 0, .int .i64 0, .int .i64 0] := ht34.keeps k6
  have ht16 : Thing s6 s.next (docC D mv tc iv) := ht14.keeps k6
  have w4 : ∀ t, Stay s4.next s4 t → Stay s.next s t := fun t h => hs4.trans (h.weaken (by omega))
  by_cases c6 : k = 6
  rotate_left
  · have hb : boxD D.items o = none := boxD_no (fun h => c6 (by have := h.1; rw [← hX] at this; exact this))
    simp (config := { maxSteps := 1000000, implicitDefEqProofs := false }) (disch := omega) only [allW, allR, oneOf, evalAll, partsA, optA, Nat.reduceLT, Nat.reduceLeDiff, Nat.reduceEqDiff, Nat.reduceAdd, ↓reduceIte, undef, hn, h0, h1, of0, of3, lk, ll, eq_false c6, b0Bx]
    refine wstep_storeAll szBx (by decide) ht36 rfl rfl rfl rfl ?_
    intro s7 ht7 nt7 et7
    have lb : loadA Try.prog s7 37 (.pointer (some ⟨s2.next, 0, some 5⟩)) = some (.agg #[.int .i64 0, .int .i64 0, .int .i64 0, .int .i64 0]) := Thing.loadAll (cs := [.int .i64 0, .int .i64 0, .int .i64 0, .int .i64 0]) agBx szBx ht7 (c := 5) rfl
    simp (config := { maxSteps := 1000000, implicitDefEqProofs := false }) (disch := omega) only [allW, allR, wfn_ret, wfn_normal, oneOf, evalAll, partsA, optA, Nat.reduceLT, Nat.reduceLeDiff, Nat.reduceEqDiff, Nat.reduceAdd, ↓reduceIte, hn, lb, resultsA_cell, Try.results10]
    rw [hb]
    exact ⟨rfl, (w4 _ k6).trans ⟨by omega, fun j hj => et7 j (by omega)⟩⟩
  by_cases cl : l.length = 4
  rotate_left
  · have hb : boxD D.items o = none := boxD_no (fun h => cl (by have := h.2.1; rw [← hX] at this; exact this))
    have d1 : ¬ ((l.length : Nat) : Int) = 4 := by omega
    simp (config := { maxSteps := 1000000, implicitDefEqProofs := false }) (disch := omega) only [allW, allR, oneOf, evalAll, partsA, optA, Nat.reduceLT, Nat.reduceLeDiff, Nat.reduceEqDiff, Nat.reduceAdd, ↓reduceIte, undef, hn, h0, h1, of0, of3, lk, ll, c6, hlv.lenA Try.underlying28, eq_false d1, not_false_iff, decide_true, b0Bx]
    refine wstep_storeAll szBx (by decide) ht36 rfl rfl rfl rfl ?_
    intro s7 ht7 nt7 et7
    have lb : loadA Try.prog s7 37 (.pointer (some ⟨s2.next, 0, some 5⟩)) = some (.agg #[.int .i64 0, .int .i64 0, .int .i64 0, .int .i64 0]) := Thing.loadAll (cs := [.int .i64 0, .int .i64 0, .int .i64 0, .int .i64 0]) agBx szBx ht7 (c := 5) rfl
    simp (config := { maxSteps := 1000000, implicitDefEqProofs := false }) (disch := omega) only [allW, allR, wfn_ret, wfn_normal, oneOf, evalAll, partsA, optA, Nat.reduceLT, Nat.reduceLeDiff, Nat.reduceEqDiff, Nat.reduceAdd, ↓reduceIte, hn, lb, resultsA_cell, Try.results10]
    rw [hb]
    exact ⟨rfl, (w4 _ k6).trans ⟨by omega, fun j hj => et7 j (by omega)⟩⟩
  have d1 : ((l.length : Nat) : Int) = 4 := by omega
  simp (config := { maxSteps := 1000000, implicitDefEqProofs := false }) (disch := omega) only [allW, allR, oneOf, evalAll, partsA, optA, Nat.reduceLT, Nat.reduceLeDiff, Nat.reduceEqDiff, Nat.reduceAdd, ↓reduceIte, undef, hn, h0, h1, of0, of3, lk, ll, c6, hlv.lenA Try.underlying28, d1, zBx, plBx, clBx]
  refine wstep_newPtr ?_
  intro s7 ht7 hst7 hnx7
  have ht7 : Thing s7 s6.next [.int .i64 0, .int .i64 0, .int .i64 0, .int .i64 0] := ht7
  have n6 := k6.next
  have k7 : Stay s4.next s4 s7 := k6.trans (hst7.weaken (by omega))
  have ll7 : loadA Try.prog s7 28 (.pointer (some ⟨s4.next, 3, some 6⟩)) = some lv := (ht6.keeps hst7).load agLs (off := 3) (c := 6) rfl (by simp)
  have hlv7 := hlv.keeps hst7
  obtain ⟨vs, hvs⟩ : ∃ vs, vs = l.map (valN D.items) := ⟨_, rfl⟩
  have hvl : vs.length = 4 := by rw [hvs, List.length_map, cl]
  simp (config := { maxSteps := 1000000, implicitDefEqProofs := false }) (disch := omega) only [allW, allR, oneOf, evalAll, partsA, optA, Nat.reduceLT, Nat.reduceLeDiff, Nat.reduceEqDiff, Nat.reduceAdd, ↓reduceIte, undef, hn, h0, h1, hd5, of3, ll7, hlv7.lenA Try.underlying28, d1]
  refine Comes.loopOut (fun z f t => ∃ i : Nat, z = 4 - i ∧ i ≤ 4 ∧ (∀ j, j < i → okN D.items (l.getD j O.none) = true) ∧ Thing t s.next (docC D mv tc iv) ∧ Thing t s2.next [.int .i64 0, .int .i64 0, .int .i64 0, .int .i64 0] ∧ Thing t s6.next (i64V (mixV vs i)) ∧ Stay s6.next s6 t ∧ f.n = 68 ∧ f.get 2 = .pointer (some ⟨s.next, 0, some 10⟩) ∧ f.get 4 = .pointer (some ⟨s2.next, 0, some 5⟩) ∧ f.get 7 = .pointer (some ⟨s6.next, 0, some 5⟩) ∧ f.get 26 = lv ∧ f.get 27 = .int .i64 4 ∧ f.get 28 = .int .i64 (i : Nat))
    (fun z f t => (z = .exit 0 ∧ (∀ j, j < 4 → okN D.items (l.getD j O.none) = true) ∧ Thing t s2.next [.int .i64 0, .int .i64 0, .int .i64 0, .int .i64 0] ∧ Thing t s6.next (i64V (mixV vs 4)) ∧ Stay s4.next s4 t ∧ f.n = 68 ∧ f.get 4 = .pointer (some ⟨s2.next, 0, some 5⟩) ∧ f.get 7 = .pointer (some ⟨s6.next, 0, some 5⟩)) ∨ (z = .ret ∧ boxD D.items o = none ∧ Thing t s2.next [.int .i64 0, .int .i64 0, .int .i64 0, .int .i64 0] ∧ Stay s.next s t ∧ f.n = 68 ∧ f.get 4 = .pointer (some ⟨s2.next, 0, some 5⟩) ∧ f.get 5 = .bool false))
    ⟨0, rfl, by omega, fun j h => absurd h (Nat.not_lt_zero j), ht16.keeps hst7, ht36.keeps hst7, ht7, hst7, by simp only [get_put, n_put, ↓reduceIte, Nat.reduceEqDiff, hn], by simp only [get_put, n_put, ↓reduceIte, Nat.reduceEqDiff], by simp only [get_put, n_put, ↓reduceIte, Nat.reduceEqDiff], by simp only [get_put, n_put, ↓reduceIte, Nat.reduceEqDiff], by simp only [get_put, n_put, ↓reduceIte, Nat.reduceEqDiff], by simp only [get_put, n_put, ↓reduceIte, Nat.reduceEqDiff], by simp only [get_put, n_put, ↓reduceIte, Nat.reduceEqDiff]; rfl⟩ ?_ ?_
  · clear hn h0 h1 f
    rintro Q hQ z f t ⟨i, rfl, hi, hall, htd, htb, htx, hst, hn, h2, h4, h7, h26, h27, h28⟩
    have nt := hst.next
    have hxlt := htx.lt
    have k7t : Stay s4.next s4 t := k6.trans (hst.weaken (by omega))
    by_cases hlt : i < 4
    rotate_left
    · obtain rfl : i = 4 := by omega
      have d1 : ¬ ((4 : Nat) : Int) < 4 := by decide
      simp (config := { maxSteps := 1000000, implicitDefEqProofs := false }) (disch := omega) only [allW, allR, oneOf, evalAll, partsA, optA, Nat.reduceLT, Nat.reduceLeDiff, Nat.reduceEqDiff, Nat.reduceAdd, ↓reduceIte, hn, h2, h4, h7, h26, h27, h28, eq_false d1]
      exact hQ _ _ _ (.inl ⟨rfl, hall, htb, htx, k7t, by simp only [get_put, n_put, ↓reduceIte, Nat.reduceEqDiff, hn], by simp only [get_put, n_put, ↓reduceIte, Nat.reduceEqDiff, h4], by simp only [get_put, n_put, ↓reduceIte, Nat.reduceEqDiff, h7]⟩)
    have d1 : (i : Int) < 4 := by omega
    have hlt2 : i < l.length := by omega
    have hlvt := hlv.keeps hst
    have hix := hlvt.indexAddr (P := Try.prog) (k := .i64) (x := (i : Int)) Try.underlying28 szO (by omega) (by omega)
    rw [Int.toNat_natCast] at hix
    have hld := hlvt.loadAgg (P := Try.prog) agO szO hlt2
    have hoi := (rl.row i hlt2).keeps hst
    obtain ⟨xs, hxs⟩ : ∃ xs, xs = (lc.drop (i * 5)).take 5 := ⟨_, rfl⟩
    rw [← hxs] at hld hoi
    have hxl := hoi.len
    have hxo : l.getD i O.none = l[i] := by simp [List.getD, List.getElem?_eq_getElem hlt2]
    simp (config := { maxSteps := 1000000, implicitDefEqProofs := false }) (disch := omega) only [allW, allR, oneOf, evalAll, partsA, optA, Nat.reduceLT, Nat.reduceLeDiff, Nat.reduceEqDiff, Nat.reduceAdd, ↓reduceIte, hn, h2, h4, h7, h26, h27, h28, eq_true d1, hix, hld, hoi.self, zO, plO]
    refine wstep_newPtr ?_
    intro t1 ht1' hst1' hnx1'
    simp (config := { maxSteps := 1000000, implicitDefEqProofs := false }) (disch := omega) only [allW, allR, oneOf, evalAll, partsA, optA, Nat.reduceLT, Nat.reduceLeDiff, Nat.reduceEqDiff, Nat.reduceAdd, ↓reduceIte, hn, h2, h4, h7, h26, h27, h28, hd6]
    refine wstep_storeAll szO (by decide) ht1' rfl rfl hxl hoi.ok ?_
    intro t2 ht2' nt2 et2
    have ht2' : Thing t2 t.next xs := ht2'
    have k2 : Stay t.next t t2 := hst1'.trans ⟨by omega, fun j hj => et2 j (by omega)⟩
    have kn2 := k2.next
    have htd2 := htd.keeps k2
    have ks2 : Stay s.next s t2 := (w4 _ k7t).trans (k2.weaken (by omega))
    simp (config := { maxSteps := 1000000, implicitDefEqProofs := false }) (disch := omega) only [allW, allR, oneOf, evalAll, partsA, optA, Nat.reduceLT, Nat.reduceLeDiff, Nat.reduceEqDiff, Nat.reduceAdd, ↓reduceIte, hn, h2, h4, h7, h26, h27, h28, db_all htd2 htl, Thing.loadO ht2' hxl]
    refine (resolveF (lib := libN) rfl rfl rfl rfl rfl rfl rfl _ t2 D mv tc iv ic (hD.lows.keeps ks2) hs _ xs l[i] (hoi.keeps k2) (hsl _ (List.getElem_mem hlt2))).mono ?_
    rintro _ t3 ⟨c3, rfl, ho3, k3⟩
    have kn3 := k3.next
    simp (config := { maxSteps := 1000000, implicitDefEqProofs := false }) (disch := omega) only [allW, allR, oneOf, evalAll, partsA, optA, Nat.reduceLT, Nat.reduceLeDiff, Nat.reduceEqDiff, Nat.reduceAdd, ↓reduceIte, hn, h2, h4, h7, h26, h27, h28, hoi.self]
    refine (pnum_any _ t3 c3 _ ho3).mono ?_
    rintro _ t4 ⟨rfl, k4'⟩
    have kn4 := k4'.next
    have kt4 : Stay t.next t t4 := (k2.trans (k3.weaken (by omega))).trans (k4'.weaken (by omega))
    have eo : okN D.items l[i] = (numO (resD D.items l[i])).2 := rfl
    have ev : (numO (resD D.items l[i])).1 = valN D.items l[i] := rfl
    cases hok : (numO (resD D.items l[i])).2
    · have hb : boxD D.items o = none := boxD_no (fun h => by
        have h3 := h.2.2
        rw [← hX, List.all_eq_true] at h3
        have := h3 _ (List.getElem_mem hlt2)
        rw [eo, hok] at this
        exact Bool.noConfusion this)
      simp (config := { maxSteps := 1000000, implicitDefEqProofs := false }) (disch := omega) only [allW, allR, oneOf, evalAll, partsA, optA, Nat.reduceLT, Nat.reduceLeDiff, Nat.reduceEqDiff, Nat.reduceAdd, ↓reduceIte, hn, h2, h4, h7, h26, h27, h28, ext0, ext1, b0Bx]
      refine wstep_storeAll szBx (by decide) (htb.keeps kt4) rfl rfl rfl rfl ?_
      intro t5 ht5' nt5 et5
      simp (config := { maxSteps := 1000000, implicitDefEqProofs := false }) (disch := omega) only [allW, allR, oneOf, evalAll, partsA, optA, Nat.reduceLT, Nat.reduceLeDiff, Nat.reduceEqDiff, Nat.reduceAdd, ↓reduceIte, hn]
      exact hQ _ _ _ (.inr ⟨rfl, hb, ht5', ((w4 _ k7t).trans (kt4.weaken (by omega))).trans ⟨by omega, fun j hj => et5 j (by omega)⟩, by simp only [get_put, n_put, ↓reduceIte, Nat.reduceEqDiff, hn], by simp only [get_put, n_put, ↓reduceIte, Nat.reduceEqDiff, h4], by simp only [get_put, n_put, ↓reduceIte, Nat.reduceEqDiff]⟩)
    have haa : indexAddrA Try.prog 37 (.pointer (some ⟨s6.next, 0, some 5⟩)) (.int .i64 (i : Nat)) = some (.pointer (some ⟨s6.next, 0 + i, some 5⟩)) := arrAt Try.underlying37 szI64 _ _ _ hlt .i64
    rw [ev]
    simp (config := { maxSteps := 1000000, implicitDefEqProofs := false }) (disch := omega) only [allW, allR, oneOf, evalAll, partsA, optA, Nat.reduceLT, Nat.reduceLeDiff, Nat.reduceEqDiff, Nat.reduceAdd, ↓reduceIte, hn, h2, h4, h7, h26, h27, h28, ext0, ext1, haa]
    refine wstep_store szI64 (htx.keeps kt4) (off := i) (c := 5) rfl (by simp [i64V, mixV]; omega) (v := .int .i64 (valN D.items l[i])) rfl ?_
    intro t5 ht5' nt5 et5
    have hvi : vs.getD i 0 = valN D.items l[i] := by rw [hvs]; simp [List.getD, List.getElem?_map, List.getElem?_eq_getElem hlt2]
    rw [← hvi, mixV_set vs hlt] at ht5'
    have kt5 : Stay s6.next s6 t5 := (hst.trans (kt4.weaken (by omega))).trans ⟨by omega, fun j hj => et5 j (by omega)⟩
    simp (config := { maxSteps := 1000000, implicitDefEqProofs := false }) (disch := omega) only [allW, allR, oneOf, evalAll, partsA, optA, Nat.reduceLT, Nat.reduceLeDiff, Nat.reduceEqDiff, Nat.reduceAdd, ↓reduceIte, hn, h2, h4, h7, h26, h27, h28, wrapI]
    refine wround_next (4 - (i + 1)) (by omega) ⟨i + 1, rfl, by omega, ?_, (htd.keeps kt4).ofPut nt5 et5 (by omega), (htb.keeps kt4).ofPut nt5 et5 (by omega), ht5', kt5, by simp only [get_put, n_put, ↓reduceIte, Nat.reduceEqDiff, hn], by simp only [get_put, n_put, ↓reduceIte, Nat.reduceEqDiff, h2], by simp only [get_put, n_put, ↓reduceIte, Nat.reduceEqDiff, h4], by simp only [get_put, n_put, ↓reduceIte, Nat.reduceEqDiff, h7], by simp only [get_put, n_put, ↓reduceIte, Nat.reduceEqDiff, h26], by simp only [get_put, n_put, ↓reduceIte, Nat.reduceEqDiff, h27], by simp only [get_put, n_put, ↓reduceIte, Nat.reduceEqDiff]; rfl⟩
    intro j hj
    by_cases e : j = i
    · rw [e, hxo, eo, hok]
    · exact hall j (by omega)
  clear hn h0 h1 f
  rintro z f t (⟨rfl, hall, htb, htx, hst, hn, h4, h7⟩ | ⟨rfl, hb, htb, hst, hn, h4, h5⟩)
  rotate_left
  · have lb : loadA Try.prog t 37 (.pointer (some ⟨s2.next, 0, some 5⟩)) = some (.agg #[.int .i64 0, .int .i64 0, .int .i64 0, .int .i64 0]) := Thing.loadAll (cs := [.int .i64 0, .int .i64 0, .int .i64 0, .int .i64 0]) agBx szBx htb (c := 5) rfl
    simp (config := { maxSteps := 1000000, implicitDefEqProofs := false }) (disch := omega) only [allW, allR, wfn_ret, wfn_normal, oneOf, evalAll, partsA, optA, Nat.reduceLT, Nat.reduceLeDiff, Nat.reduceEqDiff, Nat.reduceAdd, ↓reduceIte, hn, h4, h5, lb, resultsA_cell, Try.results10]
    rw [hb]
    exact ⟨rfl, hst⟩
  have hb : boxD D.items o = some (box4 vs) := by
    have := boxD_yes (D := D.items) (o := o) (by rw [← hX]; exact c6) (by rw [← hX]; exact cl) (by rw [← hX]; exact hall)
    rw [this, ← hX, hvs]
    rfl
  have m4 : mixV vs 4 = [vs.getD 0 0, vs.getD 1 0, vs.getD 2 0, vs.getD 3 0] := rfl
  rw [m4] at htx
  have ia : ∀ k : Nat, k < 4 → indexAddrA Try.prog 37 (.pointer (some ⟨s6.next, 0, some 5⟩)) (.int .i64 (k : Nat)) = some (.pointer (some ⟨s6.next, 0 + k, some 5⟩)) := fun k hk => arrAt Try.underlying37 szI64 _ _ _ hk .i64
  have i0 : indexAddrA Try.prog 37 (.pointer (some ⟨s6.next, 0, some 5⟩)) (.int .i64 0) = some (.pointer (some ⟨s6.next, 0, some 5⟩)) := ia 0 (by decide)
  have i1 : indexAddrA Try.prog 37 (.pointer (some ⟨s6.next, 0, some 5⟩)) (.int .i64 1) = some (.pointer (some ⟨s6.next, 1, some 5⟩)) := ia 1 (by decide)
  have i2 : indexAddrA Try.prog 37 (.pointer (some ⟨s6.next, 0, some 5⟩)) (.int .i64 2) = some (.pointer (some ⟨s6.next, 2, some 5⟩)) := ia 2 (by decide)
  have i3 : indexAddrA Try.prog 37 (.pointer (some ⟨s6.next, 0, some 5⟩)) (.int .i64 3) = some (.pointer (some ⟨s6.next, 3, some 5⟩)) := ia 3 (by decide)
  have lx : ∀ k : Nat, k < 4 → loadA Try.prog t 2 (.pointer (some ⟨s6.next, 0 + k, some 5⟩)) = some (.int .i64 (vs.getD k 0)) := by
    intro k hk
    rw [htx.load (P := Try.prog) agI64 (off := 0 + k) (c := 5) rfl (by simp [i64V]; omega)]
    have : k = 0 ∨ k = 1 ∨ k = 2 ∨ k = 3 := by omega
    rcases this with rfl | rfl | rfl | rfl <;> rfl
  have l0 : loadA Try.prog t 2 (.pointer (some ⟨s6.next, 0, some 5⟩)) = some (.int .i64 (vs.getD 0 0)) := lx 0 (by decide)
  have l1 : loadA Try.prog t 2 (.pointer (some ⟨s6.next, 1, some 5⟩)) = some (.int .i64 (vs.getD 1 0)) := lx 1 (by decide)
  have l2 : loadA Try.prog t 2 (.pointer (some ⟨s6.next, 2, some 5⟩)) = some (.int .i64 (vs.getD 2 0)) := lx 2 (by decide)
  have l3 : loadA Try.prog t 2 (.pointer (some ⟨s6.next, 3, some 5⟩)) = some (.int .i64 (vs.getD 3 0)) := lx 3 (by decide)
  simp (config := { maxSteps := 1000000, implicitDefEqProofs := false }) (disch := omega) only [allW, allR, oneOf, evalAll, partsA, optA, Nat.reduceLT, Nat.reduceLeDiff, Nat.reduceEqDiff, Nat.reduceAdd, ↓reduceIte, hn, h4, h7, i0, i1, i2, i3, l0, l1, l2, l3, builtin_min, builtin_max, b4Bx]
  refine wstep_storeAll szBx (by decide) htb rfl rfl rfl rfl ?_
  intro t5 ht5' nt5 et5
  have lb : loadA Try.prog t5 37 (.pointer (some ⟨s2.next, 0, some 5⟩)) = some (.agg (i64V (box4 vs)).toArray) := Thing.loadAll (cs := i64V (box4 vs)) agBx szBx ht5' (c := 5) rfl
  simp (config := { maxSteps := 1000000, implicitDefEqProofs := false }) (disch := omega) only [allW, allR, wfn_ret, wfn_normal, oneOf, evalAll, partsA, optA, Nat.reduceLT, Nat.reduceLeDiff, Nat.reduceEqDiff, Nat.reduceAdd, ↓reduceIte, hn, h4, lb, resultsA_cell, Try.results10]
  rw [hb]
  exact ⟨rfl, (w4 _ hst).trans ⟨by omega, fun j hj => et5 j (by omega)⟩⟩
theorem pbox_any (F : Nat → Prop) (s : ASt) (D : Dc) (mv : Value) (tc : List Value) (iv : Value) (ic : List Value) (hD : DocIs F s mv tc iv ic D) (hs : SmallD D) (cs : List Value) (o : O) (ho : OIs F s cs o) (hso : Small o) :
    Runs Try.prog libN 10 [.agg (docC D mv tc iv).toArray, .agg cs.toArray] s (BoxR s (boxD D.items o)) := pboxF F s D mv tc iv ic hD hs cs o ho hso.fit
end Go.Proofs.Ytokfoagohblkoaa
set_option linter.unusedSimpArgs false
set_option linter.unusedVariables false
set_option maxRecDepth 100000
namespace Go.Cl
end Go.Cl
namespace Go.Proofs.Ytokfoagohblkoaa
open Go.Cl Go.Lib
end Go.Proofs.Ytokfoagohblkoaa
