import Derived.Test.YtokfoagohblkoaaPgA
set_option linter.unusedSimpArgs false
set_option linter.unusedVariables false
set_option maxRecDepth 100000
namespace Go.Cl
theorem JX {P : Program} {t e : TypeId} {m : Nat} (hu : P.underlying t = some (.array m e)) (hsz : zB P e = some 1) (i o c : Nat) {k : Nat} (hk : k < m) (kk : IntKind) :
  yp P t (.pointer (some ⟨i, o, some c⟩)) (.int kk (k : Nat)) = some (.pointer (some ⟨i, o + k, some c⟩)) := by
 have hb : Nat.blt k m = true := by simpa [Nat.blt_eq] using hk
 show yp P t _ (.int kk (Int.ofNat k)) = _
 unfold yp
 rw [hu]
 simp only [hsz, hb, if_true, Nat.mul_one]
def mixV (l : List Int) (k : Nat) : List Int := (List.range 4).map fun j => if j < k then l.getD j 0 else 0
theorem KM (l : List Int) {k : Nat} (h : k < 4) : (i64V (mixV l k)).set k (.int .i64 (l.getD k 0)) = i64V (mixV l (k + 1)) := by
 have : k = 0 ∨ k = 1 ∨ k = 2 ∨ k = 3 := by omega
 rcases this with rfl | rfl | rfl | rfl <;> rfl
def boxV (o : Option (List Int)) : Value := .agg (i64V (o.getD [0, 0, 0, 0])).toArray
theorem jo {D : List (Int × O)} {o : O} (h : ¬ ((resD D o).kind = 6 ∧ (resD D o).items.length = 4 ∧ (resD D o).items.all (okN D) = true)) : boxD D o = none := by unfold boxD; rw [if_neg h]
theorem KN {D : List (Int × O)} {o : O} (h1 : (resD D o).kind = 6) (h2 : (resD D o).items.length = 4) (h3 : ∀ i, i < 4 -> okN D ((resD D o).items.getD i O.none) = true) : boxD D o = some (box4 ((resD D o).items.map (valN D))) := by
 unfold boxD
 rw [if_pos]
 refine ⟨h1, h2, ?_⟩
 rw [List.all_eq_true]
 intro x hx
 obtain ⟨i, hi, rfl⟩ := List.mem_iff_getElem.mp hx
 have := h3 i (by omega)
 simpa [List.getD, List.getElem?_eq_getElem hi] using this
end Go.Cl
namespace Go.Proofs.Ytokfoagohblkoaa
open Go.Cl Go.Lib
theorem szBx : zB Try.prog 37 = some 4 := by kernel_rfl
theorem agBx : yc Try.prog 37 = some true := by kernel_rfl
theorem zBx : yj Try.prog 37 = some (.agg #[.int .i64 0, .int .i64 0, .int .i64 0, .int .i64 0]) := by kernel_rfl
theorem b0Bx : yE Try.prog 37 [] = some (.agg #[.int .i64 0, .int .i64 0, .int .i64 0, .int .i64 0]) := by kernel_rfl
theorem b4Bx (a b c d : Int) : yE Try.prog 37 [(0, .int .i64 a), (1, .int .i64 b), (2, .int .i64 c), (3, .int .i64 d)] = some (.agg #[.int .i64 a, .int .i64 b, .int .i64 c, .int .i64 d]) := by
 unfold yE; rw [Try.underlying37]
 have hz : yj Try.prog 37 = some (.agg #[.int .i64 0, .int .i64 0, .int .i64 0, .int .i64 0]) := by kernel_rfl
 rw [hz]
 have ci : ∀ k n, (Value.int k n).cells = #[.int k n] := fun _ _ => rfl
 simp [wO, yn, wR, xQ, yU, yV, ci]
theorem szRx : zB Try.prog 48 = some 4 := by kernel_rfl
theorem agRx : yc Try.prog 48 = some true := by kernel_rfl
theorem zRx : yj Try.prog 48 = some (.agg #[.int .i64 0, .int .i64 0, .int .i64 0, .int .i64 0]) := by kernel_rfl
theorem b0Rx : yE Try.prog 48 [] = some (.agg #[.int .i64 0, .int .i64 0, .int .i64 0, .int .i64 0]) := by kernel_rfl
theorem b4Rx (a b c d : Int) : yE Try.prog 48 [(0, .int .i64 a), (1, .int .i64 b), (2, .int .i64 c), (3, .int .i64 d)] = some (.agg #[.int .i64 a, .int .i64 b, .int .i64 c, .int .i64 d]) := by
 unfold yE; rw [Try.underlying48]
 have hz : yj Try.prog 48 = some (.agg #[.int .i64 0, .int .i64 0, .int .i64 0, .int .i64 0]) := by kernel_rfl
 rw [hz]
 have ci : ∀ k n, (Value.int k n).cells = #[.int k n] := fun _ _ => rfl
 simp [wO, yn, wR, xQ, yU, yV, ci]
theorem plBx : yn (.agg #[.int .i64 0, .int .i64 0, .int .i64 0, .int .i64 0]) = true := rfl
def BoxR (s : ASt) (b : Option (List Int)) (v : Value) (s' : ASt) : Prop := v = .tuple #[boxV b, .bool b.isSome] ∧ Stay s.next s s'
set_option maxHeartbeats 16000000 in
theorem pboxF (F : Nat -> Prop) (s : ASt) (D : Dc) (mv : Value) (tc : List Value) (iv : Value) (ic : List Value) (hD : ye F s mv tc iv ic D) (hs : yN D) (cs : List Value) (o : O) (ho : OIs F s cs o) (hso : Fit o) :
  Runs Try.prog libN 10 [.agg (docC D mv tc iv).toArray, .agg cs.toArray] s (BoxR s (boxD D.items o)) := by
 have htl := hD.trailer.len
 have hol := ho.len
 have dl := xh (D := D) (mv := mv) (iv := iv) htl
 refine Runs.enter 68 Try.func10 rfl rfl rfl rfl ?_
 intro f hn hf
 have h0 : f.get 0 = .agg (docC D mv tc iv).toArray := hf 0
 have h1 : f.get 1 = .agg cs.toArray := hf 1
 clear hf
 simp -implicitDefEqProofs (disch := omega) only [allW, Nat.reduceLT, ↓reduceIte, hn, h0]
 refine ze ?_
 intro s1 ht1 hst1 hnx1
 have ht1 : zd s1 s.next (docC D mv tc iv) := ht1
 simp -implicitDefEqProofs (disch := omega) only [allW, Nat.reduceLT, Nat.reduceEqDiff, Nat.reduceAdd, ↓reduceIte, hn, h1, dl]
 refine ze ?_
 intro s2 ht2 hst2 hnx2
 have ht2 : zd s2 s1.next cs := ht2
 simp -implicitDefEqProofs (disch := omega) only [allW, Nat.reduceLT, Nat.reduceAdd, ↓reduceIte, hn, hol, zBx, plBx]
 refine ze ?_
 intro s3 ht3 hst3 hnx3
 have hd5 : [Value.int .i64 0, .int .i64 0, .int .i64 0, .int .i64 0].length + 1 = 5 := rfl
 have n1 := hst1.next
 have n2 := hst2.next
 have n3 := hst3.next
 have hs3 : Stay s.next s s3 := (hst1.trans (hst2.weaken n1)).trans (hst3.weaken (by omega))
 have ht13 := ht1.keeps (hst2.trans (hst3.weaken n2))
 have ht23 := ht2.keeps hst3
 simp -implicitDefEqProofs (disch := omega) only [allW, allR, zc, Nat.reduceLT, Nat.reduceEqDiff, ↓reduceIte, hn, hd5, xC ht13 htl, zd.loadO ht23 hol]
 refine (Wx (lib := libN) rfl rfl rfl rfl rfl rfl rfl _ s3 D mv tc iv ic (hD.lows.keeps hs3) hs _ cs o (ho.lows.keeps hs3) hso).mono ?_
 rintro _ s4 ⟨c4, rfl, ho4, k4⟩
 have n4 := k4.next
 have hl4 := ho4.len
 have hsx := KL hs.items hso
 simp -implicitDefEqProofs (disch := omega) only [allW, Nat.reduceLT, ↓reduceIte, hn, zO, plO]
 refine ze ?_
 intro s5 ht5 hst5 hnx5
 have hd6 : zG.length + 1 = 6 := rfl
 simp -implicitDefEqProofs (disch := omega) only [allW, Nat.reduceLT, Nat.reduceEqDiff, ↓reduceIte, hn, hd6]
 refine zi szO (by decide) ht5 rfl rfl hl4 ho4.ok ?_
 intro s6 ht6 nt6 et6
 have ht6 : zd s6 s4.next c4 := ht6
 have n5 := hst5.next
 have ho6 : OIs (fun j => s3.next ≤ j ∧ j < s4.next) s6 c4 (resD D.items o) := (ho4.lows.keeps hst5).ofPut nt6 et6 (by omega)
 have k6 : Stay s4.next s4 s6 := hst5.trans ⟨by omega, fun j hj => et6 j (by omega)⟩
 have hs4 : Stay s.next s s4 := hs3.trans (k4.weaken (by omega))
 have ht14 := ht13.keeps k4
 have ht34 := ht3.keeps k4
 have hi44 := ht34.lt
 obtain ⟨X, hX⟩ : ∃ X, X = resD D.items o := ⟨_, rfl⟩
 rw [← hX] at ho6 hsx
 have lk : zg Try.prog s6 3 (.pointer (some ⟨s4.next, 0, some 6⟩)) = some (.int .i64 X.kind) := by
  rw [ht6.load (P := Try.prog) zT (off := 0) (c := 6) (by rw [hl4]) (by omega), ho6.kindC.1]
 have hfail : ∀ (f : AFr) (t : ASt), f.n = 68 -> boxD D.items o = none -> Stay s4.next s4 t -> zd t s2.next [.int .i64 0, .int .i64 0, .int .i64 0, .int .i64 0] -> f.get 4 = .pointer (some ⟨s2.next, 0, some 5⟩) -> f.get 5 = .bool false -> wfn Try.prog (Try.f10).results.toList (BoxR s (boxD D.items o)) .ret f t := by
  intro f t hn hb hst ht h4 h5
  have lb : zg Try.prog t 37 (.pointer (some ⟨s2.next, 0, some 5⟩)) = some (.agg #[.int .i64 0, .int .i64 0, .int .i64 0, .int .i64 0]) := zd.loadAll (cs := [.int .i64 0, .int .i64 0, .int .i64 0, .int .i64 0]) agBx szBx ht (c := 5) rfl
  simp -implicitDefEqProofs (disch := omega) only [allW, zj, zh, Nat.reduceLT, ↓reduceIte, hn, h4, h5, lb, zy, Try.results10]
  rw [hb]
  exact ⟨rfl, hs4.trans (hst.weaken (by omega))⟩
 cases X with
 | mk k n b l d =>
 obtain ⟨bv, lv, dv, lc, dc, rfl, hbv, hlv, hdv, fb, fl, fd, rl, rd⟩ := ho6.parts
 have lk : zg Try.prog s6 3 (.pointer (some ⟨s4.next, 0, some 6⟩)) = some (.int .i64 k) := lk
 have hsl : ∀ x ∈ l, Fit x := by cases hsx with | mk _ _ _ _ hL _ => exact hL
 have ll : zg Try.prog s6 28 (.pointer (some ⟨s4.next, 3, some 6⟩)) = some lv := ht6.load agLs (off := 3) (c := 6) rfl (by simp)
 have ht36 : zd s6 s2.next [.int .i64 0, .int .i64 0, .int .i64 0, .int .i64 0] := ht34.keeps k6
 have ht16 : zd s6 s.next (docC D mv tc iv) := ht14.keeps k6
 have w4 : ∀ t, Stay s4.next s4 t -> Stay s.next s t := fun t h => hs4.trans (h.weaken (by omega))
 by_cases c6 : k = 6
 rotate_left
 ·have hb : boxD D.items o = none := jo (fun h => c6 (by have := h.1; rw [← hX] at this; exact this))
  simp -implicitDefEqProofs (disch := omega) only [allW, allR, zn, Nat.reduceLT, Nat.reduceEqDiff, ↓reduceIte, undef, hn, of0, lk, eq_false c6, b0Bx]
  refine zi szBx (by decide) ht36 rfl rfl rfl rfl ?_
  intro s7 ht7 nt7 et7
  have lb : zg Try.prog s7 37 (.pointer (some ⟨s2.next, 0, some 5⟩)) = some (.agg #[.int .i64 0, .int .i64 0, .int .i64 0, .int .i64 0]) := zd.loadAll (cs := [.int .i64 0, .int .i64 0, .int .i64 0, .int .i64 0]) agBx szBx ht7 (c := 5) rfl
  simp -implicitDefEqProofs (disch := omega) only [allW, zj, zh, Nat.reduceLT, Nat.reduceEqDiff, ↓reduceIte, hn, lb, zy, Try.results10]
  rw [hb]
  exact ⟨rfl, (w4 _ k6).trans ⟨by omega, fun j hj => et7 j (by omega)⟩⟩
 by_cases cl : l.length = 4
 rotate_left
 ·have hb : boxD D.items o = none := jo (fun h => cl (by have := h.2.1; rw [← hX] at this; exact this))
  have d1 : ¬ ((l.length : Nat) : Int) = 4 := by omega
  simp -implicitDefEqProofs (disch := omega) only [allW, allR, zc, zn, Nat.reduceLT, Nat.reduceEqDiff, ↓reduceIte, undef, hn, of0, of3, lk, ll, c6, hlv.lenA Try.underlying28, eq_false d1, not_false_iff, b0Bx]
  refine zi szBx (by decide) ht36 rfl rfl rfl rfl ?_
  intro s7 ht7 nt7 et7
  have lb : zg Try.prog s7 37 (.pointer (some ⟨s2.next, 0, some 5⟩)) = some (.agg #[.int .i64 0, .int .i64 0, .int .i64 0, .int .i64 0]) := zd.loadAll (cs := [.int .i64 0, .int .i64 0, .int .i64 0, .int .i64 0]) agBx szBx ht7 (c := 5) rfl
  simp -implicitDefEqProofs (disch := omega) only [allW, zj, zh, Nat.reduceLT, Nat.reduceEqDiff, ↓reduceIte, hn, lb, zy, Try.results10]
  rw [hb]
  exact ⟨rfl, (w4 _ k6).trans ⟨by omega, fun j hj => et7 j (by omega)⟩⟩
 have d1 : ((l.length : Nat) : Int) = 4 := by omega
 simp -implicitDefEqProofs (disch := omega) only [allW, allR, zc, Nat.reduceLT, Nat.reduceEqDiff, ↓reduceIte, undef, hn, of0, of3, lk, ll, c6, hlv.lenA Try.underlying28, d1, zBx, plBx]
 refine ze ?_
 intro s7 ht7 hst7 hnx7
 have ht7 : zd s7 s6.next [.int .i64 0, .int .i64 0, .int .i64 0, .int .i64 0] := ht7
 have n6 := k6.next
 have k7 : Stay s4.next s4 s7 := k6.trans (hst7.weaken (by omega))
 have ll7 : zg Try.prog s7 28 (.pointer (some ⟨s4.next, 3, some 6⟩)) = some lv := (ht6.keeps hst7).load agLs (off := 3) (c := 6) rfl (by simp)
 have hlv7 := hlv.keeps hst7
 obtain ⟨vs, hvs⟩ : ∃ vs, vs = l.map (valN D.items) := ⟨_, rfl⟩
 have hvl : vs.length = 4 := by rw [hvs, List.length_map, cl]
 simp -implicitDefEqProofs (disch := omega) only [allW, zc, Nat.reduceLT, Nat.reduceEqDiff, ↓reduceIte, hn, hd5, of3, ll7, hlv7.lenA Try.underlying28, d1]
 refine yf.loopOut (fun z f t => ∃ i : Nat, z = 4 - i ∧ i ≤ 4 ∧ (∀ j, j < i -> okN D.items (l.getD j O.none) = true) ∧ zd t s.next (docC D mv tc iv) ∧ zd t s2.next [.int .i64 0, .int .i64 0, .int .i64 0, .int .i64 0] ∧ zd t s6.next (i64V (mixV vs i)) ∧ Stay s6.next s6 t ∧ f.n = 68 ∧ f.get 2 = .pointer (some ⟨s.next, 0, some 10⟩) ∧ f.get 4 = .pointer (some ⟨s2.next, 0, some 5⟩) ∧ f.get 7 = .pointer (some ⟨s6.next, 0, some 5⟩) ∧ f.get 26 = lv ∧ f.get 27 = .int .i64 4 ∧ f.get 28 = .int .i64 (i : Nat))
  (fun z f t => (z = .exit 0 ∧ (∀ j, j < 4 -> okN D.items (l.getD j O.none) = true) ∧ zd t s2.next [.int .i64 0, .int .i64 0, .int .i64 0, .int .i64 0] ∧ zd t s6.next (i64V (mixV vs 4)) ∧ Stay s4.next s4 t ∧ f.n = 68 ∧ f.get 4 = .pointer (some ⟨s2.next, 0, some 5⟩) ∧ f.get 7 = .pointer (some ⟨s6.next, 0, some 5⟩)) ∨ (z = .ret ∧ boxD D.items o = none ∧ zd t s2.next [.int .i64 0, .int .i64 0, .int .i64 0, .int .i64 0] ∧ Stay s.next s t ∧ f.n = 68 ∧ f.get 4 = .pointer (some ⟨s2.next, 0, some 5⟩) ∧ f.get 5 = .bool false))
  ⟨0, rfl, by omega, fun j h => absurd h (Nat.not_lt_zero j), ht16.keeps hst7, ht36.keeps hst7, ht7, hst7, by simp only [zf, hn], by simp only [za, ↓reduceIte, Nat.reduceEqDiff], by simp only [za, ↓reduceIte, Nat.reduceEqDiff], by simp only [za, ↓reduceIte, Nat.reduceEqDiff], by simp only [za, ↓reduceIte, Nat.reduceEqDiff], by simp only [za, ↓reduceIte, Nat.reduceEqDiff], by simp only [za, ↓reduceIte]; rfl⟩ ?_ ?_
 ·clear hn h0 h1 f
  rintro Q hQ z f t ⟨i, rfl, hi, hall, htd, htb, htx, hst, hn, h2, h4, h7, h26, h27, h28⟩
  have nt := hst.next
  have hxlt := htx.lt
  have k7t : Stay s4.next s4 t := k6.trans (hst.weaken (by omega))
  by_cases hlt : i < 4
  rotate_left
  ·obtain rfl : i = 4 := by omega
   have d1 : ¬ ((4 : Nat) : Int) < 4 := by decide
   simp -implicitDefEqProofs (disch := omega) only [allW, Nat.reduceLT, ↓reduceIte, hn, h27, h28, eq_false d1]
   exact hQ _ _ _ (.inl ⟨rfl, hall, htb, htx, k7t, by simp only [zf, hn], by simp only [za, ↓reduceIte, Nat.reduceEqDiff, h4], by simp only [za, ↓reduceIte, Nat.reduceEqDiff, h7]⟩)
  have d1 : (i : Int) < 4 := by omega
  have hlt2 : i < l.length := by omega
  have hlvt := hlv.keeps hst
  have hix := hlvt.indexAddr (P := Try.prog) (k := .i64) (x := (i : Int)) Try.underlying28 szO (by omega) (by omega)
  rw [Int.toNat_natCast] at hix
  have hld := hlvt.loadAgg (P := Try.prog) agO szO hlt2
  have hoi := (rl.row i hlt2).keeps hst
  obtain ⟨xs, hxs⟩ : ∃ xs, xs = (lc.drop (i * 5)).take 5 := ⟨_, rfl⟩
  rw [← hxs] at hld hoi
  have hxl := hoi.len
  have hxo : l.getD i O.none = l[i] := by simp [List.getD, List.getElem?_eq_getElem hlt2]
  simp -implicitDefEqProofs (disch := omega) only [allW, Nat.reduceLT, Nat.reduceEqDiff, ↓reduceIte, hn, h26, h27, h28, eq_true d1, hix, hld, zO, plO]
  refine ze ?_
  intro t1 ht1' hst1' hnx1'
  simp -implicitDefEqProofs (disch := omega) only [allW, Nat.reduceLT, Nat.reduceEqDiff, ↓reduceIte, hn, hd6]
  refine zi szO (by decide) ht1' rfl rfl hxl hoi.ok ?_
  intro t2 ht2' nt2 et2
  have ht2' : zd t2 t.next xs := ht2'
  have k2 : Stay t.next t t2 := hst1'.trans ⟨by omega, fun j hj => et2 j (by omega)⟩
  have kn2 := k2.next
  have htd2 := htd.keeps k2
  have ks2 : Stay s.next s t2 := (w4 _ k7t).trans (k2.weaken (by omega))
  simp -implicitDefEqProofs (disch := omega) only [allW, allR, zc, Nat.reduceLT, Nat.reduceEqDiff, ↓reduceIte, hn, h2, xC htd2 htl, zd.loadO ht2' hxl]
  refine (Wx (lib := libN) rfl rfl rfl rfl rfl rfl rfl _ t2 D mv tc iv ic (hD.lows.keeps ks2) hs _ xs l[i] (hoi.keeps k2) (hsl _ (List.getElem_mem hlt2))).mono ?_
  rintro _ t3 ⟨c3, rfl, ho3, k3⟩
  have kn3 := k3.next
  simp -implicitDefEqProofs (disch := omega) only [allW, allR, zc, Nat.reduceLT, ↓reduceIte, hn]
  refine (aam _ t3 c3 _ ho3).mono ?_
  rintro _ t4 ⟨rfl, k4'⟩
  have kn4 := k4'.next
  have kt4 : Stay t.next t t4 := (k2.trans (k3.weaken (by omega))).trans (k4'.weaken (by omega))
  have eo : okN D.items l[i] = (numO (resD D.items l[i])).2 := rfl
  have ev : (numO (resD D.items l[i])).1 = valN D.items l[i] := rfl
  cases hok : (numO (resD D.items l[i])).2
  ·have hb : boxD D.items o = none := jo (fun h => by
    have h3 := h.2.2
    rw [← hX, List.all_eq_true] at h3
    have := h3 _ (List.getElem_mem hlt2)
    rw [eo, hok] at this
    exact Bool.noConfusion this)
   simp -implicitDefEqProofs (disch := omega) only [allW, zn, Nat.reduceLT, Nat.reduceEqDiff, ↓reduceIte, hn, h4, ext0, ext1, b0Bx]
   refine zi szBx (by decide) (htb.keeps kt4) rfl rfl rfl rfl ?_
   intro t5 ht5' nt5 et5
   simp -implicitDefEqProofs (disch := omega) only [allW, Nat.reduceLT, ↓reduceIte, hn]
   exact hQ _ _ _ (.inr ⟨rfl, hb, ht5', ((w4 _ k7t).trans (kt4.weaken (by omega))).trans ⟨by omega, fun j hj => et5 j (by omega)⟩, by simp only [zf, hn], by simp only [za, ↓reduceIte, Nat.reduceEqDiff, h4], by simp only [za, ↓reduceIte]⟩)
  have haa : yp Try.prog 37 (.pointer (some ⟨s6.next, 0, some 5⟩)) (.int .i64 (i : Nat)) = some (.pointer (some ⟨s6.next, 0 + i, some 5⟩)) := JX Try.underlying37 wO _ _ _ hlt .i64
  rw [ev]
  simp -implicitDefEqProofs (disch := omega) only [allW, Nat.reduceLT, Nat.reduceEqDiff, ↓reduceIte, hn, h7, ext0, ext1, haa]
  refine yF wO (htx.keeps kt4) (off := i) (c := 5) rfl (by simp [i64V, mixV]; omega) (v := .int .i64 (valN D.items l[i])) rfl ?_
  intro t5 ht5' nt5 et5
  have hvi : vs.getD i 0 = valN D.items l[i] := by rw [hvs]; simp [List.getD, List.getElem?_map, List.getElem?_eq_getElem hlt2]
  rw [← hvi, KM vs hlt] at ht5'
  have kt5 : Stay s6.next s6 t5 := (hst.trans (kt4.weaken (by omega))).trans ⟨by omega, fun j hj => et5 j (by omega)⟩
  simp -implicitDefEqProofs (disch := omega) only [allW, Nat.reduceLT, Nat.reduceEqDiff, ↓reduceIte, hn, h28, zR]
  refine zz (4 - (i + 1)) (by omega) ⟨i + 1, rfl, by omega, ?_, (htd.keeps kt4).ofPut nt5 et5 (by omega), (htb.keeps kt4).ofPut nt5 et5 (by omega), ht5', kt5, by simp only [zf, hn], by simp only [za, ↓reduceIte, Nat.reduceEqDiff, h2], by simp only [za, ↓reduceIte, Nat.reduceEqDiff, h4], by simp only [za, ↓reduceIte, Nat.reduceEqDiff, h7], by simp only [za, ↓reduceIte, Nat.reduceEqDiff, h26], by simp only [za, ↓reduceIte, Nat.reduceEqDiff, h27], by simp only [za, ↓reduceIte]; rfl⟩
  intro j hj
  by_cases e : j = i
  ·rw [e, hxo, eo, hok]
  ·exact hall j (by omega)
 clear hn h0 h1 f
 rintro z f t (⟨rfl, hall, htb, htx, hst, hn, h4, h7⟩ | ⟨rfl, hb, htb, hst, hn, h4, h5⟩)
 rotate_left
 ·have lb : zg Try.prog t 37 (.pointer (some ⟨s2.next, 0, some 5⟩)) = some (.agg #[.int .i64 0, .int .i64 0, .int .i64 0, .int .i64 0]) := zd.loadAll (cs := [.int .i64 0, .int .i64 0, .int .i64 0, .int .i64 0]) agBx szBx htb (c := 5) rfl
  simp -implicitDefEqProofs (disch := omega) only [allW, zj, zh, Nat.reduceLT, ↓reduceIte, hn, h4, h5, lb, zy, Try.results10]
  rw [hb]
  exact ⟨rfl, hst⟩
 have hb : boxD D.items o = some (box4 vs) := by
  have := KN (D := D.items) (o := o) (by rw [← hX]; exact c6) (by rw [← hX]; exact cl) (by rw [← hX]; exact hall)
  rw [this, ← hX, hvs]
  rfl
 have m4 : mixV vs 4 = [vs.getD 0 0, vs.getD 1 0, vs.getD 2 0, vs.getD 3 0] := rfl
 rw [m4] at htx
 have ia : ∀ k : Nat, k < 4 -> yp Try.prog 37 (.pointer (some ⟨s6.next, 0, some 5⟩)) (.int .i64 (k : Nat)) = some (.pointer (some ⟨s6.next, 0 + k, some 5⟩)) := fun k hk => JX Try.underlying37 wO _ _ _ hk .i64
 have i0 : yp Try.prog 37 (.pointer (some ⟨s6.next, 0, some 5⟩)) (.int .i64 0) = some (.pointer (some ⟨s6.next, 0, some 5⟩)) := ia 0 (by decide)
 have i1 : yp Try.prog 37 (.pointer (some ⟨s6.next, 0, some 5⟩)) (.int .i64 1) = some (.pointer (some ⟨s6.next, 1, some 5⟩)) := ia 1 (by decide)
 have i2 : yp Try.prog 37 (.pointer (some ⟨s6.next, 0, some 5⟩)) (.int .i64 2) = some (.pointer (some ⟨s6.next, 2, some 5⟩)) := ia 2 (by decide)
 have i3 : yp Try.prog 37 (.pointer (some ⟨s6.next, 0, some 5⟩)) (.int .i64 3) = some (.pointer (some ⟨s6.next, 3, some 5⟩)) := ia 3 (by decide)
 have lx : ∀ k : Nat, k < 4 -> zg Try.prog t 2 (.pointer (some ⟨s6.next, 0 + k, some 5⟩)) = some (.int .i64 (vs.getD k 0)) := by
  intro k hk
  rw [htx.load (P := Try.prog) wH (off := 0 + k) (c := 5) rfl (by simp [i64V]; omega)]
  have : k = 0 ∨ k = 1 ∨ k = 2 ∨ k = 3 := by omega
  rcases this with rfl | rfl | rfl | rfl <;> rfl
 have l0 : zg Try.prog t 2 (.pointer (some ⟨s6.next, 0, some 5⟩)) = some (.int .i64 (vs.getD 0 0)) := lx 0 (by decide)
 have l1 : zg Try.prog t 2 (.pointer (some ⟨s6.next, 1, some 5⟩)) = some (.int .i64 (vs.getD 1 0)) := lx 1 (by decide)
 have l2 : zg Try.prog t 2 (.pointer (some ⟨s6.next, 2, some 5⟩)) = some (.int .i64 (vs.getD 2 0)) := lx 2 (by decide)
 have l3 : zg Try.prog t 2 (.pointer (some ⟨s6.next, 3, some 5⟩)) = some (.int .i64 (vs.getD 3 0)) := lx 3 (by decide)
 simp -implicitDefEqProofs (disch := omega) only [allW, zc, zn, Nat.reduceLT, Nat.reduceEqDiff, ↓reduceIte, hn, h4, h7, i0, i1, i2, i3, l0, l1, l2, l3, b4Bx]
 refine zi szBx (by decide) htb rfl rfl rfl rfl ?_
 intro t5 ht5' nt5 et5
 have lb : zg Try.prog t5 37 (.pointer (some ⟨s2.next, 0, some 5⟩)) = some (.agg (i64V (box4 vs)).toArray) := zd.loadAll (cs := i64V (box4 vs)) agBx szBx ht5' (c := 5) rfl
 simp -implicitDefEqProofs (disch := omega) only [allW, zj, zh, Nat.reduceLT, Nat.reduceEqDiff, ↓reduceIte, hn, h4, lb, zy, Try.results10]
 rw [hb]
 exact ⟨rfl, (w4 _ hst).trans ⟨by omega, fun j hj => et5 j (by omega)⟩⟩
theorem KP (F : Nat -> Prop) (s : ASt) (D : Dc) (mv : Value) (tc : List Value) (iv : Value) (ic : List Value) (hD : ye F s mv tc iv ic D) (hs : yN D) (cs : List Value) (o : O) (ho : OIs F s cs o) (hso : zu o) :
  Runs Try.prog libN 10 [.agg (docC D mv tc iv).toArray, .agg cs.toArray] s (BoxR s (boxD D.items o)) := pboxF F s D mv tc iv ic hD hs cs o ho hso.fit
end Go.Proofs.Ytokfoagohblkoaa
set_option linter.unusedSimpArgs false
set_option linter.unusedVariables false
set_option maxRecDepth 100000
namespace Go.Cl
theorem SC (a : Int) (b : Bool) : zD (.tuple #[.int .i64 a, .bool b]) (.tuple #[.int .i64 a, .bool b]) = true := by simp [zD, qF, Yj, zV]
end Go.Cl
namespace Go.Proofs.Ytokfoagohblkoaa
open Go.Cl Go.Lib
set_option maxHeartbeats 16000000 in
theorem rboxF (F : Nat -> Prop) (s : ASt) (D : Dc) (mv : Value) (tc : List Value) (iv : Value) (ic : List Value) (hD : ye F s mv tc iv ic D) (hs : yN D) (cs : List Value) (o : O) (ho : OIs F s cs o) (hso : Fit o) :
  Runs Try.prog libN 18 [.agg (docC D mv tc iv).toArray, .agg cs.toArray] s (BoxR s (boxD D.items o)) := by
 have htl := hD.trailer.len
 have hol := ho.len
 have dl := xh (D := D) (mv := mv) (iv := iv) htl
 refine Runs.enter 67 Try.func18 rfl rfl rfl rfl ?_
 intro f hn hf
 have h0 : f.get 0 = .agg (docC D mv tc iv).toArray := hf 0
 have h1 : f.get 1 = .agg cs.toArray := hf 1
 clear hf
 simp -implicitDefEqProofs (disch := omega) only [allW, Nat.reduceLT, ↓reduceIte, hn, h0]
 refine ze ?_
 intro s1 ht1 hst1 hnx1
 have ht1 : zd s1 s.next (docC D mv tc iv) := ht1
 simp -implicitDefEqProofs (disch := omega) only [allW, Nat.reduceLT, Nat.reduceEqDiff, Nat.reduceAdd, ↓reduceIte, hn, h1, dl]
 refine ze ?_
 intro s2 ht2 hst2 hnx2
 have ht2 : zd s2 s1.next cs := ht2
 simp -implicitDefEqProofs (disch := omega) only [allW, Nat.reduceLT, Nat.reduceAdd, ↓reduceIte, hn, hol, zRx, plBx]
 refine ze ?_
 intro s3 ht3 hst3 hnx3
 have hd5 : [Value.int .i64 0, .int .i64 0, .int .i64 0, .int .i64 0].length + 1 = 5 := rfl
 have n1 := hst1.next
 have n2 := hst2.next
 have n3 := hst3.next
 have hs3 : Stay s.next s s3 := (hst1.trans (hst2.weaken n1)).trans (hst3.weaken (by omega))
 have ht13 := ht1.keeps (hst2.trans (hst3.weaken n2))
 have ht23 := ht2.keeps hst3
 simp -implicitDefEqProofs (disch := omega) only [allW, allR, zc, Nat.reduceLT, Nat.reduceEqDiff, ↓reduceIte, hn, hd5, xC ht13 htl, zd.loadO ht23 hol]
 refine (YW (lib := libN) rfl rfl _ s3 D mv tc iv ic (hD.lows.keeps hs3) hs cs o (ho.lows.keeps hs3) hso).mono ?_
 rintro _ s4 ⟨c4, rfl, ho4, k4⟩
 have n4 := k4.next
 have hl4 := ho4.len
 have hsx := KL hs.items hso
 simp -implicitDefEqProofs (disch := omega) only [allW, Nat.reduceLT, ↓reduceIte, hn, zO, plO]
 refine ze ?_
 intro s5 ht5 hst5 hnx5
 have hd6 : zG.length + 1 = 6 := rfl
 simp -implicitDefEqProofs (disch := omega) only [allW, Nat.reduceLT, Nat.reduceEqDiff, ↓reduceIte, hn, hd6]
 refine zi szO (by decide) ht5 rfl rfl hl4 ho4.ok ?_
 intro s6 ht6 nt6 et6
 have ht6 : zd s6 s4.next c4 := ht6
 have n5 := hst5.next
 have ho6 : OIs (fun j => ((F j ∧ j < s.next) ∨ s3.next ≤ j) ∧ j < s4.next) s6 c4 (resD D.items o) := (ho4.lows.keeps hst5).ofPut nt6 et6 (fun h => by have := h.2; omega)
 have k6 : Stay s4.next s4 s6 := hst5.trans ⟨by omega, fun j hj => et6 j (by omega)⟩
 have hs4 : Stay s.next s s4 := hs3.trans (k4.weaken (by omega))
 have ht14 := ht13.keeps k4
 have ht34 := ht3.keeps k4
 have hi44 := ht34.lt
 obtain ⟨X, hX⟩ : ∃ X, X = resD D.items o := ⟨_, rfl⟩
 rw [← hX] at ho6 hsx
 have lk : zg Try.prog s6 3 (.pointer (some ⟨s4.next, 0, some 6⟩)) = some (.int .i64 X.kind) := by
  rw [ht6.load (P := Try.prog) zT (off := 0) (c := 6) (by rw [hl4]) (by omega), ho6.kindC.1]
 have hfail : ∀ (f : AFr) (t : ASt), f.n = 67 -> boxD D.items o = none -> Stay s4.next s4 t -> zd t s2.next [.int .i64 0, .int .i64 0, .int .i64 0, .int .i64 0] -> f.get 4 = .pointer (some ⟨s2.next, 0, some 5⟩) -> f.get 5 = .bool false -> wfn Try.prog (Try.f18).results.toList (BoxR s (boxD D.items o)) .ret f t := by
  intro f t hn hb hst ht h4 h5
  have lb : zg Try.prog t 48 (.pointer (some ⟨s2.next, 0, some 5⟩)) = some (.agg #[.int .i64 0, .int .i64 0, .int .i64 0, .int .i64 0]) := zd.loadAll (cs := [.int .i64 0, .int .i64 0, .int .i64 0, .int .i64 0]) agRx szRx ht (c := 5) rfl
  simp -implicitDefEqProofs (disch := omega) only [allW, zj, zh, Nat.reduceLT, ↓reduceIte, hn, h4, h5, lb, zy, Try.results18]
  rw [hb]
  exact ⟨rfl, hs4.trans (hst.weaken (by omega))⟩
 cases X with
 | mk k n b l d =>
 obtain ⟨bv, lv, dv, lc, dc, rfl, hbv, hlv, hdv, fb, fl, fd, rl, rd⟩ := ho6.parts
 have lk : zg Try.prog s6 3 (.pointer (some ⟨s4.next, 0, some 6⟩)) = some (.int .i64 k) := lk
 have hsl : ∀ x ∈ l, Fit x := by cases hsx with | mk _ _ _ _ hL _ => exact hL
 have ll : zg Try.prog s6 28 (.pointer (some ⟨s4.next, 3, some 6⟩)) = some lv := ht6.load agLs (off := 3) (c := 6) rfl (by simp)
 have ht36 : zd s6 s2.next [.int .i64 0, .int .i64 0, .int .i64 0, .int .i64 0] := ht34.keeps k6
 have ht16 : zd s6 s.next (docC D mv tc iv) := ht14.keeps k6
 have w4 : ∀ t, Stay s4.next s4 t -> Stay s.next s t := fun t h => hs4.trans (h.weaken (by omega))
 by_cases c6 : k = 6
 rotate_left
 ·have hb : boxD D.items o = none := jo (fun h => c6 (by have := h.1; rw [← hX] at this; exact this))
  simp -implicitDefEqProofs (disch := omega) only [allW, allR, zn, Nat.reduceLT, Nat.reduceEqDiff, ↓reduceIte, undef, hn, of0, lk, eq_false c6, b0Rx]
  refine zi szRx (by decide) ht36 rfl rfl rfl rfl ?_
  intro s7 ht7 nt7 et7
  have lb : zg Try.prog s7 48 (.pointer (some ⟨s2.next, 0, some 5⟩)) = some (.agg #[.int .i64 0, .int .i64 0, .int .i64 0, .int .i64 0]) := zd.loadAll (cs := [.int .i64 0, .int .i64 0, .int .i64 0, .int .i64 0]) agRx szRx ht7 (c := 5) rfl
  simp -implicitDefEqProofs (disch := omega) only [allW, zj, zh, Nat.reduceLT, Nat.reduceEqDiff, ↓reduceIte, hn, lb, zy, Try.results18]
  rw [hb]
  exact ⟨rfl, (w4 _ k6).trans ⟨by omega, fun j hj => et7 j (by omega)⟩⟩
 by_cases cl : l.length = 4
 rotate_left
 ·have hb : boxD D.items o = none := jo (fun h => cl (by have := h.2.1; rw [← hX] at this; exact this))
  have d1 : ¬ ((l.length : Nat) : Int) = 4 := by omega
  simp -implicitDefEqProofs (disch := omega) only [allW, allR, zc, zn, Nat.reduceLT, Nat.reduceEqDiff, ↓reduceIte, undef, hn, of0, of3, lk, ll, c6, hlv.lenA Try.underlying28, eq_false d1, not_false_iff, b0Rx]
  refine zi szRx (by decide) ht36 rfl rfl rfl rfl ?_
  intro s7 ht7 nt7 et7
  have lb : zg Try.prog s7 48 (.pointer (some ⟨s2.next, 0, some 5⟩)) = some (.agg #[.int .i64 0, .int .i64 0, .int .i64 0, .int .i64 0]) := zd.loadAll (cs := [.int .i64 0, .int .i64 0, .int .i64 0, .int .i64 0]) agRx szRx ht7 (c := 5) rfl
  simp -implicitDefEqProofs (disch := omega) only [allW, zj, zh, Nat.reduceLT, Nat.reduceEqDiff, ↓reduceIte, hn, lb, zy, Try.results18]
  rw [hb]
  exact ⟨rfl, (w4 _ k6).trans ⟨by omega, fun j hj => et7 j (by omega)⟩⟩
 have d1 : ((l.length : Nat) : Int) = 4 := by omega
 simp -implicitDefEqProofs (disch := omega) only [allW, allR, zc, zn, Nat.reduceLT, Nat.reduceEqDiff, ↓reduceIte, undef, hn, of0, of3, lk, ll, c6, hlv.lenA Try.underlying28, d1, b0Rx, zRx, plBx]
 refine ze ?_
 intro sa hta hsta hnxa
 simp -implicitDefEqProofs (disch := omega) only [allW, Nat.reduceLT, Nat.reduceEqDiff, ↓reduceIte, hn, hd5]
 refine zi szRx (by decide) hta rfl rfl rfl rfl ?_
 intro s7 ht7 nt7' et7'
 have hna := hsta.next
 have hst7 : Stay s6.next s6 s7 := hsta.trans ⟨by omega, fun j hj => et7' j (by omega)⟩
 have ht7 : zd s7 s6.next [.int .i64 0, .int .i64 0, .int .i64 0, .int .i64 0] := ht7
 have n6 := k6.next
 have k7 : Stay s4.next s4 s7 := k6.trans (hst7.weaken (by omega))
 have ll7 : zg Try.prog s7 28 (.pointer (some ⟨s4.next, 3, some 6⟩)) = some lv := (ht6.keeps hst7).load agLs (off := 3) (c := 6) rfl (by simp)
 have hlv7 := hlv.keeps hst7
 obtain ⟨vs, hvs⟩ : ∃ vs, vs = l.map (valN D.items) := ⟨_, rfl⟩
 have hvl : vs.length = 4 := by rw [hvs, List.length_map, cl]
 simp -implicitDefEqProofs (disch := omega) only [allW, Nat.reduceLT, ↓reduceIte, undef, hn]
 refine yf.loopOut (fun z f t => ∃ i : Nat, z = 4 - i ∧ i ≤ 4 ∧ (∀ j, j < i -> okN D.items (l.getD j O.none) = true) ∧ zd t s.next (docC D mv tc iv) ∧ zd t s2.next [.int .i64 0, .int .i64 0, .int .i64 0, .int .i64 0] ∧ zd t s4.next [.int .i64 6, .int .i64 n, bv, lv, dv] ∧ zd t s6.next (i64V (mixV vs i)) ∧ Stay s6.next s6 t ∧ f.n = 67 ∧ f.get 2 = .pointer (some ⟨s.next, 0, some 10⟩) ∧ f.get 4 = .pointer (some ⟨s2.next, 0, some 5⟩) ∧ f.get 6 = .pointer (some ⟨s4.next, 0, some 6⟩) ∧ f.get 7 = .pointer (some ⟨s6.next, 0, some 5⟩) ∧ f.get 8 = .int .i64 (i : Nat))
  (fun z f t => (z = .exit 0 ∧ (∀ j, j < 4 -> okN D.items (l.getD j O.none) = true) ∧ zd t s2.next [.int .i64 0, .int .i64 0, .int .i64 0, .int .i64 0] ∧ zd t s6.next (i64V (mixV vs 4)) ∧ Stay s4.next s4 t ∧ f.n = 67 ∧ f.get 4 = .pointer (some ⟨s2.next, 0, some 5⟩) ∧ f.get 7 = .pointer (some ⟨s6.next, 0, some 5⟩)) ∨ (z = .ret ∧ boxD D.items o = none ∧ zd t s2.next [.int .i64 0, .int .i64 0, .int .i64 0, .int .i64 0] ∧ Stay s.next s t ∧ f.n = 67 ∧ f.get 4 = .pointer (some ⟨s2.next, 0, some 5⟩) ∧ f.get 5 = .bool false))
  ⟨0, rfl, by omega, fun j h => absurd h (Nat.not_lt_zero j), ht16.keeps hst7, ht36.keeps hst7, (by rw [← c6]; exact ht6.keeps hst7), ht7, hst7, by simp only [zf, hn], by simp only [za, ↓reduceIte, Nat.reduceEqDiff], by simp only [za, ↓reduceIte, Nat.reduceEqDiff], by simp only [za, ↓reduceIte, Nat.reduceEqDiff], by simp only [za, ↓reduceIte, Nat.reduceEqDiff], by simp only [za, ↓reduceIte]; rfl⟩ ?_ ?_
 ·clear hn h0 h1 f
  rintro Q hQ z f t ⟨i, rfl, hi, hall, htd, htb, htr, htx, hst, hn, h2, h4, h6, h7, h8⟩
  have nt := hst.next
  have hxlt := htx.lt
  have k7t : Stay s4.next s4 t := k6.trans (hst.weaken (by omega))
  by_cases hlt : i < 4
  rotate_left
  ·obtain rfl : i = 4 := by omega
   have d1 : ¬ ((4 : Nat) : Int) < 4 := by decide
   simp -implicitDefEqProofs (disch := omega) only [allW, Nat.reduceLT, ↓reduceIte, hn, h8, eq_false d1]
   exact hQ _ _ _ (.inl ⟨rfl, hall, htb, htx, k7t, by simp only [zf, hn], by simp only [za, ↓reduceIte, Nat.reduceEqDiff, h4], by simp only [za, ↓reduceIte, Nat.reduceEqDiff, h7]⟩)
  have d1 : (i : Int) < 4 := by omega
  have hlt2 : i < l.length := by omega
  have hlvt := hlv.keeps hst
  have hix := hlvt.indexAddr (P := Try.prog) (k := .i64) (x := (i : Int)) Try.underlying28 szO (by omega) (by omega)
  rw [Int.toNat_natCast] at hix
  have hld := hlvt.loadAgg (P := Try.prog) agO szO hlt2
  have hoi := (rl.row i hlt2).keeps hst
  obtain ⟨xs, hxs⟩ : ∃ xs, xs = (lc.drop (i * 5)).take 5 := ⟨_, rfl⟩
  rw [← hxs] at hld hoi
  have hxl := hoi.len
  have hxo : l.getD i O.none = l[i] := by simp [List.getD, List.getElem?_eq_getElem hlt2]
  have lr : zg Try.prog t 28 (.pointer (some ⟨s4.next, 3, some 6⟩)) = some lv := htr.load agLs (off := 3) (c := 6) rfl (by simp)
  have hDt : ye (fun j => j < s4.next) t mv tc iv ic D := (hD.lows.keeps (w4 _ k7t)).mono (fun j h => by have := h.2; omega)
  have hoi2 : OIs (fun j => j < s4.next) t xs l[i] := hoi.mono (fun j h => h.2)
  simp -implicitDefEqProofs (disch := omega) only [allW, Nat.reduceLT, ↓reduceIte, hn, h8, eq_true d1]
  obtain ⟨A, hA⟩ : ∃ A : Nat -> Bool, A = fun j => decide (j < t.next) := ⟨_, rfl⟩
  have hAl : ∀ j, A j = true -> j < t.next := by
   intro j h
   rw [hA] at h
   exact of_decide_eq_true h
  have hAo : ∀ j, j < t.next -> A j = true := fun j h => by rw [hA]; exact decide_eq_true h
  have hlow1 : ∀ k, LA.lowV A (some (.pointer (some ⟨s.next, k, some 10⟩))) = true := fun k => LA.lowV_ptr (A := A) (i := s.next) (hAo _ htd.lt)
  have hlow2 : ∀ k, LA.lowV A (some (.pointer (some ⟨s4.next, k, some 6⟩))) = true := fun k => LA.lowV_ptr (A := A) (i := s4.next) (hAo _ htr.lt)
  refine LB.Drawn.looseK A hAl 0 0 (by kernel_rfl) (by kernel_rfl) ?_
  simp -implicitDefEqProofs (disch := omega) only [allW, allR, allL, allB, Nat.reduceSub, zc, Nat.reduceLT, Nat.reduceEqDiff, ↓reduceIte, xu, hn, h2, h6, h8, of3, hlow1, hlow2, xC htd htl, hDt.self, lr, hlvt.self, hix, hld, LA.lowV_elemOld hlvt hAo hlt2, hoi.self]
  refine (YW (lib := libN) rfl rfl _ t D mv tc iv ic hDt hs xs l[i] hoi2 (hsl _ (List.getElem_mem hlt2))).mono ?_
  rintro _ t3 ⟨c3, rfl, ho3, k3⟩
  have kn3 := k3.next
  refine ⟨fun h => h.elim, ?_⟩
  refine (aan _ t3 c3 _ ho3).mono ?_
  rintro _ t4 ⟨rfl, k4'⟩
  have kn4 := k4'.next
  refine ⟨fun h => h.elim, ?_⟩
  have kt4 : Stay t.next t t4 := k3.trans (k4'.weaken (by omega))
  have eo : okN D.items l[i] = (numO (resD D.items l[i])).2 := rfl
  have ev : (numO (resD D.items l[i])).1 = valN D.items l[i] := rfl
  simp -implicitDefEqProofs (disch := omega) only [allW, allL, allB, Nat.reduceLT, Nat.reduceEqDiff, ↓reduceIte, hn, SC, ext0, ext1]
  cases hok : (numO (resD D.items l[i])).2
  ·have hb : boxD D.items o = none := jo (fun h => by
    have h3 := h.2.2
    rw [← hX, List.all_eq_true] at h3
    have := h3 _ (List.getElem_mem hlt2)
    rw [eo, hok] at this
    exact Bool.noConfusion this)
   simp -implicitDefEqProofs (disch := omega) only [allW, zn, Nat.reduceLT, Nat.reduceEqDiff, ↓reduceIte, hn, h4, b0Rx]
   refine zi szRx (by decide) (htb.keeps kt4) rfl rfl rfl rfl ?_
   intro t5 ht5' nt5 et5
   simp -implicitDefEqProofs (disch := omega) only [allW, Nat.reduceLT, ↓reduceIte, hn]
   exact hQ _ _ _ (.inr ⟨rfl, hb, ht5', ((w4 _ k7t).trans (kt4.weaken (by omega))).trans ⟨by omega, fun j hj => et5 j (by omega)⟩, by simp only [zf, hn], by simp only [za, ↓reduceIte, Nat.reduceEqDiff, h4], by simp only [za, ↓reduceIte]⟩)
  have haa : yp Try.prog 48 (.pointer (some ⟨s6.next, 0, some 5⟩)) (.int .i64 (i : Nat)) = some (.pointer (some ⟨s6.next, 0 + i, some 5⟩)) := JX Try.underlying48 wO _ _ _ hlt .i64
  rw [ev]
  simp -implicitDefEqProofs (disch := omega) only [allW, Nat.reduceLT, Nat.reduceEqDiff, ↓reduceIte, hn, h7, h8, haa]
  refine yF wO (htx.keeps kt4) (off := i) (c := 5) rfl (by simp [i64V, mixV]; omega) (v := .int .i64 (valN D.items l[i])) rfl ?_
  intro t5 ht5' nt5 et5
  have hvi : vs.getD i 0 = valN D.items l[i] := by rw [hvs]; simp [List.getD, List.getElem?_map, List.getElem?_eq_getElem hlt2]
  rw [← hvi, KM vs hlt] at ht5'
  have kt5 : Stay s6.next s6 t5 := (hst.trans (kt4.weaken (by omega))).trans ⟨by omega, fun j hj => et5 j (by omega)⟩
  simp -implicitDefEqProofs (disch := omega) only [allW, Nat.reduceLT, Nat.reduceEqDiff, ↓reduceIte, hn, h8, zR]
  refine zz (4 - (i + 1)) (by omega) ⟨i + 1, rfl, by omega, ?_, (htd.keeps kt4).ofPut nt5 et5 (by omega), (htb.keeps kt4).ofPut nt5 et5 (by omega), (htr.keeps kt4).ofPut nt5 et5 (by omega), ht5', kt5, by simp only [zf, hn], by simp only [za, ↓reduceIte, Nat.reduceEqDiff, h2], by simp only [za, ↓reduceIte, Nat.reduceEqDiff, h4], by simp only [za, ↓reduceIte, Nat.reduceEqDiff, h6], by simp only [za, ↓reduceIte, Nat.reduceEqDiff, h7], by simp only [za, ↓reduceIte]; rfl⟩
  intro j hj
  by_cases e : j = i
  ·rw [e, hxo, eo, hok]
  ·exact hall j (by omega)
 clear hn h0 h1 f
 rintro z f t (⟨rfl, hall, htb, htx, hst, hn, h4, h7⟩ | ⟨rfl, hb, htb, hst, hn, h4, h5⟩)
 rotate_left
 ·have lb : zg Try.prog t 48 (.pointer (some ⟨s2.next, 0, some 5⟩)) = some (.agg #[.int .i64 0, .int .i64 0, .int .i64 0, .int .i64 0]) := zd.loadAll (cs := [.int .i64 0, .int .i64 0, .int .i64 0, .int .i64 0]) agRx szRx htb (c := 5) rfl
  simp -implicitDefEqProofs (disch := omega) only [allW, zj, zh, Nat.reduceLT, ↓reduceIte, hn, h4, h5, lb, zy, Try.results18]
  rw [hb]
  exact ⟨rfl, hst⟩
 have hb : boxD D.items o = some (box4 vs) := by
  have := KN (D := D.items) (o := o) (by rw [← hX]; exact c6) (by rw [← hX]; exact cl) (by rw [← hX]; exact hall)
  rw [this, ← hX, hvs]
  rfl
 have m4 : mixV vs 4 = [vs.getD 0 0, vs.getD 1 0, vs.getD 2 0, vs.getD 3 0] := rfl
 rw [m4] at htx
 have ia : ∀ k : Nat, k < 4 -> yp Try.prog 48 (.pointer (some ⟨s6.next, 0, some 5⟩)) (.int .i64 (k : Nat)) = some (.pointer (some ⟨s6.next, 0 + k, some 5⟩)) := fun k hk => JX Try.underlying48 wO _ _ _ hk .i64
 have i0 : yp Try.prog 48 (.pointer (some ⟨s6.next, 0, some 5⟩)) (.int .i64 0) = some (.pointer (some ⟨s6.next, 0, some 5⟩)) := ia 0 (by decide)
 have i1 : yp Try.prog 48 (.pointer (some ⟨s6.next, 0, some 5⟩)) (.int .i64 1) = some (.pointer (some ⟨s6.next, 1, some 5⟩)) := ia 1 (by decide)
 have i2 : yp Try.prog 48 (.pointer (some ⟨s6.next, 0, some 5⟩)) (.int .i64 2) = some (.pointer (some ⟨s6.next, 2, some 5⟩)) := ia 2 (by decide)
 have i3 : yp Try.prog 48 (.pointer (some ⟨s6.next, 0, some 5⟩)) (.int .i64 3) = some (.pointer (some ⟨s6.next, 3, some 5⟩)) := ia 3 (by decide)
 have lx : ∀ k : Nat, k < 4 -> zg Try.prog t 2 (.pointer (some ⟨s6.next, 0 + k, some 5⟩)) = some (.int .i64 (vs.getD k 0)) := by
  intro k hk
  rw [htx.load (P := Try.prog) wH (off := 0 + k) (c := 5) rfl (by simp [i64V]; omega)]
  have : k = 0 ∨ k = 1 ∨ k = 2 ∨ k = 3 := by omega
  rcases this with rfl | rfl | rfl | rfl <;> rfl
 have l0 : zg Try.prog t 2 (.pointer (some ⟨s6.next, 0, some 5⟩)) = some (.int .i64 (vs.getD 0 0)) := lx 0 (by decide)
 have l1 : zg Try.prog t 2 (.pointer (some ⟨s6.next, 1, some 5⟩)) = some (.int .i64 (vs.getD 1 0)) := lx 1 (by decide)
 have l2 : zg Try.prog t 2 (.pointer (some ⟨s6.next, 2, some 5⟩)) = some (.int .i64 (vs.getD 2 0)) := lx 2 (by decide)
 have l3 : zg Try.prog t 2 (.pointer (some ⟨s6.next, 3, some 5⟩)) = some (.int .i64 (vs.getD 3 0)) := lx 3 (by decide)
 simp -implicitDefEqProofs (disch := omega) only [allW, zc, zn, Nat.reduceLT, Nat.reduceEqDiff, ↓reduceIte, hn, h4, h7, i0, i1, i2, i3, l0, l1, l2, l3, b4Rx]
 refine zi szRx (by decide) htb rfl rfl rfl rfl ?_
 intro t5 ht5' nt5 et5
 have lb : zg Try.prog t5 48 (.pointer (some ⟨s2.next, 0, some 5⟩)) = some (.agg (i64V (box4 vs)).toArray) := zd.loadAll (cs := i64V (box4 vs)) agRx szRx ht5' (c := 5) rfl
 simp -implicitDefEqProofs (disch := omega) only [allW, zj, zh, Nat.reduceLT, Nat.reduceEqDiff, ↓reduceIte, hn, h4, lb, zy, Try.results18]
 rw [hb]
 exact ⟨rfl, (w4 _ hst).trans ⟨by omega, fun j hj => et5 j (by omega)⟩⟩
theorem KQ (F : Nat -> Prop) (s : ASt) (D : Dc) (mv : Value) (tc : List Value) (iv : Value) (ic : List Value) (hD : ye F s mv tc iv ic D) (hs : yN D) (cs : List Value) (o : O) (ho : OIs F s cs o) (hso : zu o) :
  Runs Try.prog libN 18 [.agg (docC D mv tc iv).toArray, .agg cs.toArray] s (BoxR s (boxD D.items o)) := rboxF F s D mv tc iv ic hD hs cs o ho hso.fit
end Go.Proofs.Ytokfoagohblkoaa
