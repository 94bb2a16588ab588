/-
  The statement PagesWalks: any document: its pages, with what each inherits, or what is wrong first: the law returns true.
  Conditions: none.
-/
import Derived.Test.YtokfoagohblkoaaRows
import Derived.Test.YtokfoagohblkoaaPgQ
import Derived.Test.YtokfoagohblkoaaDocL
import Derived.Test.YtokfoagohblkoaaLibR
set_option linter.unusedSimpArgs false
set_option linter.unusedVariables false
set_option maxRecDepth 100000
namespace Go.Proofs.Ytokfoagohblkoaa.pagesWalks
open Go.ChangeShapes Go.WideShapes Go.ChangeAt Go.RowKit Go.Cl Go.Lib
theorem eqB (b : Bool) : binA Try.prog .eql 4 (.bool b) (.bool b) = some (.bool true) := by cases b <;> kernel_rfl
set_option maxRecDepth 100000 in
set_option maxHeartbeats 16000000 in
theorem law (s : ASt) (mv : Value) (tc : List Value) (iv : Value) (ic : List Value) (D : Dc) (hD : ye (fun _ => True) s mv tc iv ic D) (hfit : FitD D) (co : List Value) (o : O) (ho : OIs (fun _ => True) s co o) (hfo : Fit o) :
  Runs Try.prog libN 4 [.agg (docC D mv tc iv).toArray, .agg co.toArray] s fun v _ => v = .bool true := by
 obtain ⟨QQ, hQQ⟩ : ∃ QQ : Value -> ASt -> Prop, QQ = fun v _ => v = .bool true := ⟨_, rfl⟩
 rw [← hQQ]
 have htl := hD.trailer.len
 have hol := ho.len
 have dl := xh (D := D) (mv := mv) (iv := iv) htl
 refine Runs.enter 81 Try.func4 rfl rfl rfl rfl ?_
 intro f hn hf
 have h0 : f.get 0 = .agg (docC D mv tc iv).toArray := hf 0
 have h1 : f.get 1 = .agg co.toArray := hf 1
 clear hf
 simp -implicitDefEqProofs (disch := omega) only [allW, Nat.reduceLT, ↓reduceIte, hn, h0]
 refine ze ?_
 intro s1 ht1 hst1 hnx1
 have ht1 : zd s1 s.next (docC D mv tc iv) := ht1
 simp -implicitDefEqProofs (disch := omega) only [allW, Nat.reduceLT, Nat.reduceEqDiff, Nat.reduceAdd, ↓reduceIte, hn, h1, dl]
 refine ze ?_
 intro s2 ht2 hst2 hnx2
 have ht2 : zd s2 s1.next co := ht2
 have n1 := hst1.next
 have n2 := hst2.next
 have hs2 : Stay s.next s s2 := hst1.trans (hst2.weaken n1)
 have ht12 := ht1.keeps hst2
 simp -implicitDefEqProofs (disch := omega) only [allW, allR, zc, Nat.reduceLT, Nat.reduceAdd, ↓reduceIte, hn, hol]
 refine (awakeP s2).mono ?_
 rintro _ s3 ⟨rfl, k3⟩
 have n3 := k3.next
 have ht13 := ht12.keeps k3
 have ht23 := ht2.keeps k3
 have hs3 : Stay s.next s s3 := hs2.trans (k3.weaken (by omega))
 simp -implicitDefEqProofs (disch := omega) only [allW, allR, zc, Nat.reduceLT, Nat.reduceEqDiff, ↓reduceIte, hn, xC ht13 htl]
 refine (aak rfl rfl rfl rfl rfl rfl rfl rfl rfl _ s3 D mv tc iv ic (hD.lows.keeps hs3) hfit).mono ?_
 rintro _ s4 ⟨⟨u, rfl, hu⟩, k4⟩
 have n4 := k4.next
 have ht14 := ht13.keeps k4
 have ht24 := ht23.keeps k4
 have hs4 : Stay s.next s s4 := hs3.trans (k4.weaken (by omega))
 cases u with
 | false =>
  simp -implicitDefEqProofs (disch := omega) only [allW, allR, zj, zh, Nat.reduceLT, Nat.reduceEqDiff, ↓reduceIte, undef, hn, Try.results4]
  rw [hQQ]
 | true =>
 have hfair := hu rfl
 have hsm := hfair.small
 simp -implicitDefEqProofs (disch := omega) only [allW, allR, zc, Nat.reduceLT, Nat.reduceEqDiff, ↓reduceIte, hn, zd.loadO ht24 hol]
 refine (kH rfl rfl rfl rfl rfl rfl o _ s4 co (ho.lows.keeps hs4) hfo).mono ?_
 rintro _ s5 ⟨⟨u, rfl, hmay⟩, k5⟩
 have n5 := k5.next
 have ht15 := ht14.keeps k5
 have ht25 := ht24.keeps k5
 have hs5 : Stay s.next s s5 := hs4.trans (k5.weaken (by omega))
 cases u with
 | false =>
  simp -implicitDefEqProofs (disch := omega) only [allW, allR, zj, zh, Nat.reduceLT, Nat.reduceEqDiff, ↓reduceIte, hn, Try.results4]
  rw [hQQ]
 | true =>
 simp -implicitDefEqProofs (disch := omega) only [allW, allR, zc, Nat.reduceLT, Nat.reduceEqDiff, ↓reduceIte, hn, xC ht15 htl]
 refine (UP _ s5 D mv tc iv ic (hD.lows.keeps hs5) hsm).mono ?_
 rintro _ s6 ⟨av, ac, rfl, hA, rA, sA, lA, k6⟩
 have n6 := k6.next
 have ht16 := ht15.keeps k6
 have ht26 := ht25.keeps k6
 have hs6 : Stay s.next s s6 := hs5.trans (k6.weaken (by omega))
 simp -implicitDefEqProofs (disch := omega) only [allW, allR, zc, Nat.reduceLT, Nat.reduceEqDiff, ↓reduceIte, hn, ext0, ext1, xC ht16 htl]
 refine (aax _ s6 D mv tc iv ic (hD.lows.keeps hs6) hsm).mono ?_
 rintro _ s7 ⟨bv, bc, rfl, hB, rB, sB, lB, k7⟩
 have n7 := k7.next
 have ht17 := ht16.keeps k7
 have ht27 := ht26.keeps k7
 have hs7 : Stay s.next s s7 := hs6.trans (k7.weaken (by omega))
 have hA7 := hA.keeps k7
 have rA7 := rA.keeps wW k7
 obtain ⟨r, hr⟩ : ∃ r, r = qj D.items D.trailer := ⟨_, rfl⟩
 rw [← hr] at hA7 rA7 hB rB sA lA ⊢
 clear hA rA sB lB
 simp -implicitDefEqProofs (disch := omega) only [allW, allR, zc, Nat.reduceLT, Nat.reduceEqDiff, ↓reduceIte, hn, ext0, ext1, not_true, hA7.lenA Try.underlying23, hB.lenA Try.underlying44]
 refine yf.loopOut (fun z f t => ∃ i : Nat, z = r.1.length - i ∧ i ≤ r.1.length ∧ Stay s7.next s7 t ∧ f.n = 81 ∧ f.get 2 = .pointer (some ⟨s.next, 0, some 10⟩) ∧ f.get 3 = .pointer (some ⟨s1.next, 0, some 6⟩) ∧ f.get 5 = av ∧ f.get 7 = bv ∧ f.get 9 = .int .i64 (i : Nat))
  (fun z f t => z = .exit 0 ∧ Stay s7.next s7 t ∧ f.n = 81 ∧ f.get 2 = .pointer (some ⟨s.next, 0, some 10⟩) ∧ f.get 3 = .pointer (some ⟨s1.next, 0, some 6⟩))
  ⟨0, rfl, by omega, Stay.refl _ _, by simp only [zf, hn], by simp only [za, ↓reduceIte, Nat.reduceEqDiff], by simp only [za, ↓reduceIte, Nat.reduceEqDiff], by simp only [za, ↓reduceIte, Nat.reduceEqDiff], by simp only [za, ↓reduceIte, Nat.reduceEqDiff], by simp only [za, ↓reduceIte]; rfl⟩ ?_ ?_
 ·clear hn h0 h1 f
  rintro Q hQ z f t ⟨i, rfl, hi, hst, hn, h2, h3, h5, h7, h9⟩
  have hAt := hA7.keeps hst
  have hBt := hB.keeps hst
  by_cases hlt : i < r.1.length
  rotate_left
  ·obtain rfl : i = r.1.length := by omega
   have d1 : ¬ ((r.1.length : Nat) : Int) < ((r.1.length : Nat) : Int) := by omega
   simp -implicitDefEqProofs (disch := omega) only [allW, zc, Nat.reduceLT, Nat.reduceEqDiff, ↓reduceIte, hn, h5, h9, hAt.lenA Try.underlying23, eq_false d1]
   exact hQ _ _ _ ⟨rfl, hst, by simp only [zf, hn], by simp only [za, ↓reduceIte, Nat.reduceEqDiff, h2], by simp only [za, ↓reduceIte, Nat.reduceEqDiff, h3]⟩
  have d1 : (i : Int) < (r.1.length : Int) := by omega
  have hix := hAt.indexAddr (P := Try.prog) (k := .i64) (x := (i : Int)) Try.underlying23 szPg (by omega) (by omega)
  have hiy := hBt.indexAddr (P := Try.prog) (k := .i64) (x := (i : Int)) Try.underlying44 szRp (by omega) (by omega)
  rw [Int.toNat_natCast] at hix hiy
  have hpa := (rA7.keeps wW hst).row i hlt
  have hpb := (rB.keeps wW hst).row i hlt
  obtain ⟨s_1, s_2⟩ := sA _ (List.getElem_mem hlt)
  obtain ⟨P, hP⟩ : ∃ P, P = r.1[i] := ⟨_, rfl⟩
  rw [← hP] at hpa hpb s_1 s_2
  have hld : ∀ u, Stay t.next t u -> zg Try.prog u 57 (zL 20 av i) = some (.agg ((ac.drop (i * 20)).take 20).toArray) := fun u k => (hAt.keeps k).loadAgg (P := Try.prog) agPg szPg hlt
  have hle : ∀ u, Stay t.next t u -> zg Try.prog u 52 (zL 20 bv i) = some (.agg ((bc.drop (i * 20)).take 20).toArray) := fun u k => (hBt.keeps k).loadAgg (P := Try.prog) agRp szRp hlt
  obtain ⟨xa, hxa⟩ : ∃ xa, xa = (ac.drop (i * 20)).take 20 := ⟨_, rfl⟩
  obtain ⟨xb, hxb⟩ : ∃ xb, xb = (bc.drop (i * 20)).take 20 := ⟨_, rfl⟩
  rw [← hxa] at hpa hld
  rw [← hxb] at hpb hle
  simp -implicitDefEqProofs (disch := omega) only [allW, zc, Nat.reduceLT, Nat.reduceEqDiff, ↓reduceIte, hn, h5, h9, hAt.lenA Try.underlying23, eq_true d1]
  obtain ⟨B, hB⟩ : ∃ B : Nat -> Bool, B = fun j => decide (j < t.next) := ⟨_, rfl⟩
  have hBl : ∀ j, B j = true -> j < t.next := by
   intro j h
   rw [hB] at h
   exact of_decide_eq_true h
  have hBo : ∀ j, j < t.next -> B j = true := fun j h => by rw [hB]; exact decide_eq_true h
  refine LB.Drawn.looseK B hBl 1 0 (by kernel_rfl) (by kernel_rfl) ?_
  have hsq := Stay.refl t.next t
  have hwa := LA.lowV_elemOld hAt hBo hlt
  have hwb := LA.lowV_elemOld hBt hBo hlt
  simp -implicitDefEqProofs (disch := omega) only [allW, allR, allL, allB, Nat.sub_self, zc, Nat.reduceLT, Nat.reduceEqDiff, ↓reduceIte, xu, hn, h5, h7, h9, hix, hiy, hld _ hsq, hwa, hAt.self, hBt.self, hpa.self]
  refine (Tz _ t xa P hpa).mono ?_
  rintro _ t2 ⟨rfl, k2⟩
  have m2 := k2.next
  refine ⟨fun _ => LA.Stay.toA hBl k2, ?_⟩
  simp -implicitDefEqProofs (disch := omega) only [allW, allR, allL, allB, Nat.reduceSub, zc, Nat.reduceLT, Nat.reduceEqDiff, ↓reduceIte, hn, hle _ k2, hwb, hpb.self]
  refine (SJ _ _ t2 xa xb P (wW.keeps hpa k2) (wW.keeps hpb k2) s_1 s_2).mono ?_
  rintro _ t3 ⟨rfl, k3'⟩
  refine ⟨fun h => h.elim, ?_⟩
  simp -implicitDefEqProofs (disch := omega) only [allW, allL, allB, Nat.reduceLT, Nat.reduceEqDiff, ↓reduceIte, allW, Nat.reduceLT, Nat.reduceEqDiff, ↓reduceIte, hn, h9, zR]
  exact zz (r.1.length - (i + 1)) (by omega) ⟨i + 1, rfl, by omega, (hst.trans (k2.weaken hst.next)).trans (k3'.weaken (by have := hst.next; omega)), by simp only [zf, hn], by simp only [za, ↓reduceIte, Nat.reduceEqDiff, h2], by simp only [za, ↓reduceIte, Nat.reduceEqDiff, h3], by simp only [za, ↓reduceIte, Nat.reduceEqDiff, h5], by simp only [za, ↓reduceIte, Nat.reduceEqDiff, h7], by simp only [za, ↓reduceIte]; rfl⟩
 clear hn h0 h1 f
 rintro z f t ⟨rfl, hst, hn, h2, h3⟩
 have nt := hst.next
 have hst' : Stay s.next s t := hs7.trans (hst.weaken (by have := hs7.next; omega))
 have ht1t := ht17.keeps hst
 have ht2t := ht27.keeps hst
 simp -implicitDefEqProofs (disch := omega) only [allW, allR, zc, Nat.reduceLT, Nat.reduceEqDiff, ↓reduceIte, hn, h2, h3, xC ht1t htl, zd.loadO ht2t hol]
 refine (pboxF _ t D mv tc iv ic (hD.lows.keeps hst') hsm co o (ho.lows.keeps hst') hfo).mono ?_
 rintro _ t1 ⟨rfl, k1⟩
 obtain ⟨b1, hb1⟩ : ∃ b1, b1 = boxD D.items o := ⟨_, rfl⟩
 have hMl : (b1.getD Z4).length = 4 := by rw [hb1]; exact wb
 rw [← hb1]
 have m1 := k1.next
 have hd5 : [Value.int .i64 0, .int .i64 0, .int .i64 0, .int .i64 0].length + 1 = 5 := rfl
 simp -implicitDefEqProofs (disch := omega) only [allW, Nat.reduceLT, Nat.reduceEqDiff, ↓reduceIte, hn, ext0, ext1, zBx, plBx]
 refine ze ?_
 intro t2 ht2' hst2' hnx2'
 simp -implicitDefEqProofs (disch := omega) only [allW, Nat.reduceLT, Nat.reduceEqDiff, ↓reduceIte, hn, hd5]
 refine wF szBx (by decide) ht2' (off := 0) (c := 5) rfl vF (by simp [i64V, hMl]) (by decide) (wV _) ?_
 intro t3 ht3' nt3 et3
 have ov := ZA (l := [Value.int .i64 0, .int .i64 0, .int .i64 0, .int .i64 0]) (vs := i64V (b1.getD Z4)) (by simp [i64V, hMl])
 rw [ov] at ht3'
 have k13 : Stay t.next t t3 := (k1.trans (hst2'.weaken m1)).trans ⟨by omega, fun j hj => et3 j (by omega)⟩
 have hst3 : Stay s.next s t3 := hst'.trans (k13.weaken (by have := hst'.next; omega))
 simp -implicitDefEqProofs (disch := omega) only [allW, allR, zc, Nat.reduceLT, Nat.reduceEqDiff, ↓reduceIte, hn, h2, h3, xC (ht1t.keeps k13) htl, zd.loadO (ht2t.keeps k13) hol]
 refine (rboxF _ t3 D mv tc iv ic (hD.lows.keeps hst3) hsm co o (ho.lows.keeps hst3) hfo).mono ?_
 rintro _ t4 ⟨rfl, k4'⟩
 have m4 := k4'.next
 rw [← hb1]
 simp -implicitDefEqProofs (disch := omega) only [allW, Nat.reduceLT, Nat.reduceEqDiff, ↓reduceIte, hn, ext0, ext1, zRx, plBx]
 refine ze ?_
 intro t5 ht5' hst5' hnx5'
 simp -implicitDefEqProofs (disch := omega) only [allW, Nat.reduceLT, Nat.reduceEqDiff, ↓reduceIte, hn, hd5]
 refine wF szRx (by decide) ht5' (off := 0) (c := 5) rfl vF (by simp [i64V, hMl]) (by decide) (wV _) ?_
 intro t6 ht6' nt6 et6
 rw [ov] at ht6'
 have hl4 : (i64V (b1.getD Z4)).length = 4 := by simp [i64V, hMl]
 have lx : zg Try.prog t6 37 (.pointer (some ⟨t1.next, 0, some 5⟩)) = some (.agg (i64V (b1.getD Z4)).toArray) := zd.loadAll agBx (by rw [hl4]; exact szBx) (((ht3'.keeps k4').keeps hst5').ofPut nt6 et6 (by omega)) (by rw [hl4])
 have ly : zg Try.prog t6 48 (.pointer (some ⟨t4.next, 0, some 5⟩)) = some (.agg (i64V (b1.getD Z4)).toArray) := zd.loadAll agRx (by rw [hl4]; exact szRx) ht6' (by rw [hl4])
 simp -implicitDefEqProofs (disch := omega) only [allW, allR, zh, Nat.reduceLT, Nat.reduceEqDiff, ↓reduceIte, allW, allR, zj, zh, Nat.reduceLT, Nat.reduceEqDiff, ↓reduceIte, undef, hn, eqB, lx, ly, Ug hMl, Try.results4]
 rw [hQQ]
theorem own : ownKnob Try.prog.godebug = none := by kernel_rfl
theorem sound : Yl Try.prog libN = true := by kernel_rfl
theorem laid : laidOutB Try.prog = true := by kernel_rfl
theorem read : ∀ t ∈ Try.f4.params.toList, Try.prog.readableRec t = true ∧ t < Try.prog.types.size := by
 have : (Try.f4.params.toList.all fun t => Try.prog.readableRec t && decide (t < Try.prog.types.size)) = true := by kernel_rfl
 intro t ht
 simpa using List.all_eq_true.mp this t ht
set_option maxRecDepth 100000 in
theorem lifted (os : Os) (started : os.Started) (H : Type) (enc : TypeId × Value -> H) :
  ReturnsInHanded {} Try.checked os 4 .any (Rows.pagesWalksSpec.pre6 enc Try.prog Try.f4 Rows.pagesWalksRow.domain false) (Rows.pagesWalksSpec.post enc Try.prog Try.f4 false true false false) := by
 refine returnsInHanded_of_change_sized (C := Try.checked) own started (by kernel_rfl) Try.func4
  (ChangeSpec.witness6 (enc := enc) (C := Try.checked) false ⟨#[], #[.agg #[.int .i64 0, .slice none 0 0, .int .i64 0, .int .i64 0, .int .i64 0, .slice none 0 0, .slice none 0 0, .slice none 0 0, .slice none 0 0], .agg #[.int .i64 0, .int .i64 0, .slice none 0 0, .slice none 0 0, .slice none 0 0]], []⟩ 8 (by kernel_rfl) (by kernel_rfl) (by kernel_rfl) (by kernel_rfl)) ?_
 intro W base args ds gs before hval hW hcnd hsz _
 obtain ⟨p, q, hA, _, _, _, _⟩ := id hW
 have hA : DataW.TrodAll enc Try.prog W 0 (fun _ => true) true Try.f4.params.toList args.toList ds p := hA
 rw [Try.params4] at hA
 obtain ⟨v0, v1, d0, d1, p0, p1, rfl, rfl, rfl, h0, h1⟩ := trodAll_two hA
 have hv0 : Value.okWide Try.prog W .any base 34 v0 := hval 0 _ _ (by rw [Try.params4]; rfl) rfl
 have hw0 : Wt Try.prog 34 d0 := fun n hn => by simpa using List.all_eq_true.1 hsz n (DataW.weights_mem_each (j := 0) (t := 34) (d := d0) (by rw [Try.params4]; rfl) rfl n hn)
 have hv1 : Value.okWide Try.prog W .any base 31 v1 := hval 1 _ _ (by rw [Try.params4]; rfl) rfl
 have hw1 : Wt Try.prog 31 d1 := fun n hn => by simpa using List.all_eq_true.1 hsz n (DataW.weights_mem_each (j := 1) (t := 31) (d := d1) (by rw [Try.params4]; rfl) rfl n hn)
 obtain ⟨S0, mv0, tc0, iv0, ic0, D0, hg0, hr0, ho0, hf0⟩ := abn (xD.start W) hv0 h0 hw0
 obtain ⟨S1, c1, o1, hg1, hr1, ho1, hf1⟩ := abl hg0.begun hv1 h1 hw1
 have hcalls := Runs.callsL libFr (libOk _) sound rfl hg1.begun (law S1.s mv0 tc0 iv0 ic0 D0 (ho0.keeps hg1.stay) hf0 c1 o1 ho1 hf1) (args' := #[v0, v1]) (VRL.cons (hr0.mono hg1.ext) (VRL.cons hr1 VRL.nil))
 refine hcalls.mono fun e W' ⟨he, hb⟩ => ?_
 subst he
 exact SX laid read rfl Try.underlying4 rfl (fun L hL => by match L, hL with | [a0, a1], _ => rfl) hW hb
theorem over : Rows.pagesWalksRow.holds Try.pinned (OpenSpec.ofChange Rows.pagesWalksSpec) :=
 OpenClaim.holds_of_wide 4 Try.f4 rfl rfl rfl rfl rfl rfl rfl ⟨rfl, rfl, rfl, rfl, rfl⟩ rfl rfl rfl rfl rfl (by kernel_rfl) Try.func4 (by kernel_rfl)
  (of_decide_eq_true (by kernel_rfl)) (by unfold Func.isWrapper; first | (rw [if_pos (by decide +kernel)]; kernel_rfl) | (rw [if_neg (by decide +kernel)]; exact ⟨rfl, rfl⟩))
  (fun os started H enc _ => lifted os started H enc)
theorem proved : Rows.PagesWalksSaid := over
#print axioms proved
end Go.Proofs.Ytokfoagohblkoaa.pagesWalks