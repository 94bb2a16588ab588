/-
  Deflate by the fixed codes, read by the reference: lengths, distances, a block.
-/
import Derived.Test.YtnclklboogdoiaaFixD
import Derived.Test.YtnclklboogdoiaaFixV
import Derived.Test.YtnclklboogdoiaaLow
set_option linter.unusedSimpArgs false
set_option linter.unusedVariables false
set_option maxRecDepth 100000
namespace Go.Proofs.Ytnclklboogdoiaa
open Go.Cl Go.Cl.Rw Go.Cl.Sto Go.Cl.Fx
set_option maxHeartbeats 4000000 in
theorem flength_any {lib : Prims} (hl : lib.at 59 = none) (hlt : lib.at 32 = none) (base : Nat) (s : ASt) (jf jb : Nat) (D P : List UInt8) (p : Nat) (M : Int) (bv o : Value) (h : Fl base s jf jb D p P M bv o) (hDl : D.length ≤ 1000000000) (q : Nat) (hq1 : 257 ≤ q) (hq : q ≤ 285) (hD : p + lenW q ≤ 8 * D.length) :
    Runs Try.prog lib 59 [bptr jf, .int .i64 (q : Nat)] s fun v s' => v = .int .i64 (lenOf q (bitsN D p (lenW q)) : Nat) ∧ Fl base s' jf jb D (p + lenW q) P M bv o ∧ FTo jf jb o s o s' := by
  refine Runs.enter 32 Try.func59 rfl hl rfl rfl ?_
  intro f hn hf
  have h0 : f.get 0 = bptr jf := hf 0
  have h1 : f.get 1 = .int .i64 (q : Nat) := hf 1
  clear hf
  by_cases c1 : q ≤ 264
  · have d1 : (q : Int) ≤ 264 := by omega
    have ew : lenW q = 0 := by unfold lenW; rw [if_pos (.inl c1)]
    have eo : ((lenOf q (bitsN D p (lenW q)) : Nat) : Int) = (q : Int) - 254 := by unfold lenOf; rw [if_pos c1]; omega
    simp (config := { maxSteps := 1000000, implicitDefEqProofs := false }) (disch := omega) only [allW, wfn_ret, oneOf, Nat.reduceLT, Nat.reduceEqDiff, ↓reduceIte, hn, h1, eq_true d1, wrapI, Try.results59]
    rw [eo, ew]
    exact ⟨rfl, h, FTo.refl _ _ _ _⟩
  have d1 : ¬ (q : Int) ≤ 264 := by omega
  by_cases c2 : q = 285
  · have d2 : (q : Int) = 285 := by omega
    have ew : lenW q = 0 := by unfold lenW; rw [if_pos (.inr c2)]
    have eo : lenOf q (bitsN D p (lenW q)) = 258 := by unfold lenOf; rw [if_neg c1, if_pos c2]
    simp (config := { maxSteps := 1000000, implicitDefEqProofs := false }) (disch := omega) only [allW, wfn_ret, oneOf, Nat.reduceLT, Nat.reduceEqDiff, ↓reduceIte, hn, h1, eq_false d1, eq_true d2, Try.results59]
    rw [eo, ew]
    exact ⟨rfl, h, FTo.refl _ _ _ _⟩
  have d2 : ¬ (q : Int) = 285 := by omega
  have ew : lenW q = (q - 261) / 4 := by unfold lenW; rw [if_neg (by omega)]
  have e1 : (q : Int) - 261 = ((q - 261 : Nat) : Int) := by omega
  have e2 : (q : Int) - 265 = ((q - 265 : Nat) : Int) := by omega
  have q4 : ((q - 261 : Nat) : Int).tdiv 4 = (((q - 261) / 4 : Nat) : Int) := by rw [Int.tdiv_eq_ediv_of_nonneg (by omega)]; omega
  have r4 : ((q - 265 : Nat) : Int).tmod 4 = (((q - 265) % 4 : Nat) : Int) := by rw [Int.tmod_eq_emod_of_nonneg (by omega)]; omega
  have e3 : (4 : Int) + (((q - 265) % 4 : Nat) : Int) = ((4 + (q - 265) % 4 : Nat) : Int) := by omega
  have hp := pow_le5 (show (q - 261) / 4 ≤ 5 by omega)
  have hm7 : 4 + (q - 265) % 4 ≤ 7 := by omega
  have hx : (4 + (q - 265) % 4) * 2 ^ ((q - 261) / 4) ≤ 7 * 2 ^ 5 := Nat.mul_le_mul hm7 hp
  have hsh := shlS Try.prog 3 .u64 (x := 4 + (q - 265) % 4) (k := (q - 261) / 4) (by omega) (by omega)
  have eo : lenOf q (bitsN D p (lenW q)) = (4 + (q - 265) % 4) * 2 ^ ((q - 261) / 4) + 3 + bitsN D p ((q - 261) / 4) := by unfold lenOf; rw [if_neg c1, if_neg c2, ew]
  have hbl := bitsN_lt D p ((q - 261) / 4)
  rw [eo]
  rw [ew] at hD ⊢
  generalize hX : (4 + (q - 265) % 4) * 2 ^ ((q - 261) / 4) = X at hx hsh
  have w0 := h.f.load (P := Try.prog) agBitsP (off := 0) (c := 4) rfl (by simp)
  simp (config := { maxSteps := 1000000, implicitDefEqProofs := false }) (disch := omega) only [allW, allR, evalAll, Nat.reduceLT, Nat.reduceEqDiff, ↓reduceIte, hn, h0, h1, eq_false d1, eq_false d2, wrapI, e1, bin_quo, q4, e2, bin_rem, r4, e3, conv_int Try.underlying3 Try.underlying29, wrapu64x, hsh, wfld0, w0]
  refine (takeT_any hlt base s jf jb D P p ((q - 261) / 4) M bv o h (by omega) hD hDl).mono ?_
  rintro _ s2 ⟨rfl, hF, hto⟩
  have e4 : ((X : Nat) : Int) + 3 + ((bitsN D p ((q - 261) / 4) : Nat) : Int) = ((X + 3 + bitsN D p ((q - 261) / 4) : Nat) : Int) := by omega
  simp (config := { maxSteps := 1000000, implicitDefEqProofs := false }) (disch := omega) only [allW, wfn_ret, oneOf, Nat.reduceLT, Nat.reduceEqDiff, ↓reduceIte, hn, wrapI, e4, Try.results59]
  exact ⟨hF, hto⟩
set_option maxHeartbeats 4000000 in
theorem fdistance_any {lib : Prims} (hl : lib.at 60 = none) (hlt : lib.at 32 = none) (base : Nat) (s : ASt) (jf jb : Nat) (D P : List UInt8) (p : Nat) (M : Int) (bv o : Value) (h : Fl base s jf jb D p P M bv o) (hDl : D.length ≤ 1000000000) (q : Nat) (hq : q ≤ 29) (hD : p + dstW q ≤ 8 * D.length) :
    Runs Try.prog lib 60 [bptr jf, .int .i64 (q : Nat)] s fun v s' => v = .int .i64 (dstOf q (bitsN D p (dstW q)) : Nat) ∧ Fl base s' jf jb D (p + dstW q) P M bv o ∧ FTo jf jb o s o s' := by
  refine Runs.enter 27 Try.func60 rfl hl rfl rfl ?_
  intro f hn hf
  have h0 : f.get 0 = bptr jf := hf 0
  have h1 : f.get 1 = .int .i64 (q : Nat) := hf 1
  clear hf
  by_cases c1 : q ≤ 3
  · have d1 : (q : Int) ≤ 3 := by omega
    have ew : dstW q = 0 := by unfold dstW; rw [if_pos c1]
    have eo : ((dstOf q (bitsN D p (dstW q)) : Nat) : Int) = (q : Int) + 1 := by unfold dstOf; rw [if_pos c1]; omega
    simp (config := { maxSteps := 1000000, implicitDefEqProofs := false }) (disch := omega) only [allW, wfn_ret, oneOf, Nat.reduceLT, Nat.reduceEqDiff, ↓reduceIte, hn, h1, eq_true d1, wrapI, Try.results60]
    rw [eo, ew]
    exact ⟨rfl, h, FTo.refl _ _ _ _⟩
  have d1 : ¬ (q : Int) ≤ 3 := by omega
  have ew : dstW q = q / 2 - 1 := by unfold dstW; rw [if_neg c1]
  have q4 : (q : Int).tdiv 2 = ((q / 2 : Nat) : Int) := by rw [Int.tdiv_eq_ediv_of_nonneg (by omega)]; omega
  have e1 : ((q / 2 : Nat) : Int) - 1 = ((q / 2 - 1 : Nat) : Int) := by omega
  have r4 : (q : Int).tmod 2 = ((q % 2 : Nat) : Int) := by rw [Int.tmod_eq_emod_of_nonneg (by omega)]; omega
  have e3 : (2 : Int) + ((q % 2 : Nat) : Int) = ((2 + q % 2 : Nat) : Int) := by omega
  have hp := pow_le5 (show q / 2 - 1 ≤ 13 by omega)
  have hm7 : 2 + q % 2 ≤ 3 := by omega
  have hx : (2 + q % 2) * 2 ^ (q / 2 - 1) ≤ 3 * 2 ^ 13 := Nat.mul_le_mul hm7 hp
  have hsh := shlS Try.prog 3 .u64 (x := 2 + q % 2) (k := q / 2 - 1) (by omega) (by omega)
  have eo : dstOf q (bitsN D p (dstW q)) = (2 + q % 2) * 2 ^ (q / 2 - 1) + 1 + bitsN D p (q / 2 - 1) := by unfold dstOf; rw [if_neg c1, ew]
  have hbl := bitsN_lt D p (q / 2 - 1)
  rw [eo]
  rw [ew] at hD ⊢
  generalize hX : (2 + q % 2) * 2 ^ (q / 2 - 1) = X at hx hsh
  have w0 := h.f.load (P := Try.prog) agBitsP (off := 0) (c := 4) rfl (by simp)
  simp (config := { maxSteps := 1000000, implicitDefEqProofs := false }) (disch := omega) only [allW, allR, evalAll, Nat.reduceLT, Nat.reduceEqDiff, ↓reduceIte, hn, h0, h1, eq_false d1, bin_quo, q4, wrapI, e1, bin_rem, r4, e3, conv_int Try.underlying3 Try.underlying29, wrapu64x, hsh, wfld0, w0]
  refine (takeT_any hlt base s jf jb D P p (q / 2 - 1) M bv o h (by omega) hD hDl).mono ?_
  rintro _ s2 ⟨rfl, hF, hto⟩
  have e4 : ((X : Nat) : Int) + 1 + ((bitsN D p (q / 2 - 1) : Nat) : Int) = ((X + 1 + bitsN D p (q / 2 - 1) : Nat) : Int) := by omega
  simp (config := { maxSteps := 1000000, implicitDefEqProofs := false }) (disch := omega) only [allW, wfn_ret, oneOf, Nat.reduceLT, Nat.reduceEqDiff, ↓reduceIte, hn, wrapI, e4, Try.results60]
  exact ⟨hF, hto⟩
end Go.Proofs.Ytnclklboogdoiaa
namespace Go.Cl.Fx
open Go.Cl.Rw Go.Cl.Sto
/-- What one symbol's code says, where it was written. -/
theorem sym_read {p : List UInt8 × Nat} (h : Fine p) {q : Nat} (hq : q < 288) {D : List UInt8} {nb : Nat} (hD : Pre (symP p q) (D, nb)) : fixK.getD q 0 = hi D p.2 (symC q).2 ∧ ∀ i k, i < 288 → 1 ≤ k → k ≤ (symC q).2 → fixL.getD i 0 = k → fixK.getD i 0 = hi D p.2 k → i = q := by
  have hc := symC_lt hq
  refine ⟨?_, fun i k hi1 _ hk h1 h2 => ?_⟩
  · rw [fixK_at hq, codeP_read h (symC q).1 (symC q).2 hD (Nat.le_refl _), Nat.sub_self, Nat.pow_zero, Nat.div_one, Nat.mod_eq_of_lt hc]
  · rw [fixL_at hi1] at h1
    rw [fixK_at hi1, codeP_read h (symC q).1 (symC q).2 hD hk] at h2
    exact symC_pre hq hi1 hk h1 h2
theorem fixD_at {i : Nat} (h : i < 32) : fixD.getD i 0 = 5 := by
  have key : ∀ i, i < 32 → fixD.getD i 0 = 5 := by decide
  exact key i h
theorem range_at {i n : Nat} (h : i < n) : (List.range n).getD i 0 = i := by
  simp [List.getD_eq_getElem?_getD, List.getElem?_range h]
theorem dst_read {p : List UInt8 × Nat} (h : Fine p) {q : Nat} (hq : q < 32) {D : List UInt8} {nb : Nat} (hD : Pre (codeP p q 5) (D, nb)) : (List.range 32).getD q 0 = hi D p.2 5 ∧ ∀ i k, i < 32 → 1 ≤ k → k ≤ 5 → fixD.getD i 0 = k → (List.range 32).getD i 0 = hi D p.2 k → i = q := by
  have e5 : hi D p.2 5 = q := by
    rw [codeP_read h q 5 hD (Nat.le_refl _)]
    simp
    omega
  refine ⟨by rw [range_at hq, e5], fun i k hi1 _ _ h1 h2 => ?_⟩
  rw [fixD_at hi1] at h1
  subst h1
  rw [range_at hi1, e5] at h2
  exact h2
theorem takeN_next {l : List UInt8} {a : Nat} (h : a < l.length) : l.take (a + 1) = l.take a ++ [l.getD a 0] := by
  rw [List.take_add_one, List.getElem?_eq_getElem h, List.getD_eq_getElem?_getD, List.getElem?_eq_getElem h]; rfl
end Go.Cl.Fx
namespace Go.Proofs.Ytnclklboogdoiaa
open Go.Cl Go.Cl.Rw Go.Cl.Sto Go.Cl.Fx
set_option maxRecDepth 100000 in
set_option maxHeartbeats 8000000 in
theorem coded_any {lib : Prims} (hl : lib.at 35 = none) (hco : lib.at 46 = none) (hsy : lib.at 58 = none) (hlt : lib.at 32 = none) (hpu : lib.at 57 = none) (hln : lib.at 59 = none) (hds : lib.at 60 = none)
    (base : Nat) (s : ASt) (jf jb : Nat) (D : List UInt8) (M : Int) (bv o : Value) (l : List UInt8) (nb : Nat) (h : Fl base s jf jb D 3 [] M bv o) (hDl : D.length ≤ 1000000000) (hM : (l.length : Int) ≤ M) (hll : l.length ≤ 1000000000) (hb : base ≤ s.next)
    (ta td : Value) (hA : Own s 1 ta 288 (natsV fixL)) (hB : Own s 1 td 32 (natsV fixD)) (pA : ApartF jf jb o ta) (pB : ApartF jf jb o td) (hpre : Pre (fixP l) (D, nb)) (hnb : nb ≤ 8 * D.length) :
    Runs Try.prog lib 35 [bptr jf, ta, td] s fun _ s' => ∃ o', Fl base s' jf jb D (fixP l).2 l M bv o' ∧ Stay base s s' := by
  have hAl := fixL_length
  have hKl := fixK_length
  have hlel := hpre.le
  have hlel : (fixP l).2 ≤ nb := hlel
  refine Runs.enter 147 Try.func35 rfl hl rfl rfl ?_
  intro f hn hf
  have h0 : f.get 0 = bptr jf := hf 0
  have h1 : f.get 1 = ta := hf 1
  have h2 : f.get 2 = td := hf 2
  clear hf
  simp (config := { maxSteps := 1000000, implicitDefEqProofs := false }) (disch := omega) only [allW, allR, evalAll, Nat.reduceLT, ↓reduceIte, hn, h1]
  refine (codes_any hco s ta fixL (by rw [hAl]; exact hA.sees) (by rw [hAl]; decide)).mono ?_
  rintro tc s1 ⟨hC, -, hCF, k1⟩
  rw [codes_fixL, hAl] at hC
  have n1 := k1.next
  simp (config := { maxSteps := 1000000, implicitDefEqProofs := false }) (disch := omega) only [allW, allR, evalAll, Nat.reduceLT, Nat.reduceEqDiff, ↓reduceIte, hn, h2]
  refine (codes_any hco s1 td fixD ((hB.keeps k1).sees) (by decide)).mono ?_
  rintro te s2 ⟨hE, -, hEF, k2⟩
  have hE : Own s2 1 te 32 (natsV (codesC fixD)) := hE
  rw [codes_fixD] at hE
  have n2 := k2.next
  have hs2 : Stay s.next s s2 := k1.trans (k2.weaken n1)
  have hF2 : Fl base s2 jf jb D 3 [] M bv o := ⟨h.b.keeps hs2, h.f.keeps hs2, h.low.stay (hs2.weaken hb), h.own.keeps hs2, h.fresh, h.nb, h.nf, h.ne, h.lb, h.lf⟩
  have hjf := h.f.lt
  have hjb := h.b.lt
  have hol : ∀ i, idOf o = some i → i < s.next := fun i hi => h.own.idlt i hi
  have pC : ApartF jf jb o tc := fun i hi => ⟨by have := hCF i hi; omega, by have := hCF i hi; omega, fun e => by have := hol i e; have := hCF i hi; omega⟩
  have pE : ApartF jf jb o te := fun i hi => ⟨by have := hEF i hi; omega, by have := hEF i hi; omega, fun e => by have := hol i e; have := hEF i hi; omega⟩
  have hA2 := hA.keeps hs2
  have hB2 := hB.keeps hs2
  have hC2 := hC.keeps k2
  have hh2 := headP_ok.2
  have hfin : fixP l = symP (fixA l 0 headP) 256 := fixP_eq l
  simp (config := { maxSteps := 1000000, implicitDefEqProofs := false }) (disch := omega) only [allW, Nat.reduceLT, Nat.reduceEqDiff, ↓reduceIte, hn]
  refine Comes.loopOut (fun z f t => ∃ (a : Nat) (p : List UInt8 × Nat) (o1 : Value), z = l.length - a + 1 ∧ a ≤ l.length ∧ Fl base t jf jb D p.2 (l.take a) M bv o1 ∧ Fine p ∧ fixA l a p = fixA l 0 headP ∧ FTo jf jb o s2 o1 t ∧ Own t 1 ta 288 (natsV fixL) ∧ Own t 1 td 32 (natsV fixD) ∧ Own t 1 tc 288 (natsV fixK) ∧ Own t 1 te 32 (natsV (List.range 32)) ∧ ApartF jf jb o1 ta ∧ ApartF jf jb o1 td ∧ ApartF jf jb o1 tc ∧ ApartF jf jb o1 te ∧ f.n = 147 ∧ f.get 0 = bptr jf ∧ f.get 1 = ta ∧ f.get 2 = td ∧ f.get 6 = tc ∧ f.get 7 = te)
    (fun z f t => z = .ret ∧ ∃ o1, Fl base t jf jb D (fixP l).2 l M bv o1 ∧ FTo jf jb o s2 o1 t ∧ f.n = 147)
    ⟨0, headP, o, rfl, by omega, by rw [hh2]; exact hF2, headP_fine, rfl, FTo.refl _ _ _ _, hA2, hB2, hC2, hE, pA, pB, pC, pE, by simp only [n_put, hn], by simp only [get_put, ↓reduceIte, Nat.reduceEqDiff, h0], by simp only [get_put, ↓reduceIte, Nat.reduceEqDiff, h1], by simp only [get_put, ↓reduceIte, Nat.reduceEqDiff, h2], by simp only [get_put, ↓reduceIte, Nat.reduceEqDiff], by simp only [get_put, ↓reduceIte]⟩ ?_ ?_
  · clear hn h0 h1 h2 f hF2 hA hB hA2 hB2 hC hC2 hE
    rintro Q hQ z f t ⟨a, p, o1, rfl, ha, hF, hp, hfx, hto, hA, hB, hC, hE, pA, pB, pC, pE, hn, h0, h1, h2, h6, h7⟩
    have w0 := hF.f.load (P := Try.prog) agBitsP (off := 0) (c := 4) rfl (by simp)
    have l2 := hF.b.load (P := Try.prog) agInt (off := 2) (c := 4) rfl (by simp)
    by_cases hlt' : a < l.length
    rotate_left
    · obtain rfl : a = l.length := by omega
      rw [fixA_end l p (Nat.le_refl _)] at hfx
      rw [List.take_length] at hF
      have hPre : Pre (symP p 256) (D, nb) := by rw [hfx, ← hfin]; exact hpre
      obtain ⟨r1, r2⟩ := sym_read hp (q := 256) (by decide) hPre
      have hsz : (fixP l).2 = p.2 + (symC 256).2 := by rw [hfin, ← hfx, symP_snd]
      have hC8 : (symC 256).2 = 7 := rfl
      simp (config := { maxSteps := 1000000, implicitDefEqProofs := false }) (disch := omega) only [allW, allR, evalAll, Nat.reduceLT, Nat.reduceEqDiff, ↓reduceIte, hn, h0, h1, h6, wfld0, tfld2, w0, l2]
      refine (readS_any hsy hlt base t jf jb D l p.2 M bv o1 hF hDl ta tc fixL fixK (by rw [hAl]; exact hA) (by rw [hAl]; exact hC) (by rw [hKl, hAl]) (by rw [hAl]; decide) pA pC 256 (symC 256).2 (by rw [hAl]; decide) (fixL_at (by decide)) (by decide) (by decide) r1 (fun i k h1 => r2 i k (by rw [hAl] at h1; exact h1)) (by omega)).mono ?_
      rintro _ t1 ⟨rfl, hF1, to1⟩
      rw [← hsz] at hF1
      have w0 := hF1.f.load (P := Try.prog) agBitsP (off := 0) (c := 4) rfl (by simp)
      have l2 := hF1.b.load (P := Try.prog) agInt (off := 2) (c := 4) rfl (by simp)
      have e256 : ((256 : Nat) : Int) = 256 := rfl
      simp (config := { maxSteps := 1000000, implicitDefEqProofs := false }) (disch := omega) only [allW, allR, Nat.reduceLT, Nat.reduceEqDiff, ↓reduceIte, undef, hn, h0, wfld0, tfld2, w0, l2, e256]
      exact hQ _ _ _ ⟨rfl, o1, hF1, hto.trans to1, by simp only [n_put, hn]⟩
    have hgt := stepA_gt l a
    have hle := stepA_le l hlt'
    have hfx0 := hfx
    rw [fixA_step l p hlt'] at hfx
    obtain ⟨hpS, hpS2⟩ := stepP_fine l a hp
    obtain ⟨hfA, hfA2⟩ := fixA_fine l l.length (stepA l a) (stepP l a p) (by omega) hpS
    rw [hfx] at hfA hfA2
    have hPS : Pre (stepP l a p) (D, nb) := (hfA2.trans (by rw [hfin] at hpre; exact (symP_fine hfA 256).2.trans hpre))
    have hPSl : (stepP l a p).2 ≤ nb := hPS.le
    by_cases c3 : (best l a (far a)).1 < 3
    · have eA : stepA l a = a + 1 := by unfold stepA; rw [if_pos c3]
      have eP : stepP l a p = symP p (l.getD a 0).toNat := by unfold stepP; rw [if_pos c3]
      rw [eA, eP] at hfx
      rw [eP] at hPS hPSl hpS
      have hc := (l.getD a 0).toNat_lt
      obtain ⟨r1, r2⟩ := sym_read hp (q := (l.getD a 0).toNat) (by omega) hPS
      have hsw := symC_snd (l.getD a 0).toNat
      rw [symP_snd] at hPSl
      simp (config := { maxSteps := 1000000, implicitDefEqProofs := false }) (disch := omega) only [allW, allR, evalAll, Nat.reduceLT, Nat.reduceEqDiff, ↓reduceIte, hn, h0, h1, h6, wfld0, tfld2, w0, l2]
      refine (readS_any hsy hlt base t jf jb D (l.take a) p.2 M bv o1 hF hDl ta tc fixL fixK (by rw [hAl]; exact hA) (by rw [hAl]; exact hC) (by rw [hKl, hAl]) (by rw [hAl]; decide) pA pC (l.getD a 0).toNat (symC (l.getD a 0).toNat).2 (by rw [hAl]; omega) (fixL_at (by omega)) (by omega) (by omega) r1 (fun i k h1 => r2 i k (by rw [hAl] at h1; exact h1)) (by omega)).mono ?_
      rintro _ t1 ⟨rfl, hF1, to1⟩
      have w0 := hF1.f.load (P := Try.prog) agBitsP (off := 0) (c := 4) rfl (by simp)
      have l2 := hF1.b.load (P := Try.prog) agInt (off := 2) (c := 4) rfl (by simp)
      have d1 : ¬ (((l.getD a 0).toNat : Nat) : Int) = 256 := by omega
      have d2 : (((l.getD a 0).toNat : Nat) : Int) < 256 := by omega
      have hcv : IntKind.u8.wrap (((l.getD a 0).toNat : Nat) : Int) = (((l.getD a 0).toNat : Nat) : Int) := by rw [wrapu8]; omega
      have hlt2 : (l.take a).length = a := by rw [List.length_take]; omega
      have nb1 : base ≤ t1.next := by have := to1.next; have := hto.next; omega
      simp (config := { maxSteps := 1000000, implicitDefEqProofs := false }) (disch := omega) only [allW, allR, evalAll, Nat.reduceLT, Nat.reduceEqDiff, ↓reduceIte, undef, hn, h0, wfld0, tfld2, w0, l2, eq_false d1, eq_true d2, conv_int Try.underlying3 Try.underlying5, hcv]
      refine (fputT_any hpu base t1 jf jb D (l.take a) (p.2 + (symC (l.getD a 0).toNat).2) M (l.getD a 0) bv o1 hF1 (by rw [hlt2]; omega) (by rw [hlt2]; omega) nb1).mono ?_
      rintro _ t2 ⟨o2, hF2, to2⟩
      rw [← takeN_next hlt', ← symP_snd] at hF2
      have toT := to1.trans to2
      obtain ⟨hA', pA'⟩ := pA.own hA toT
      obtain ⟨hB', pB'⟩ := pB.own hB toT
      obtain ⟨hC', pC'⟩ := pC.own hC toT
      obtain ⟨hE', pE'⟩ := pE.own hE toT
      simp (config := { maxSteps := 1000000, implicitDefEqProofs := false }) (disch := omega) only [allW, Nat.reduceLT, ↓reduceIte, hn]
      exact wround_next (l.length - (a + 1) + 1) (by omega) ⟨a + 1, symP p (l.getD a 0).toNat, o2, rfl, by omega, hF2, hpS, hfx, hto.trans toT, hA', hB', hC', hE', pA', pB', pC', pE', by simp only [n_put, hn], by simp only [get_put, ↓reduceIte, Nat.reduceEqDiff, h0], by simp only [get_put, ↓reduceIte, Nat.reduceEqDiff, h1], by simp only [get_put, ↓reduceIte, Nat.reduceEqDiff, h2], by simp only [get_put, ↓reduceIte, Nat.reduceEqDiff, h6], by simp only [get_put, ↓reduceIte, Nat.reduceEqDiff, h7]⟩
    · have hbf := best_far c3
      have eA : stepA l a = a + (best l a (far a)).1 := by unfold stepA; rw [if_neg c3]
      have eP : stepP l a p = againP p (best l a (far a)).1 (best l a (far a)).2 := by unfold stepP; rw [if_neg c3]
      rw [eA] at hgt hle
      rw [eA, eP] at hfx
      rw [eP] at hPS hPSl hpS
      have hcom := com_eq l a (best l a (far a)).2
      rw [← hbf.2.2.2.2.2] at hcom
      generalize hbn : (best l a (far a)).1 = n at *
      generalize hbd : (best l a (far a)).2 = d at *
      have hls2 := len_small hbf.1 hbf.2.1
      have hds2 := dst_same hbf.2.2.1 hbf.2.2.2.1
      have hlb := len_back hbf.1 hbf.2.1
      have hdb := dst_back hbf.2.2.1 hbf.2.2.2.1
      have hsw := symC_snd (lenC n).1
      obtain ⟨f1, g1⟩ := symP_fine hp (lenC n).1
      obtain ⟨f2, g2⟩ := putE_fine f1 (lenC n).2.1 (lenC n).2.2
      obtain ⟨f3, g3, -⟩ := codeP_fine (n := (dstC d).1) 5 f2
      obtain ⟨f4, g4⟩ := putE_fine f3 (dstC d).2.1 (dstC d).2.2
      have hPS : Pre (putE (codeP (putE (symP p (lenC n).1) (lenC n).2.1 (lenC n).2.2) (dstC d).1 5) (dstC d).2.1 (dstC d).2.2) (D, nb) := hPS
      have P3 := g4.trans hPS
      have P2 := g3.trans P3
      have P1 := g2.trans P2
      have z1 := P1.le
      have z2 := P2.le
      have z3 := P3.le
      have y1 : (symP p (lenC n).1).2 = p.2 + (symC (lenC n).1).2 := symP_snd ..
      have y2 : (putE (symP p (lenC n).1) (lenC n).2.1 (lenC n).2.2).2 = (symP p (lenC n).1).2 + (lenC n).2.2 := putE_snd ..
      have y3 : (codeP (putE (symP p (lenC n).1) (lenC n).2.1 (lenC n).2.2) (dstC d).1 5).2 = (putE (symP p (lenC n).1) (lenC n).2.1 (lenC n).2.2).2 + 5 := codeP_snd ..
      have y4 : (againP p n d).2 = (codeP (putE (symP p (lenC n).1) (lenC n).2.1 (lenC n).2.2) (dstC d).1 5).2 + (dstC d).2.2 := putE_snd ..
      have z1 : (symP p (lenC n).1).2 ≤ nb := z1
      have z2 : (putE (symP p (lenC n).1) (lenC n).2.1 (lenC n).2.2).2 ≤ nb := z2
      have z3 : (codeP (putE (symP p (lenC n).1) (lenC n).2.1 (lenC n).2.2) (dstC d).1 5).2 ≤ nb := z3
      obtain ⟨r1, r2⟩ := sym_read hp (q := (lenC n).1) (by omega) P1
      obtain ⟨u1, u2⟩ := dst_read f2 (q := (dstC d).1) (by omega) P3
      have x1 := putE_read f1 (lenC n).2.1 (lenC n).2.2 P2
      have x2 := putE_read f3 (dstC d).2.1 (dstC d).2.2 hPS
      rw [Nat.mod_eq_of_lt hls2.2.2.2] at x1
      rw [Nat.mod_eq_of_lt hds2.2.2.2] at x2
      simp (config := { maxSteps := 1000000, implicitDefEqProofs := false }) (disch := omega) only [allW, allR, evalAll, Nat.reduceLT, Nat.reduceEqDiff, ↓reduceIte, hn, h0, h1, h6, wfld0, tfld2, w0, l2]
      refine (readS_any hsy hlt base t jf jb D (l.take a) p.2 M bv o1 hF hDl ta tc fixL fixK (by rw [hAl]; exact hA) (by rw [hAl]; exact hC) (by rw [hKl, hAl]) (by rw [hAl]; decide) pA pC (lenC n).1 (symC (lenC n).1).2 (by rw [hAl]; omega) (fixL_at (by omega)) (by omega) (by omega) r1 (fun i k h1 => r2 i k (by rw [hAl] at h1; exact h1)) (by omega)).mono ?_
      rintro _ t1 ⟨rfl, hF1, to1⟩
      rw [← y1] at hF1
      have w0 := hF1.f.load (P := Try.prog) agBitsP (off := 0) (c := 4) rfl (by simp)
      have l2 := hF1.b.load (P := Try.prog) agInt (off := 2) (c := 4) rfl (by simp)
      have d1 : ¬ (((lenC n).1 : Nat) : Int) = 256 := by omega
      have d2 : ¬ (((lenC n).1 : Nat) : Int) < 256 := by omega
      have d3 : ¬ (((lenC n).1 : Nat) : Int) > 285 := by omega
      have hlt2 : (l.take a).length = a := by rw [List.length_take]; omega
      have nb1 : base ≤ t1.next := by have := to1.next; have := hto.next; omega
      simp (config := { maxSteps := 1000000, implicitDefEqProofs := false }) (disch := omega) only [allW, allR, evalAll, Nat.reduceLT, Nat.reduceEqDiff, ↓reduceIte, undef, hn, h0, wfld0, tfld2, w0, l2, eq_false d1, eq_false d2, eq_false d3]
      refine (flength_any hln hlt base t1 jf jb D (l.take a) _ M bv o1 hF1 hDl (lenC n).1 hls2.2.1 hls2.1 (by rw [hlb.2]; omega)).mono ?_
      rw [hlb.2, x1, hlb.1, ← y2]
      rintro _ t2 ⟨rfl, hF2, to2⟩
      have to2 := to1.trans to2
      have w0 := hF2.f.load (P := Try.prog) agBitsP (off := 0) (c := 4) rfl (by simp)
      obtain ⟨hB2, pB2⟩ := pB.own hB to2
      obtain ⟨hE2, pE2⟩ := pE.own hE to2
      simp (config := { maxSteps := 1000000, implicitDefEqProofs := false }) (disch := omega) only [allW, allR, evalAll, Nat.reduceLT, Nat.reduceEqDiff, ↓reduceIte, undef, hn, h0, h2, h7, wfld0, w0]
      refine (readS_any hsy hlt base t2 jf jb D (l.take a) _ M bv o1 hF2 hDl td te fixD (List.range 32) hB2 hE2 (by decide) (by decide) pB2 pE2 (dstC d).1 5 (by have : fixD.length = 32 := rfl; omega) (fixD_at (by omega)) (by decide) (by decide) u1 u2 (by omega)).mono ?_
      rintro _ t3 ⟨rfl, hF3, to3⟩
      rw [← y3] at hF3
      have to3 := to2.trans to3
      have w0 := hF3.f.load (P := Try.prog) agBitsP (off := 0) (c := 4) rfl (by simp)
      have l2 := hF3.b.load (P := Try.prog) agInt (off := 2) (c := 4) rfl (by simp)
      have d4 : ¬ (((dstC d).1 : Nat) : Int) > 29 := by omega
      simp (config := { maxSteps := 1000000, implicitDefEqProofs := false }) (disch := omega) only [allW, allR, evalAll, Nat.reduceLT, Nat.reduceEqDiff, ↓reduceIte, undef, hn, h0, wfld0, tfld2, w0, l2, eq_false d4]
      refine (fdistance_any hds hlt base t3 jf jb D (l.take a) _ M bv o1 hF3 hDl (dstC d).1 hds2.2.1 (by rw [hdb.2]; omega)).mono ?_
      rw [hdb.2, x2, hdb.1, ← y4]
      rintro _ t4 ⟨rfl, hF4, to4⟩
      have to4 := to3.trans to4
      have w0 := hF4.f.load (P := Try.prog) agBitsP (off := 0) (c := 4) rfl (by simp)
      have w1 := hF4.f.load (P := Try.prog) agSl (off := 1) (c := 4) rfl (by simp)
      have l2 := hF4.b.load (P := Try.prog) agInt (off := 2) (c := 4) rfl (by simp)
      have hlen4 := hF4.own.sees.lenA (P := Try.prog) Try.underlying22 (s2 := t4)
      rw [hlt2] at hlen4
      have d5 : ¬ ((d : Nat) : Int) > ((a : Nat) : Int) := by omega
      simp (config := { maxSteps := 1000000, implicitDefEqProofs := false }) (disch := omega) only [allW, allR, evalAll, Nat.reduceLT, Nat.reduceEqDiff, ↓reduceIte, undef, hn, h0, wfld0, wfld1, tfld2, w0, w1, l2, hlen4, eq_false d5]
      have nb4 : base ≤ t4.next := by have := to4.next; have := hto.next; omega
      refine Comes.loopOut (fun z f t' => ∃ (i : Nat) (o3 : Value), z = n - i ∧ i ≤ n ∧ Fl base t' jf jb D (againP p n d).2 (l.take (a + i)) M bv o3 ∧ FTo jf jb o1 t o3 t' ∧ base ≤ t'.next ∧ f.n = 147 ∧ f.get 0 = bptr jf ∧ f.get 1 = ta ∧ f.get 2 = td ∧ f.get 6 = tc ∧ f.get 7 = te ∧ f.get 9 = .int .i64 (n : Nat) ∧ f.get 11 = .int .i64 (d : Nat) ∧ f.get 12 = .int .i64 (i : Nat))
        (fun z f t' => z = .exit 2 ∧ ∃ o3 : Value, Fl base t' jf jb D (againP p n d).2 (l.take (a + n)) M bv o3 ∧ FTo jf jb o1 t o3 t' ∧ f.n = 147 ∧ f.get 0 = bptr jf ∧ f.get 1 = ta ∧ f.get 2 = td ∧ f.get 6 = tc ∧ f.get 7 = te)
        ⟨0, o1, rfl, by omega, hF4, to4, nb4, by simp only [n_put, hn], by simp only [get_put, ↓reduceIte, Nat.reduceEqDiff, h0], by simp only [get_put, ↓reduceIte, Nat.reduceEqDiff, h1], by simp only [get_put, ↓reduceIte, Nat.reduceEqDiff, h2], by simp only [get_put, ↓reduceIte, Nat.reduceEqDiff, h6], by simp only [get_put, ↓reduceIte, Nat.reduceEqDiff, h7], by simp only [get_put, ↓reduceIte, Nat.reduceEqDiff], by simp only [get_put, ↓reduceIte, Nat.reduceEqDiff], by simp only [get_put, ↓reduceIte]; rfl⟩ ?_ ?_
      · clear hn h0 h1 h2 h6 h7 f w0 w1 l2 hlen4
        rintro Q2 hQ2 z f t' ⟨i, o3, rfl, hi, hF5, to5, nb5, hn, h0, h1, h2, h6, h7, h9, h11, h12⟩
        have w0 := hF5.f.load (P := Try.prog) agBitsP (off := 0) (c := 4) rfl (by simp)
        have l2 := hF5.b.load (P := Try.prog) agInt (off := 2) (c := 4) rfl (by simp)
        by_cases hin : i < n
        rotate_left
        · obtain rfl : i = n := by omega
          have e1 : ¬ ((i : Nat) : Int) < ((i : Nat) : Int) := by omega
          simp (config := { maxSteps := 1000000, implicitDefEqProofs := false }) (disch := omega) only [allW, allR, Nat.reduceLT, Nat.reduceEqDiff, ↓reduceIte, undef, hn, h9, h12, eq_false e1]
          exact hQ2 _ _ _ ⟨rfl, o3, hF5, to5, by simp only [n_put, hn], by simp only [get_put, ↓reduceIte, Nat.reduceEqDiff, h0], by simp only [get_put, ↓reduceIte, Nat.reduceEqDiff, h1], by simp only [get_put, ↓reduceIte, Nat.reduceEqDiff, h2], by simp only [get_put, ↓reduceIte, Nat.reduceEqDiff, h6], by simp only [get_put, ↓reduceIte, Nat.reduceEqDiff, h7]⟩
        have e1 : ((i : Nat) : Int) < ((n : Nat) : Int) := by omega
        simp (config := { maxSteps := 1000000, implicitDefEqProofs := false }) (disch := omega) only [allW, allR, Nat.reduceLT, Nat.reduceEqDiff, ↓reduceIte, undef, hn, h0, h9, h12, eq_true e1, wfld0, tfld2, w0, l2]
        obtain ⟨B, hBB⟩ : ∃ B : Nat → Bool, B = fun j => decide (j < t'.next) := ⟨_, rfl⟩
        have hBl : ∀ j, B j = true → j < t'.next := by
          intro j h
          rw [hBB] at h
          exact of_decide_eq_true h
        have hBo : ∀ j, j < t'.next → B j = true := fun j h => by rw [hBB]; exact decide_eq_true h
        refine LB.Drawn.looseK B hBl 0 0 (by kernel_rfl) (by kernel_rfl) ?_
        have hsq := Stay.spare t' 0
        have hnq : (spare t' 0).next = t'.next + 0 := spare_next _ _
        have toq : FTo jf jb o3 t' o3 (spare t' 0) := ⟨by omega, fun i hi _ _ _ => hsq.get i hi, .inl rfl⟩
        have hlw : ∀ k, LA.lowV B (some (.pointer (some ⟨jf, k, some 4⟩))) = true := fun k => LA.lowV_ptr (A := B) (i := jf) (hBo _ hF5.f.lt)
        have lE := fun k => LA.lowV_elemOld hF5.own.sees hBo (k := k)
        have lL := LA.lowL_sees hF5.own.sees
        have hFq : Fl base (spare t' 0) jf jb D (againP p n d).2 (l.take (a + i)) M bv o3 := ⟨hF5.b.keeps hsq, hF5.f.keeps hsq, hF5.low.stay (hsq.weaken nb5), hF5.own.keeps hsq, hF5.fresh, hF5.nb, hF5.nf, hF5.ne, hF5.lb, hF5.lf⟩
        have w1 := hFq.f.load (P := Try.prog) agSl (off := 1) (c := 4) rfl (by simp)
        have hlt3 : (l.take (a + i)).length = a + i := by rw [List.length_take]; omega
        have hlen5 := hFq.own.sees.lenA (P := Try.prog) Try.underlying22 (s2 := spare t' 0)
        rw [hlt3] at hlen5
        have hix : a + i - d < (l.take (a + i)).length := by rw [hlt3]; omega
        have hi1 := hFq.own.sees.indexAddr (P := Try.prog) (k := .i64) (x := ((a + i - d : Nat) : Int)) Try.underlying22 szU8 (by omega) (by omega)
        rw [Int.toNat_natCast] at hi1
        have k1 := hFq.own.sees.load1 (P := Try.prog) agU8 hix
        rw [ofBytes_getD hix] at k1
        have hval : (l.take (a + i)).getD (a + i - d) 0 = l.getD (a + i) 0 := by
          rw [← hcom i hin, List.getD_eq_getElem?_getD, List.getElem?_take_of_lt (by omega), List.getD_eq_getElem?_getD]
        rw [hval] at k1
        have e2 : ((a + i : Nat) : Int) - (d : Int) = ((a + i - d : Nat) : Int) := by omega
        simp (config := { maxSteps := 1000000, implicitDefEqProofs := false }) (disch := omega) only [allW, allR, allL, allB, Nat.reduceSub, evalAll, Nat.reduceLT, Nat.reduceEqDiff, ↓reduceIte, hn, h0, h11, h12, wfld1, w1, hlw, lE, lL, hlen5, hF5.own.self, wrapI, e2, hi1, k1]
        refine (fputT_any hpu base (spare t' 0) jf jb D (l.take (a + i)) _ M (l.getD (a + i) 0) bv o3 hFq (by rw [hlt3]; omega) (by rw [hlt3]; omega) (by omega)).mono ?_
        rintro _ t6 ⟨o4, hF6, to6⟩
        rw [← takeN_next (by omega)] at hF6
        refine ⟨fun h => h.elim, ?_⟩
        have n6 := to6.next
        exact wround_next (n - (i + 1)) (by omega) ⟨i + 1, o4, rfl, by omega, hF6, to5.trans (toq.trans to6), by omega, by simp only [n_put, hn], by simp only [get_put, ↓reduceIte, Nat.reduceEqDiff, h0], by simp only [get_put, ↓reduceIte, Nat.reduceEqDiff, h1], by simp only [get_put, ↓reduceIte, Nat.reduceEqDiff, h2], by simp only [get_put, ↓reduceIte, Nat.reduceEqDiff, h6], by simp only [get_put, ↓reduceIte, Nat.reduceEqDiff, h7], by simp only [get_put, ↓reduceIte, Nat.reduceEqDiff, h9], by simp only [get_put, ↓reduceIte, Nat.reduceEqDiff, h11], by simp only [get_put, ↓reduceIte]; rfl⟩
      clear hn h0 h1 h2 h6 h7 f w0 w1 l2 hlen4
      rintro z f t' ⟨rfl, o3, hF5, to5, hn, h0, h1, h2, h6, h7⟩
      obtain ⟨hA', pA'⟩ := pA.own hA to5
      obtain ⟨hB', pB'⟩ := pB.own hB to5
      obtain ⟨hC', pC'⟩ := pC.own hC to5
      obtain ⟨hE', pE'⟩ := pE.own hE to5
      simp (config := { maxSteps := 1000000, implicitDefEqProofs := false }) (disch := omega) only [allW, ↓reduceIte]
      exact wround_next (l.length - (a + n) + 1) (by omega) ⟨a + n, againP p n d, o3, rfl, by omega, hF5, hpS, hfx, hto.trans to5, hA', hB', hC', hE', pA', pB', pC', pE', by simp only [hn], by simp only [h0], by simp only [h1], by simp only [h2], by simp only [h6], by simp only [h7]⟩
  clear hn h0 h1 h2 f hF2 hA hB hA2 hB2 hC hC2 hE
  rintro z f t ⟨rfl, o1, hF, hto, hn⟩
  simp (config := { maxSteps := 1000000, implicitDefEqProofs := false }) (disch := omega) only [allW, wfn_ret, Try.results35]
  exact ⟨o1, hF, (hs2.weaken hb).trans (hto.stay h.lf h.lb h.fresh (by omega))⟩
end Go.Proofs.Ytnclklboogdoiaa
