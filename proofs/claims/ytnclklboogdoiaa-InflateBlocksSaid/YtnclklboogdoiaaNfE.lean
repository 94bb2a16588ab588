/-
  Inflate, the reference: a block by its codes.
-/
import Derived.Test.YtnclklboogdoiaaNfD
set_option linter.unusedSimpArgs false
set_option linter.unusedVariables false
set_option maxRecDepth 100000
namespace Go.Cl.Nf
open Go.Cl.Fx
theorem lenOf_le {x b : Nat} (hx : x ≤ 285) (hb : b < 2 ^ lenW x) : lenOf x b ≤ 1000 := by
  unfold lenOf
  split
  · omega
  · split
    · omega
    · have e : lenW x = (x - 261) / 4 := by unfold lenW; rw [if_neg (by omega)]
      rw [e] at hb
      have h1 : 2 ^ ((x - 261) / 4) ≤ 2 ^ 6 := Nat.pow_le_pow_right (by omega) (by omega)
      have h2 : (4 + (x - 265) % 4) * 2 ^ ((x - 261) / 4) ≤ 7 * 2 ^ 6 := Nat.mul_le_mul (by omega) h1
      have h3 : (2 : Nat) ^ 6 = 64 := by decide
      omega
end Go.Cl.Nf
namespace Go.Proofs.Ytnclklboogdoiaa
open Go.Cl Go.Cl.Rw Go.Cl.Sto Go.Cl.Fx Go.Cl.Nf
set_option maxHeartbeats 16000000 in
theorem fcodedX_any {lib : Prims} (hl : lib.at 35 = none) (hco : lib.at 46 = none) (hsy : lib.at 58 = none) (hlt : lib.at 32 = none) (hpu : lib.at 57 = none) (hln : lib.at 59 = none) (hds : lib.at 60 = none) (hfa : lib.at 37 = none)
    (base : Nat) (s : ASt) (jf jb : Nat) (D P0 : List UInt8) (p0 m N : Nat) (bv o : Value) (h : Fl base s jf jb D p0 P0 (m : Nat) bv o) (hpD : p0 ≤ 8 * D.length) (hDl : D.length ≤ 100000000) (hPm : P0.length ≤ m) (hm : m ≤ 100000000) (hN : 8 * D.length < N) (hb : base ≤ s.next)
    (ta td : Value) (C B : List Nat) (hA : Tab jf jb o s ta C) (hB : Tab jf jb o s td B) (hCl : C.length ≤ 300) (hBl : B.length ≤ 300) :
    Runs Try.prog lib 35 [bptr jf, ta, td] s fun _ s' => OutF base jf jb D (m : Nat) bv o s s' (codedX D m C B N p0 P0) := by
  refine Runs.enter 147 Try.func35 rfl hl rfl rfl ?_
  intro f hn hf
  have h0 : f.get 0 = bptr jf := hf 0
  have h1 : f.get 1 = ta := hf 1
  have h2 : f.get 2 = td := hf 2
  clear hf
  simp (config := { maxSteps := 1000000, implicitDefEqProofs := false }) (disch := omega) only [allW, allR, evalAll, Nat.reduceLT, ↓reduceIte, hn, h1]
  refine (codes_any hco s ta C hA.1 hCl).mono ?_
  rintro tc s1 ⟨hC, -, hCF, k1⟩
  have n1 := k1.next
  simp (config := { maxSteps := 1000000, implicitDefEqProofs := false }) (disch := omega) only [allW, allR, evalAll, Nat.reduceLT, Nat.reduceEqDiff, ↓reduceIte, hn, h2]
  refine (codes_any hco s1 td B (hB.1.keeps k1) hBl).mono ?_
  rintro te s2 ⟨hE, -, hEF, k2⟩
  have n2 := k2.next
  have hs2 : Stay s.next s s2 := k1.trans (k2.weaken n1)
  have hF2 : Fl base s2 jf jb D p0 P0 (m : Nat) bv o := ⟨h.b.keeps hs2, h.f.keeps hs2, h.low.stay (hs2.weaken hb), h.own.keeps hs2, h.fresh, h.nb, h.nf, h.ne, h.lb, h.lf⟩
  have hjf := h.f.lt
  have hjb := h.b.lt
  have hol : ∀ i, idOf o = some i → i < s.next := fun i hi => h.own.idlt i hi
  have ftS : FTo jf jb o s o s2 := ⟨hs2.next, fun i hi _ _ _ => hs2.get i hi, .inl rfl⟩
  have hA2 := hA.to ftS
  have hB2 := hB.to ftS
  have hC2 : Tab jf jb o s2 tc (codesC C) := ⟨by rw [codesC_len]; exact (hC.keeps k2).sees, fun i hi => ⟨by have := (hC.keeps k2).idlt i hi; omega, by have := hCF i hi; omega, by have := hCF i hi; omega, fun e => by have := hol i e; have := hCF i hi; omega⟩⟩
  have hE2 : Tab jf jb o s2 te (codesC B) := ⟨by rw [codesC_len]; exact hE.sees, fun i hi => ⟨by have := hE.idlt i hi; omega, by have := hEF i hi; omega, by have := hEF i hi; omega, fun e => by have := hol i e; have := hEF i hi; omega⟩⟩
  have KC := codesC_ok C
  have KB := codesC_ok B
  obtain ⟨R, hR⟩ : ∃ R, R = codedX D m C B N p0 P0 := ⟨_, rfl⟩
  have bsn : base ≤ s2.next := by omega
  have stayB : ∀ (o1 : Value) (t : ASt), FTo jf jb o s2 o1 t → Stay base s t := fun o1 t hto => (hs2.weaken hb).trans (hto.stay h.lf h.lb h.fresh bsn)
  rw [← hR]
  simp (config := { maxSteps := 1000000, implicitDefEqProofs := false }) (disch := omega) only [allW, Nat.reduceLT, Nat.reduceEqDiff, ↓reduceIte, hn]
  refine Comes.loopOut (fun z f t => f.n = 147 ∧ f.get 0 = bptr jf ∧ ((∃ (p : Nat) (P : List UInt8) (o1 : Value), codedX D m C B z p P = R ∧ 8 * D.length < p + z ∧ p ≤ 8 * D.length ∧ P.length ≤ m ∧ Fl base t jf jb D p P (m : Nat) bv o1 ∧ FTo jf jb o s2 o1 t ∧ Tab jf jb o1 t ta C ∧ Tab jf jb o1 t td B ∧ Tab jf jb o1 t tc (codesC C) ∧ Tab jf jb o1 t te (codesC B) ∧ f.get 1 = ta ∧ f.get 2 = td ∧ f.get 6 = tc ∧ f.get 7 = te) ∨ (z = 0 ∧ ∃ (e : Nat) (o1 : Value), Bd base t jf jb e ∧ FTo jf jb o s2 o1 t ∧ R = .error e)))
    (fun z f t => (z = .ret ∨ z = .exit 0) ∧ f.n = 147 ∧ OutF base jf jb D (m : Nat) bv o s t R)
    ⟨by simp only [n_put, hn], by simp only [get_put, ↓reduceIte, Nat.reduceEqDiff, h0], .inl ⟨p0, P0, o, hR.symm, by omega, hpD, hPm, hF2, FTo.refl _ _ _ _, hA2, hB2, hC2, hE2, by simp only [get_put, ↓reduceIte, Nat.reduceEqDiff, h1], by simp only [get_put, ↓reduceIte, Nat.reduceEqDiff, h2], by simp only [get_put, ↓reduceIte, Nat.reduceEqDiff], by simp only [get_put, ↓reduceIte]⟩⟩ ?_ ?_
  rotate_left
  · clear hn h0 h1 h2 f hF2 hA hB hA2 hB2 hC hC2 hE hE2
    rintro z f t ⟨rfl | rfl, hn, hO⟩
    · simp (config := { maxSteps := 1000000, implicitDefEqProofs := false }) (disch := omega) only [allW, wfn_ret, Try.results35]
      exact hO
    · simp (config := { maxSteps := 1000000, implicitDefEqProofs := false }) (disch := omega) only [allW, wfn_normal, ↓reduceIte, Try.results35]
      exact hO
  clear hn h0 h1 h2 f hF2 hA hB hA2 hB2 hC hC2 hE hE2
  rintro Q hQ z f t ⟨hn, h0, (⟨p, P, o1, hz, hpz, hpD, hPm, hF, hto, hA, hB, hC, hE, h1, h2, h6, h7⟩ | ⟨rfl, e, o1, hBd, hto, he⟩)⟩
  rotate_left
  · obtain ⟨bv', pv', o', m', hB'⟩ := id hBd
    have w0 := hB'.f.load (P := Try.prog) agBitsP (off := 0) (c := 4) rfl (by simp)
    have l2 := hB'.b.load (P := Try.prog) agInt (off := 2) (c := 4) rfl (by simp)
    have hp := hB'.pos
    have c0 : ¬ (e : Int) = 0 := by omega
    simp (config := { maxSteps := 1000000, implicitDefEqProofs := false }) (disch := omega) only [allW, allR, Nat.reduceLT, ↓reduceIte, hn, h0, wfld0, tfld2, w0, l2, eq_false c0]
    exact hQ _ _ _ ⟨.inr rfl, by simp only [n_put, hn], by rw [he]; exact ⟨hBd, stayB o1 t hto⟩⟩
  obtain ⟨k, rfl⟩ : ∃ k, z = k + 1 := ⟨z - 1, by omega⟩
  have w0 := hF.f.load (P := Try.prog) agBitsP (off := 0) (c := 4) rfl (by simp)
  have l2 := hF.b.load (P := Try.prog) agInt (off := 2) (c := 4) rfl (by simp)
  rw [codedX] at hz
  have bt : base ≤ t.next := by have := hto.next; omega
  simp (config := { maxSteps := 1000000, implicitDefEqProofs := false }) (disch := omega) only [allW, allR, evalAll, Nat.reduceLT, Nat.reduceEqDiff, ↓reduceIte, hn, h0, h1, h6, wfld0, tfld2, w0, l2]
  refine (symN_any hsy hlt hfa base t jf jb D P p _ bv o1 hF hpD (by omega) ta tc C (codesC C) hA hC KC (by omega)).mono ?_
  intro v t1 hS
  cases hsx : sym D C p with
  | error e =>
    rw [hsx] at hS hz
    obtain ⟨rfl, hBd, to1⟩ := hS
    obtain ⟨bv', pv', o', m', hB'⟩ := id hBd
    have w0 := hB'.f.load (P := Try.prog) agBitsP (off := 0) (c := 4) rfl (by simp)
    have l2 := hB'.b.load (P := Try.prog) agInt (off := 2) (c := 4) rfl (by simp)
    have hp := hB'.pos
    have c0 : ¬ (e : Int) = 0 := by omega
    simp (config := { maxSteps := 1000000, implicitDefEqProofs := false }) (disch := omega) only [allW, allR, Nat.reduceLT, Nat.reduceEqDiff, ↓reduceIte, undef, hn, h0, wfld0, tfld2, w0, l2, eq_false c0]
    exact hQ _ _ _ ⟨.inl rfl, by simp only [n_put, hn], by rw [← hz]; exact ⟨hBd, stayB o1 t1 (hto.trans to1)⟩⟩
  | ok x =>
  obtain ⟨x, q⟩ := x
  rw [hsx] at hS hz
  obtain ⟨rfl, hF1, to1⟩ := hS
  have hsl := sym_le hsx
  have w0 := hF1.f.load (P := Try.prog) agBitsP (off := 0) (c := 4) rfl (by simp)
  have l2 := hF1.b.load (P := Try.prog) agInt (off := 2) (c := 4) rfl (by simp)
  have bt1 : base ≤ t1.next := by have := to1.next; omega
  dsimp only at hz
  by_cases cx : x = 256
  · have d1 : ((x : Nat) : Int) = 256 := by omega
    rw [if_pos cx] at hz
    simp (config := { maxSteps := 1000000, implicitDefEqProofs := false }) (disch := omega) only [allW, allR, Nat.reduceLT, Nat.reduceEqDiff, ↓reduceIte, undef, hn, h0, wfld0, tfld2, w0, l2, eq_true d1]
    exact hQ _ _ _ ⟨.inl rfl, by simp only [n_put, hn], by rw [← hz]; exact ⟨o1, hF1, ftS.trans (hto.trans to1)⟩⟩
  have d1 : ¬ ((x : Nat) : Int) = 256 := by omega
  rw [if_neg cx] at hz
  by_cases cl : x < 256
  · have d2 : ((x : Nat) : Int) < 256 := by omega
    rw [if_pos cl] at hz
    simp (config := { maxSteps := 1000000, implicitDefEqProofs := false }) (disch := omega) only [allW, allR, evalAll, Nat.reduceLT, Nat.reduceEqDiff, ↓reduceIte, undef, hn, h0, wfld0, tfld2, w0, l2, eq_false d1, eq_true d2, conv_int Try.underlying3 Try.underlying5, b0]
    by_cases cm : m ≤ P.length
    · rw [if_pos cm] at hz
      refine (fputL_any hpu hfa base t1 jf jb D P _ _ (UInt8.ofNat x) bv o1 hF1 (by omega)).mono ?_
      rintro _ t2 ⟨hBd, to2⟩
      simp (config := { maxSteps := 1000000, implicitDefEqProofs := false }) (disch := omega) only [allW, Nat.reduceLT, ↓reduceIte, hn]
      exact wround_next 0 (by omega) ⟨by simp only [n_put, hn], by simp only [get_put, ↓reduceIte, Nat.reduceEqDiff, h0], .inr ⟨rfl, 7, o1, hBd, (hto.trans to1).trans to2, hz.symm⟩⟩
    rw [if_neg cm] at hz
    refine (fputT_any hpu base t1 jf jb D P _ _ (UInt8.ofNat x) bv o1 hF1 (by omega) (by omega) bt1).mono ?_
    rintro _ t2 ⟨o2, hF2, to2⟩
    have toT := to1.trans to2
    simp (config := { maxSteps := 1000000, implicitDefEqProofs := false }) (disch := omega) only [allW, Nat.reduceLT, ↓reduceIte, hn]
    exact wround_next k (by omega) ⟨by simp only [n_put, hn], by simp only [get_put, ↓reduceIte, Nat.reduceEqDiff, h0], .inl ⟨q, P ++ [UInt8.ofNat x], o2, hz, by omega, by omega, by rw [List.length_append, List.length_singleton]; omega, hF2, hto.trans toT, hA.to toT, hB.to toT, hC.to toT, hE.to toT, by simp only [get_put, ↓reduceIte, Nat.reduceEqDiff, h1], by simp only [get_put, ↓reduceIte, Nat.reduceEqDiff, h2], by simp only [get_put, ↓reduceIte, Nat.reduceEqDiff, h6], by simp only [get_put, ↓reduceIte, Nat.reduceEqDiff, h7]⟩⟩
  have d2 : ¬ ((x : Nat) : Int) < 256 := by omega
  rw [if_neg cl] at hz
  unfold copyX at hz
  by_cases cg : 285 < x
  · have d3 : ((x : Nat) : Int) > 285 := by omega
    rw [if_pos cg] at hz
    simp (config := { maxSteps := 1000000, implicitDefEqProofs := false }) (disch := omega) only [allW, allR, evalAll, Nat.reduceLT, Nat.reduceEqDiff, ↓reduceIte, undef, hn, h0, wfld0, tfld2, w0, l2, eq_false d1, eq_false d2, eq_true d3]
    refine (fail_any hfa t1 jb bv _ 4 hF1.b).mono ?_
    rintro _ t2 ⟨hb4, hn4, hs4⟩
    obtain ⟨hBd, to2⟩ := hF1.bad (by decide) hb4 hn4 hs4
    simp (config := { maxSteps := 1000000, implicitDefEqProofs := false }) (disch := omega) only [allW, Nat.reduceLT, ↓reduceIte, hn]
    exact hQ _ _ _ ⟨.inl rfl, by simp only [n_put, hn], by rw [← hz]; exact ⟨hBd, stayB o1 t2 ((hto.trans to1).trans to2)⟩⟩
  have d3 : ¬ ((x : Nat) : Int) > 285 := by omega
  rw [if_neg cg] at hz
  simp (config := { maxSteps := 1000000, implicitDefEqProofs := false }) (disch := omega) only [allW, allR, evalAll, Nat.reduceLT, Nat.reduceEqDiff, ↓reduceIte, undef, hn, h0, wfld0, tfld2, w0, l2, eq_false d1, eq_false d2, eq_false d3]
  by_cases r1 : q + lenW x ≤ 8 * D.length
  rotate_left
  · rw [takeE_no r1] at hz
    refine (flengthS_any hln hlt hfa base t1 jf jb D P q _ bv o1 hF1 (by omega) (by omega) x (by omega) (by omega) r1).mono ?_
    rintro _ t2 ⟨⟨n, rfl⟩, hBd, to2⟩
    have toT := (hto.trans to1).trans to2
    obtain ⟨bv', pv', o', m', hB'⟩ := id hBd
    have w0 := hB'.f.load (P := Try.prog) agBitsP (off := 0) (c := 4) rfl (by simp)
    simp (config := { maxSteps := 1000000, implicitDefEqProofs := false }) (disch := omega) only [allW, allR, evalAll, Nat.reduceLT, Nat.reduceEqDiff, ↓reduceIte, undef, hn, h0, h2, h7, wfld0, w0]
    refine (symB_any hsy hlt base t2 jf jb 2 td te hBd).mono ?_
    rintro _ t2 ⟨rfl, rfl⟩
    have w0 := hB'.f.load (P := Try.prog) agBitsP (off := 0) (c := 4) rfl (by simp)
    have l2 := hB'.b.load (P := Try.prog) agInt (off := 2) (c := 4) rfl (by simp)
    have c0 : ¬ ((2 : Nat) : Int) = 0 := by decide
    simp (config := { maxSteps := 1000000, implicitDefEqProofs := false }) (disch := omega) only [allW, allR, Nat.reduceLT, Nat.reduceEqDiff, ↓reduceIte, undef, hn, h0, wfld0, tfld2, w0, l2, eq_false c0]
    exact hQ _ _ _ ⟨.inl rfl, by simp only [n_put, hn], by rw [← hz]; exact ⟨hBd, stayB o1 t2 toT⟩⟩
  rw [takeE_ok r1] at hz
  dsimp only at hz
  refine (flength_any hln hlt base t1 jf jb D P q _ bv o1 hF1 (by omega) x (by omega) (by omega) r1).mono ?_
  rintro _ t2 ⟨rfl, hF2, to2⟩
  have to2 := to1.trans to2
  have w0 := hF2.f.load (P := Try.prog) agBitsP (off := 0) (c := 4) rfl (by simp)
  have hxl := bitsN_lt D q (lenW x)
  have hnl := lenOf_le (x := x) (by omega) hxl
  generalize hnn : lenOf x (bitsN D q (lenW x)) = n at hz hnl
  simp (config := { maxSteps := 1000000, implicitDefEqProofs := false }) (disch := omega) only [allW, allR, evalAll, Nat.reduceLT, Nat.reduceEqDiff, ↓reduceIte, undef, hn, h0, h2, h7, wfld0, w0]
  refine (symN_any hsy hlt hfa base t2 jf jb D P _ _ bv o1 hF2 r1 (by omega) td te B (codesC B) (hB.to to2) (hE.to to2) KB (by omega)).mono ?_
  intro v t3 hS
  cases hsy2 : sym D B (q + lenW x) with
  | error e =>
    rw [hsy2] at hS hz
    obtain ⟨rfl, hBd, to3⟩ := hS
    obtain ⟨bv', pv', o', m', hB'⟩ := id hBd
    have w0 := hB'.f.load (P := Try.prog) agBitsP (off := 0) (c := 4) rfl (by simp)
    have l2 := hB'.b.load (P := Try.prog) agInt (off := 2) (c := 4) rfl (by simp)
    have hp := hB'.pos
    have c0 : ¬ (e : Int) = 0 := by omega
    simp (config := { maxSteps := 1000000, implicitDefEqProofs := false }) (disch := omega) only [allW, allR, Nat.reduceLT, Nat.reduceEqDiff, ↓reduceIte, undef, hn, h0, wfld0, tfld2, w0, l2, eq_false c0]
    exact hQ _ _ _ ⟨.inl rfl, by simp only [n_put, hn], by rw [← hz]; exact ⟨hBd, stayB o1 t3 (hto.trans (to2.trans to3))⟩⟩
  | ok y =>
  obtain ⟨c, r⟩ := y
  rw [hsy2] at hS hz
  obtain ⟨rfl, hF3, to3⟩ := hS
  have to3 := to2.trans to3
  have hsl2 := sym_le hsy2
  have w0 := hF3.f.load (P := Try.prog) agBitsP (off := 0) (c := 4) rfl (by simp)
  have l2 := hF3.b.load (P := Try.prog) agInt (off := 2) (c := 4) rfl (by simp)
  dsimp only at hz
  by_cases cc : 30 ≤ c
  · have d4 : ((c : Nat) : Int) > 29 := by omega
    rw [if_pos cc] at hz
    simp (config := { maxSteps := 1000000, implicitDefEqProofs := false }) (disch := omega) only [allW, allR, evalAll, Nat.reduceLT, Nat.reduceEqDiff, ↓reduceIte, undef, hn, h0, wfld0, tfld2, w0, l2, eq_true d4]
    refine (fail_any hfa t3 jb bv _ 4 hF3.b).mono ?_
    rintro _ t4 ⟨hb4, hn4, hs4⟩
    obtain ⟨hBd, to4⟩ := hF3.bad (by decide) hb4 hn4 hs4
    obtain ⟨bv', pv', o', m', hB'⟩ := id hBd
    have w0 := hB'.f.load (P := Try.prog) agBitsP (off := 0) (c := 4) rfl (by simp)
    have l2 := hB'.b.load (P := Try.prog) agInt (off := 2) (c := 4) rfl (by simp)
    have c0 : ¬ ((4 : Nat) : Int) = 0 := by decide
    simp (config := { maxSteps := 1000000, implicitDefEqProofs := false }) (disch := omega) only [allW, allR, Nat.reduceLT, Nat.reduceEqDiff, ↓reduceIte, undef, hn, h0, wfld0, tfld2, w0, l2, eq_false c0]
    exact hQ _ _ _ ⟨.inl rfl, by simp only [n_put, hn], by rw [← hz]; exact ⟨hBd, stayB o1 t4 (hto.trans (to3.trans to4))⟩⟩
  have d4 : ¬ ((c : Nat) : Int) > 29 := by omega
  rw [if_neg cc] at hz
  simp (config := { maxSteps := 1000000, implicitDefEqProofs := false }) (disch := omega) only [allW, allR, evalAll, Nat.reduceLT, Nat.reduceEqDiff, ↓reduceIte, undef, hn, h0, wfld0, tfld2, w0, l2, eq_false d4]
  by_cases r2 : r + dstW c ≤ 8 * D.length
  rotate_left
  · rw [takeE_no r2] at hz
    refine (fdistanceS_any hds hlt hfa base t3 jf jb D P r _ bv o1 hF3 (by omega) (by omega) c (by omega) r2).mono ?_
    rintro _ t4 ⟨⟨n', rfl⟩, hBd, to4⟩
    have toT := hto.trans (to3.trans to4)
    obtain ⟨bv', pv', o', m', hB'⟩ := id hBd
    have w0 := hB'.f.load (P := Try.prog) agBitsP (off := 0) (c := 4) rfl (by simp)
    have l2 := hB'.b.load (P := Try.prog) agInt (off := 2) (c := 4) rfl (by simp)
    have c0 : ¬ ((2 : Nat) : Int) = 0 := by decide
    simp (config := { maxSteps := 1000000, implicitDefEqProofs := false }) (disch := omega) only [allW, allR, Nat.reduceLT, Nat.reduceEqDiff, ↓reduceIte, undef, hn, h0, wfld0, tfld2, w0, l2, eq_false c0]
    refine Comes.loopOut (fun z f t' => z = 0 ∧ t4 = t' ∧ f.n = 147 ∧ f.get 0 = bptr jf ∧ f.get 9 = .int .i64 (n : Nat) ∧ f.get 12 = .int .i64 0)
      (fun z f t' => z = .exit 2 ∧ t4 = t' ∧ f.n = 147 ∧ f.get 0 = bptr jf) ⟨rfl, rfl, by simp only [n_put, hn], by simp only [get_put, ↓reduceIte, Nat.reduceEqDiff, h0], by simp only [get_put, ↓reduceIte, Nat.reduceEqDiff], by simp only [get_put, ↓reduceIte]⟩ ?_ ?_
    · clear hn h0 h1 h2 h6 h7 f
      rintro Q2 hQ2 z f _ ⟨rfl, rfl, hn, h0, h9, h12⟩
      by_cases cn : (0 : Int) < (n : Int)
      · simp (config := { maxSteps := 1000000, implicitDefEqProofs := false }) (disch := omega) only [allW, allR, Nat.reduceLT, Nat.reduceEqDiff, ↓reduceIte, undef, hn, h0, h9, h12, eq_true cn, wfld0, tfld2, w0, l2, eq_false c0]
        exact hQ2 _ _ _ ⟨rfl, rfl, by simp only [n_put, hn], by simp only [get_put, ↓reduceIte, Nat.reduceEqDiff, h0]⟩
      · simp (config := { maxSteps := 1000000, implicitDefEqProofs := false }) (disch := omega) only [allW, allR, Nat.reduceLT, Nat.reduceEqDiff, ↓reduceIte, undef, hn, h9, h12, eq_false cn]
        exact hQ2 _ _ _ ⟨rfl, rfl, by simp only [n_put, hn], by simp only [get_put, ↓reduceIte, Nat.reduceEqDiff, h0]⟩
    clear hn h0 h1 h2 h6 h7 f
    rintro z f _ ⟨rfl, rfl, hn, h0⟩
    simp (config := { maxSteps := 1000000, implicitDefEqProofs := false }) (disch := omega) only [allW, ↓reduceIte]
    exact wround_next 0 (by omega) ⟨by simp only [hn], by simp only [h0], .inr ⟨rfl, 2, o1, hBd, toT, hz.symm⟩⟩
  rw [takeE_ok r2] at hz
  dsimp only at hz
  refine (fdistance_any hds hlt base t3 jf jb D P r _ bv o1 hF3 (by omega) c (by omega) r2).mono ?_
  rintro _ t4 ⟨rfl, hF4, to4⟩
  have to4 := to3.trans to4
  have hdpos : 1 ≤ dstOf c (bitsN D r (dstW c)) := by unfold dstOf; split <;> omega
  generalize hdd : dstOf c (bitsN D r (dstW c)) = d at hz hdpos
  have w0 := hF4.f.load (P := Try.prog) agBitsP (off := 0) (c := 4) rfl (by simp)
  have w1 := hF4.f.load (P := Try.prog) agSl (off := 1) (c := 4) rfl (by simp)
  have l2 := hF4.b.load (P := Try.prog) agInt (off := 2) (c := 4) rfl (by simp)
  have hlen4 := hF4.own.sees.lenA (P := Try.prog) Try.underlying22 (s2 := t4)
  have bt4 : base ≤ t4.next := by have := to4.next; omega
  by_cases cd : P.length < d
  · have d5 : ((d : Nat) : Int) > ((P.length : Nat) : Int) := by omega
    rw [if_pos cd] at hz
    simp (config := { maxSteps := 1000000, implicitDefEqProofs := false }) (disch := omega) only [allW, allR, evalAll, Nat.reduceLT, Nat.reduceEqDiff, ↓reduceIte, undef, hn, h0, wfld0, wfld1, tfld2, w0, w1, l2, hlen4, eq_true d5]
    refine (fail_any hfa t4 jb bv _ 4 hF4.b).mono ?_
    rintro _ t5 ⟨hb4, hn4, hs4⟩
    obtain ⟨hBd, to5⟩ := hF4.bad (by decide) hb4 hn4 hs4
    have toT := hto.trans (to4.trans to5)
    obtain ⟨bv', pv', o', m', hB'⟩ := id hBd
    have w0 := hB'.f.load (P := Try.prog) agBitsP (off := 0) (c := 4) rfl (by simp)
    have l2 := hB'.b.load (P := Try.prog) agInt (off := 2) (c := 4) rfl (by simp)
    have c0 : ¬ ((4 : Nat) : Int) = 0 := by decide
    simp (config := { maxSteps := 1000000, implicitDefEqProofs := false }) (disch := omega) only [allW, Nat.reduceLT, ↓reduceIte, hn]
    refine Comes.loopOut (fun z f t' => z = 0 ∧ t5 = t' ∧ f.n = 147 ∧ f.get 0 = bptr jf ∧ f.get 9 = .int .i64 (n : Nat) ∧ f.get 12 = .int .i64 0)
      (fun z f t' => z = .exit 2 ∧ t5 = t' ∧ f.n = 147 ∧ f.get 0 = bptr jf) ⟨rfl, rfl, by simp only [n_put, hn], by simp only [get_put, ↓reduceIte, Nat.reduceEqDiff, h0], by simp only [get_put, ↓reduceIte, Nat.reduceEqDiff], by simp only [get_put, ↓reduceIte]⟩ ?_ ?_
    · clear hn h0 h1 h2 h6 h7 f
      rintro Q2 hQ2 z f _ ⟨rfl, rfl, hn, h0, h9, h12⟩
      by_cases cn : (0 : Int) < (n : Int)
      · simp (config := { maxSteps := 1000000, implicitDefEqProofs := false }) (disch := omega) only [allW, allR, Nat.reduceLT, Nat.reduceEqDiff, ↓reduceIte, undef, hn, h0, h9, h12, eq_true cn, wfld0, tfld2, w0, l2, eq_false c0]
        exact hQ2 _ _ _ ⟨rfl, rfl, by simp only [n_put, hn], by simp only [get_put, ↓reduceIte, Nat.reduceEqDiff, h0]⟩
      · simp (config := { maxSteps := 1000000, implicitDefEqProofs := false }) (disch := omega) only [allW, allR, Nat.reduceLT, Nat.reduceEqDiff, ↓reduceIte, undef, hn, h9, h12, eq_false cn]
        exact hQ2 _ _ _ ⟨rfl, rfl, by simp only [n_put, hn], by simp only [get_put, ↓reduceIte, Nat.reduceEqDiff, h0]⟩
    clear hn h0 h1 h2 h6 h7 f
    rintro z f _ ⟨rfl, rfl, hn, h0⟩
    simp (config := { maxSteps := 1000000, implicitDefEqProofs := false }) (disch := omega) only [allW, ↓reduceIte]
    exact wround_next 0 (by omega) ⟨by simp only [hn], by simp only [h0], .inr ⟨rfl, 4, o1, hBd, toT, hz.symm⟩⟩
  have d5 : ¬ ((d : Nat) : Int) > ((P.length : Nat) : Int) := by omega
  rw [if_neg cd] at hz
  simp (config := { maxSteps := 1000000, implicitDefEqProofs := false }) (disch := omega) only [allW, allR, evalAll, Nat.reduceLT, Nat.reduceEqDiff, ↓reduceIte, undef, hn, h0, wfld0, wfld1, tfld2, w0, w1, l2, hlen4, eq_false d5]
  refine Comes.loopOut (fun z f t' => ∃ i : Nat, base ≤ t'.next ∧ f.n = 147 ∧ f.get 0 = bptr jf ∧ f.get 1 = ta ∧ f.get 2 = td ∧ f.get 6 = tc ∧ f.get 7 = te ∧ f.get 9 = .int .i64 (n : Nat) ∧ f.get 11 = .int .i64 (d : Nat) ∧ f.get 12 = .int .i64 (i : Nat) ∧ ((∃ (P1 : List UInt8) (o3 : Value), z = n - i ∧ i ≤ n ∧ rep m d (n - i) P1 = rep m d n P ∧ d ≤ P1.length ∧ P1.length ≤ m ∧ Fl base t' jf jb D (r + dstW c) P1 (m : Nat) bv o3 ∧ FTo jf jb o1 t o3 t') ∨ (z = 0 ∧ ∃ (e : Nat) (o3 : Value), Bd base t' jf jb e ∧ FTo jf jb o1 t o3 t' ∧ rep m d n P = .error e)))
    (fun z f t' => z = .exit 2 ∧ f.n = 147 ∧ f.get 0 = bptr jf ∧ f.get 1 = ta ∧ f.get 2 = td ∧ f.get 6 = tc ∧ f.get 7 = te ∧ ((∃ (P1 : List UInt8) (o3 : Value), rep m d n P = .ok P1 ∧ P1.length ≤ m ∧ Fl base t' jf jb D (r + dstW c) P1 (m : Nat) bv o3 ∧ FTo jf jb o1 t o3 t') ∨ (∃ (e : Nat) (o3 : Value), Bd base t' jf jb e ∧ FTo jf jb o1 t o3 t' ∧ rep m d n P = .error e)))
    ⟨0, bt4, by simp only [n_put, hn], by simp only [get_put, ↓reduceIte, Nat.reduceEqDiff, h0], by simp only [get_put, ↓reduceIte, Nat.reduceEqDiff, h1], by simp only [get_put, ↓reduceIte, Nat.reduceEqDiff, h2], by simp only [get_put, ↓reduceIte, Nat.reduceEqDiff, h6], by simp only [get_put, ↓reduceIte, Nat.reduceEqDiff, h7], by simp only [get_put, ↓reduceIte, Nat.reduceEqDiff], by simp only [get_put, ↓reduceIte, Nat.reduceEqDiff], by simp only [get_put, ↓reduceIte]; rfl, .inl ⟨P, o1, rfl, by omega, rfl, by omega, hPm, hF4, to4⟩⟩ ?_ ?_
  · clear hn h0 h1 h2 h6 h7 f w0 w1 l2 hlen4
    rintro Q2 hQ2 z f t' ⟨i, nb5, hn, h0, h1, h2, h6, h7, h9, h11, h12, (⟨P1, o3, rfl, hi, hrp, hdP, hP1, hF5, to5⟩ | ⟨rfl, e, o3, hBd, to5, he⟩)⟩
    rotate_left
    · obtain ⟨bv', pv', o', m', hB'⟩ := id hBd
      have w0 := hB'.f.load (P := Try.prog) agBitsP (off := 0) (c := 4) rfl (by simp)
      have l2 := hB'.b.load (P := Try.prog) agInt (off := 2) (c := 4) rfl (by simp)
      have hp := hB'.pos
      have c0 : ¬ (e : Int) = 0 := by omega
      by_cases cn : (i : Int) < (n : Int)
      · simp (config := { maxSteps := 1000000, implicitDefEqProofs := false }) (disch := omega) only [allW, allR, Nat.reduceLT, Nat.reduceEqDiff, ↓reduceIte, undef, hn, h0, h9, h12, eq_true cn, wfld0, tfld2, w0, l2, eq_false c0]
        exact hQ2 _ _ _ ⟨rfl, by simp only [n_put, hn], by simp only [get_put, ↓reduceIte, Nat.reduceEqDiff, h0], by simp only [get_put, ↓reduceIte, Nat.reduceEqDiff, h1], by simp only [get_put, ↓reduceIte, Nat.reduceEqDiff, h2], by simp only [get_put, ↓reduceIte, Nat.reduceEqDiff, h6], by simp only [get_put, ↓reduceIte, Nat.reduceEqDiff, h7], .inr ⟨e, o3, hBd, to5, he⟩⟩
      · simp (config := { maxSteps := 1000000, implicitDefEqProofs := false }) (disch := omega) only [allW, allR, Nat.reduceLT, Nat.reduceEqDiff, ↓reduceIte, undef, hn, h9, h12, eq_false cn]
        exact hQ2 _ _ _ ⟨rfl, by simp only [n_put, hn], by simp only [get_put, ↓reduceIte, Nat.reduceEqDiff, h0], by simp only [get_put, ↓reduceIte, Nat.reduceEqDiff, h1], by simp only [get_put, ↓reduceIte, Nat.reduceEqDiff, h2], by simp only [get_put, ↓reduceIte, Nat.reduceEqDiff, h6], by simp only [get_put, ↓reduceIte, Nat.reduceEqDiff, h7], .inr ⟨e, o3, hBd, to5, he⟩⟩
    have w0 := hF5.f.load (P := Try.prog) agBitsP (off := 0) (c := 4) rfl (by simp)
    have l2 := hF5.b.load (P := Try.prog) agInt (off := 2) (c := 4) rfl (by simp)
    by_cases hin : i < n
    rotate_left
    · obtain rfl : i = n := by omega
      have e1 : ¬ ((i : Nat) : Int) < ((i : Nat) : Int) := by omega
      rw [Nat.sub_self, rep] at hrp
      simp (config := { maxSteps := 1000000, implicitDefEqProofs := false }) (disch := omega) only [allW, allR, Nat.reduceLT, Nat.reduceEqDiff, ↓reduceIte, undef, hn, h9, h12, eq_false e1]
      exact hQ2 _ _ _ ⟨rfl, by simp only [n_put, hn], by simp only [get_put, ↓reduceIte, Nat.reduceEqDiff, h0], by simp only [get_put, ↓reduceIte, Nat.reduceEqDiff, h1], by simp only [get_put, ↓reduceIte, Nat.reduceEqDiff, h2], by simp only [get_put, ↓reduceIte, Nat.reduceEqDiff, h6], by simp only [get_put, ↓reduceIte, Nat.reduceEqDiff, h7], .inl ⟨P1, o3, hrp.symm, hP1, hF5, to5⟩⟩
    have e1 : ((i : Nat) : Int) < ((n : Nat) : Int) := by omega
    rw [show n - i = (n - (i + 1)) + 1 by omega, rep] at hrp
    simp (config := { maxSteps := 1000000, implicitDefEqProofs := false }) (disch := omega) only [allW, allR, Nat.reduceLT, Nat.reduceEqDiff, ↓reduceIte, undef, hn, h0, h9, h12, eq_true e1, wfld0, tfld2, w0, l2]
    obtain ⟨BB, hBB⟩ : ∃ BB : Nat → Bool, BB = fun j => decide (j < t'.next) := ⟨_, rfl⟩
    have hBl : ∀ j, BB j = true → j < t'.next := by
      intro j h
      rw [hBB] at h
      exact of_decide_eq_true h
    have hBo : ∀ j, j < t'.next → BB j = true := fun j h => by rw [hBB]; exact decide_eq_true h
    refine LB.Drawn.looseK BB hBl 0 0 (by kernel_rfl) (by kernel_rfl) ?_
    have hsq := Stay.spare t' 0
    have hnq : (spare t' 0).next = t'.next + 0 := spare_next _ _
    have toq : FTo jf jb o3 t' o3 (spare t' 0) := ⟨by omega, fun i hi _ _ _ => hsq.get i hi, .inl rfl⟩
    have hlw : ∀ k, LA.lowV BB (some (.pointer (some ⟨jf, k, some 4⟩))) = true := fun k => LA.lowV_ptr (A := BB) (i := jf) (hBo _ hF5.f.lt)
    have lE := fun k => LA.lowV_elemOld hF5.own.sees hBo (k := k)
    have lL := LA.lowL_sees hF5.own.sees
    have hFq : Fl base (spare t' 0) jf jb D (r + dstW c) P1 (m : Nat) bv o3 := ⟨hF5.b.keeps hsq, hF5.f.keeps hsq, hF5.low.stay (hsq.weaken nb5), hF5.own.keeps hsq, hF5.fresh, hF5.nb, hF5.nf, hF5.ne, hF5.lb, hF5.lf⟩
    have w1 := hFq.f.load (P := Try.prog) agSl (off := 1) (c := 4) rfl (by simp)
    have hlen5 := hFq.own.sees.lenA (P := Try.prog) Try.underlying22 (s2 := spare t' 0)
    have hix : P1.length - d < P1.length := by omega
    have hi1 := hFq.own.sees.indexAddr (P := Try.prog) (k := .i64) (x := ((P1.length - d : Nat) : Int)) Try.underlying22 szU8 (by omega) (by omega)
    rw [Int.toNat_natCast] at hi1
    have k1 := hFq.own.sees.load1 (P := Try.prog) agU8 hix
    rw [ofBytes_getD hix] at k1
    have e2 : ((P1.length : Nat) : Int) - (d : Int) = ((P1.length - d : Nat) : Int) := by omega
    simp (config := { maxSteps := 1000000, implicitDefEqProofs := false }) (disch := omega) only [allW, allR, allL, allB, Nat.reduceSub, evalAll, Nat.reduceLT, Nat.reduceEqDiff, ↓reduceIte, hn, h0, h11, h12, wfld1, w1, hlw, lE, lL, hlen5, hF5.own.self, wrapI, e2, hi1, k1]
    by_cases cm : m ≤ P1.length
    · rw [if_pos cm] at hrp
      refine (fputL_any hpu hfa base (spare t' 0) jf jb D P1 _ _ (P1.getD (P1.length - d) 0) bv o3 hFq (by omega)).mono ?_
      rintro _ t6 ⟨hBd, to6⟩
      refine ⟨fun h => h.elim, ?_⟩
      have n6 := to6.next
      exact wround_next 0 (by omega) ⟨i + 1, by omega, by simp only [n_put, hn], by simp only [get_put, ↓reduceIte, Nat.reduceEqDiff, h0], by simp only [get_put, ↓reduceIte, Nat.reduceEqDiff, h1], by simp only [get_put, ↓reduceIte, Nat.reduceEqDiff, h2], by simp only [get_put, ↓reduceIte, Nat.reduceEqDiff, h6], by simp only [get_put, ↓reduceIte, Nat.reduceEqDiff, h7], by simp only [get_put, ↓reduceIte, Nat.reduceEqDiff, h9], by simp only [get_put, ↓reduceIte, Nat.reduceEqDiff, h11], by simp only [get_put, ↓reduceIte]; rfl, .inr ⟨rfl, 7, o3, hBd, to5.trans (toq.trans to6), hrp.symm⟩⟩
    rw [if_neg cm] at hrp
    refine (fputT_any hpu base (spare t' 0) jf jb D P1 _ _ (P1.getD (P1.length - d) 0) bv o3 hFq (by omega) (by omega) (by omega)).mono ?_
    rintro _ t6 ⟨o4, hF6, to6⟩
    refine ⟨fun h => h.elim, ?_⟩
    have n6 := to6.next
    exact wround_next (n - (i + 1)) (by omega) ⟨i + 1, by omega, by simp only [n_put, hn], by simp only [get_put, ↓reduceIte, Nat.reduceEqDiff, h0], by simp only [get_put, ↓reduceIte, Nat.reduceEqDiff, h1], by simp only [get_put, ↓reduceIte, Nat.reduceEqDiff, h2], by simp only [get_put, ↓reduceIte, Nat.reduceEqDiff, h6], by simp only [get_put, ↓reduceIte, Nat.reduceEqDiff, h7], by simp only [get_put, ↓reduceIte, Nat.reduceEqDiff, h9], by simp only [get_put, ↓reduceIte, Nat.reduceEqDiff, h11], by simp only [get_put, ↓reduceIte]; rfl, .inl ⟨_, o4, rfl, by omega, hrp, by rw [List.length_append]; omega, by rw [List.length_append, List.length_singleton]; omega, hF6, to5.trans (toq.trans to6)⟩⟩
  clear hn h0 h1 h2 h6 h7 f w0 w1 l2 hlen4
  rintro z f t' ⟨rfl, hn, h0, h1, h2, h6, h7, (⟨P1, o3, hrp, hP1, hF5, to5⟩ | ⟨e, o3, hBd, to5, he⟩)⟩
  · rw [hrp] at hz
    simp (config := { maxSteps := 1000000, implicitDefEqProofs := false }) (disch := omega) only [allW, ↓reduceIte]
    exact wround_next k (by omega) ⟨by simp only [hn], by simp only [h0], .inl ⟨r + dstW c, P1, o3, hz, by omega, r2, hP1, hF5, hto.trans to5, hA.to to5, hB.to to5, hC.to to5, hE.to to5, by simp only [h1], by simp only [h2], by simp only [h6], by simp only [h7]⟩⟩
  · rw [he] at hz
    simp (config := { maxSteps := 1000000, implicitDefEqProofs := false }) (disch := omega) only [allW, ↓reduceIte]
    exact wround_next 0 (by omega) ⟨by simp only [hn], by simp only [h0], .inr ⟨rfl, e, o3, hBd, hto.trans to5, hz.symm⟩⟩
end Go.Proofs.Ytnclklboogdoiaa
