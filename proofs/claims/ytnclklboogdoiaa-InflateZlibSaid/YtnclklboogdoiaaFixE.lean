/-
  Deflate by the fixed codes, read by the reference: lengths, distances, a block.
-/
import Derived.Test.YtnclklboogdoiaaFixD
import Derived.Test.YtnclklboogdoiaaFixV
import Derived.Test.YtnclklboogdoiaaLow
set_option linter.unusedSimpArgs false
set_option linter.unusedVariables false
set_option maxRecDepth 100000
namespace Go.Proofs.Ytnclklboogdoiaa
open Go.Cl Go.Cl.Rw Go.Cl.Sto Go.Cl.Fx
set_option maxHeartbeats 4000000 in
theorem flength_any {lib : Prims} (hl : lib.at 59 = none) (hlt : lib.at 32 = none) (base : Nat) (s : ASt) (jf jb : Nat) (D P : List UInt8) (p : Nat) (M : Int) (bv o : Value) (h : Fl base s jf jb D p P M bv o) (hDl : D.length ≤ 1000000000) (q : Nat) (hq1 : 257 ≤ q) (hq : q ≤ 285) (hD : p + lenW q ≤ 8 * D.length) :
    Runs Try.prog lib 59 [bptr jf, .int .i64 (q : Nat)] s fun v s' => v = .int .i64 (lenOf q (bitsN D p (lenW q)) : Nat) ∧ Fl base s' jf jb D (p + lenW q) P M bv o ∧ FTo jf jb o s o s' := by
  refine Runs.enter 32 Try.func59 rfl hl rfl rfl ?_
  intro f hn hf
  have h0 : f.get 0 = bptr jf := hf 0
  have h1 : f.get 1 = .int .i64 (q : Nat) := hf 1
  clear hf
  by_cases c1 : q ≤ 264
  · have d1 : (q : Int) ≤ 264 := by omega
    have ew : lenW q = 0 := by unfold lenW; rw [if_pos (.inl c1)]
    have eo : ((lenOf q (bitsN D p (lenW q)) : Nat) : Int) = (q : Int) - 254 := by unfold lenOf; rw [if_pos c1]; omega
    simp (config := { maxSteps := 1000000, implicitDefEqProofs := false }) (disch := omega) only [allW, wfn_ret, oneOf, Nat.reduceLT, Nat.reduceEqDiff, ↓reduceIte, hn, h1, eq_true d1, wrapI, Try.results59]
    rw [eo, ew]
    exact ⟨rfl, h, FTo.refl _ _ _ _⟩
  have d1 : ¬ (q : Int) ≤ 264 := by omega
  by_cases c2 : q = 285
  · have d2 : (q : Int) = 285 := by omega
    have ew : lenW q = 0 := by unfold lenW; rw [if_pos (.inr c2)]
    have eo : lenOf q (bitsN D p (lenW q)) = 258 := by unfold lenOf; rw [if_neg c1, if_pos c2]
    simp (config := { maxSteps := 1000000, implicitDefEqProofs := false }) (disch := omega) only [allW, wfn_ret, oneOf, Nat.reduceLT, Nat.reduceEqDiff, ↓reduceIte, hn, h1, eq_false d1, eq_true d2, Try.results59]
    rw [eo, ew]
    exact ⟨rfl, h, FTo.refl _ _ _ _⟩
  have d2 : ¬ (q : Int) = 285 := by omega
  have ew : lenW q = (q - 261) / 4 := by unfold lenW; rw [if_neg (by omega)]
  have e1 : (q : Int) - 261 = ((q - 261 : Nat) : Int) := by omega
  have e2 : (q : Int) - 265 = ((q - 265 : Nat) : Int) := by omega
  have q4 : ((q - 261 : Nat) : Int).tdiv 4 = (((q - 261) / 4 : Nat) : Int) := by rw [Int.tdiv_eq_ediv_of_nonneg (by omega)]; omega
  have r4 : ((q - 265 : Nat) : Int).tmod 4 = (((q - 265) % 4 : Nat) : Int) := by rw [Int.tmod_eq_emod_of_nonneg (by omega)]; omega
  have e3 : (4 : Int) + (((q - 265) % 4 : Nat) : Int) = ((4 + (q - 265) % 4 : Nat) : Int) := by omega
  have hp := pow_le5 (show (q - 261) / 4 ≤ 5 by omega)
  have hm7 : 4 + (q - 265) % 4 ≤ 7 := by omega
  have hx : (4 + (q - 265) % 4) * 2 ^ ((q - 261) / 4) ≤ 7 * 2 ^ 5 := Nat.mul_le_mul hm7 hp
  have hsh := shlS Try.prog 3 .u64 (x := 4 + (q - 265) % 4) (k := (q - 261) / 4) (by omega) (by omega)
  have eo : lenOf q (bitsN D p (lenW q)) = (4 + (q - 265) % 4) * 2 ^ ((q - 261) / 4) + 3 + bitsN D p ((q - 261) / 4) := by unfold lenOf; rw [if_neg c1, if_neg c2, ew]
  have hbl := bitsN_lt D p ((q - 261) / 4)
  rw [eo]
  rw [ew] at hD ⊢
  generalize hX : (4 + (q - 265) % 4) * 2 ^ ((q - 261) / 4) = X at hx hsh
  have w0 := h.f.load (P := Try.prog) agBitsP (off := 0) (c := 4) rfl (by simp)
  simp (config := { maxSteps := 1000000, implicitDefEqProofs := false }) (disch := omega) only [allW, allR, evalAll, Nat.reduceLT, Nat.reduceEqDiff, ↓reduceIte, hn, h0, h1, eq_false d1, eq_false d2, wrapI, e1, bin_quo, q4, e2, bin_rem, r4, e3, conv_int Try.underlying3 Try.underlying29, wrapu64x, hsh, wfld0, w0]
  refine (takeT_any hlt base s jf jb D P p ((q - 261) / 4) M bv o h (by omega) hD hDl).mono ?_
  rintro _ s2 ⟨rfl, hF, hto⟩
  have e4 : ((X : Nat) : Int) + 3 + ((bitsN D p ((q - 261) / 4) : Nat) : Int) = ((X + 3 + bitsN D p ((q - 261) / 4) : Nat) : Int) := by omega
  simp (config := { maxSteps := 1000000, implicitDefEqProofs := false }) (disch := omega) only [allW, wfn_ret, oneOf, Nat.reduceLT, Nat.reduceEqDiff, ↓reduceIte, hn, wrapI, e4, Try.results59]
  exact ⟨hF, hto⟩
set_option maxHeartbeats 4000000 in
theorem fdistance_any {lib : Prims} (hl : lib.at 60 = none) (hlt : lib.at 32 = none) (base : Nat) (s : ASt) (jf jb : Nat) (D P : List UInt8) (p : Nat) (M : Int) (bv o : Value) (h : Fl base s jf jb D p P M bv o) (hDl : D.length ≤ 1000000000) (q : Nat) (hq : q ≤ 29) (hD : p + dstW q ≤ 8 * D.length) :
    Runs Try.prog lib 60 [bptr jf, .int .i64 (q : Nat)] s fun v s' => v = .int .i64 (dstOf q (bitsN D p (dstW q)) : Nat) ∧ Fl base s' jf jb D (p + dstW q) P M bv o ∧ FTo jf jb o s o s' := by
  refine Runs.enter 27 Try.func60 rfl hl rfl rfl ?_
  intro f hn hf
  have h0 : f.get 0 = bptr jf := hf 0
  have h1 : f.get 1 = .int .i64 (q : Nat) := hf 1
  clear hf
  by_cases c1 : q ≤ 3
  · have d1 : (q : Int) ≤ 3 := by omega
    have ew : dstW q = 0 := by unfold dstW; rw [if_pos c1]
    have eo : ((dstOf q (bitsN D p (dstW q)) : Nat) : Int) = (q : Int) + 1 := by unfold dstOf; rw [if_pos c1]; omega
    simp (config := { maxSteps := 1000000, implicitDefEqProofs := false }) (disch := omega) only [allW, wfn_ret, oneOf, Nat.reduceLT, Nat.reduceEqDiff, ↓reduceIte, hn, h1, eq_true d1, wrapI, Try.results60]
    rw [eo, ew]
    exact ⟨rfl, h, FTo.refl _ _ _ _⟩
  have d1 : ¬ (q : Int) ≤ 3 := by omega
  have ew : dstW q = q / 2 - 1 := by unfold dstW; rw [if_neg c1]
  have q4 : (q : Int).tdiv 2 = ((q / 2 : Nat) : Int) := by rw [Int.tdiv_eq_ediv_of_nonneg (by omega)]; omega
  have e1 : ((q / 2 : Nat) : Int) - 1 = ((q / 2 - 1 : Nat) : Int) := by omega
  have r4 : (q : Int).tmod 2 = ((q % 2 : Nat) : Int) := by rw [Int.tmod_eq_emod_of_nonneg (by omega)]; omega
  have e3 : (2 : Int) + ((q % 2 : Nat) : Int) = ((2 + q % 2 : Nat) : Int) := by omega
  have hp := pow_le5 (show q / 2 - 1 ≤ 13 by omega)
  have hm7 : 2 + q % 2 ≤ 3 := by omega
  have hx : (2 + q % 2) * 2 ^ (q / 2 - 1) ≤ 3 * 2 ^ 13 := Nat.mul_le_mul hm7 hp
  have hsh := shlS Try.prog 3 .u64 (x := 2 + q % 2) (k := q / 2 - 1) (by omega) (by omega)
  have eo : dstOf q (bitsN D p (dstW q)) = (2 + q % 2) * 2 ^ (q / 2 - 1) + 1 + bitsN D p (q / 2 - 1) := by unfold dstOf; rw [if_neg c1, ew]
  have hbl := bitsN_lt D p (q / 2 - 1)
  rw [eo]
  rw [ew] at hD ⊢
  generalize hX : (2 + q % 2) * 2 ^ (q / 2 - 1) = X at hx hsh
  have w0 := h.f.load (P := Try.prog) agBitsP (off := 0) (c := 4) rfl (by simp)
  simp (config := { maxSteps := 1000000, implicitDefEqProofs := false }) (disch := omega) only [allW, allR, evalAll, Nat.reduceLT, Nat.reduceEqDiff, ↓reduceIte, hn, h0, h1, eq_false d1, bin_quo, q4, wrapI, e1, bin_rem, r4, e3, conv_int Try.underlying3 Try.underlying29, wrapu64x, hsh, wfld0, w0]
  refine (takeT_any hlt base s jf jb D P p (q / 2 - 1) M bv o h (by omega) hD hDl).mono ?_
  rintro _ s2 ⟨rfl, hF, hto⟩
  have e4 : ((X : Nat) : Int) + 1 + ((bitsN D p (q / 2 - 1) : Nat) : Int) = ((X + 1 + bitsN D p (q / 2 - 1) : Nat) : Int) := by omega
  simp (config := { maxSteps := 1000000, implicitDefEqProofs := false }) (disch := omega) only [allW, wfn_ret, oneOf, Nat.reduceLT, Nat.reduceEqDiff, ↓reduceIte, hn, wrapI, e4, Try.results60]
  exact ⟨hF, hto⟩
end Go.Proofs.Ytnclklboogdoiaa
namespace Go.Cl.Fx
open Go.Cl.Rw Go.Cl.Sto
end Go.Cl.Fx
namespace Go.Proofs.Ytnclklboogdoiaa
open Go.Cl Go.Cl.Rw Go.Cl.Sto Go.Cl.Fx
end Go.Proofs.Ytnclklboogdoiaa
