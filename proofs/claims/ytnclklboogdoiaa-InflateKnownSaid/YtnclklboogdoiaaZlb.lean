/-
  The reference's Big: a number as bytes, the highest first.
-/
import Derived.Test.YtnclklboogdoiaaSame
import Derived.Test.YtnclklboogdoiaaBigP
import Derived.Test.YtnclklboogdoiaaRow
import Derived.Test.YtnclklboogdoiaaCopy
import Derived.Test.YtnclklboogdoiaaStoP
import Derived.Test.YtnclklboogdoiaaCopyW
import Derived.Test.YtnclklboogdoiaaLib
import Derived.Test.YtnclklboogdoiaaFixU
set_option linter.unusedSimpArgs false
set_option linter.unusedVariables false
set_option maxRecDepth 100000
namespace Go.Proofs.Ytnclklboogdoiaa
open Go.Cl
theorem rbig_any {lib : Prims} (hl : lib.at 44 = none) (s : ASt) (n w : Nat) (hw : w ≤ 8) (hn : n < 9223372036854775808) :
    Runs Try.prog lib 44 [.int .i64 (n : Nat), .int .i64 (w : Nat)] s fun v s' => NewBytes s v s' (be w n) := by
  refine Runs.enter 23 Try.func44 rfl hl rfl rfl ?_
  intro f hnf hf
  have h0 : f.get 0 = .int .i64 (n : Nat) := hf 0
  have h1 : f.get 1 = .int .i64 (w : Nat) := hf 1
  clear hf
  simp (config := { maxSteps := 1000000, implicitDefEqProofs := false }) (disch := omega) only [allW, allR, oneOf, evalAll, partsA, optA, Nat.reduceLT, Nat.reduceLeDiff, Nat.reduceEqDiff, Nat.reduceAdd, ↓reduceIte, hnf, h0, h1, wrapI]
  refine Comes.loopAt (fun z f s1 => ∃ (j : Nat) (o : Value), z = w - j ∧ j ≤ w ∧ Own s1 1 o (beTo w n j).length (ofBytes (beTo w n j)) ∧ Fresh s.next o ∧ Stay s.next s s1 ∧ f.n = 23 ∧ f.get 0 = .int .i64 (n : Nat) ∧ f.get 5 = o ∧ f.get 6 = .int .i64 ((w : Int) - 1 - (j : Int)))
    ⟨0, .slice none 0 0, rfl, by omega, .nil, Fresh.nil _, Stay.refl _ _, by simp only [get_put, n_put, ↓reduceIte, Nat.reduceEqDiff, hnf], by simp only [get_put, n_put, ↓reduceIte, Nat.reduceEqDiff, h0], by simp only [get_put, n_put, ↓reduceIte, Nat.reduceEqDiff], by simp only [get_put, n_put, ↓reduceIte, Nat.reduceEqDiff]; rw [Int.natCast_zero, Int.sub_zero]⟩ ?_
  clear hnf h0 h1 f
  rintro z f s1 ⟨j, o, rfl, hj, ho, hF, hst, hnf, h0, h5, h6⟩
  by_cases hlt : j < w
  · have e1 : (0 : Int) ≤ (w : Int) - 1 - (j : Int) := by omega
    have e2 : 8 * ((w : Int) - 1 - (j : Int)) = ((8 * (w - 1 - j) : Nat) : Int) := by omega
    simp (config := { maxSteps := 1000000, implicitDefEqProofs := false }) (disch := omega) only [allW, allR, oneOf, evalAll, partsA, optA, Nat.reduceLT, Nat.reduceLeDiff, Nat.reduceEqDiff, Nat.reduceAdd, ↓reduceIte, hnf, h0, h5, h6, eq_true e1, wrapI, conv_int Try.underlying3 Try.underlying29, wrapU, shrBytes Try.prog 3 .u64 n (w - 1 - j) e2, conv_int Try.underlying3 Try.underlying5, u8_of, build1 Try.underlying22 szU8 zU8]
    refine wstep_append_lit Try.underlying22 szU8 byU8 zU8 rfl ho (by simp only [get_put, n_put, ↓reduceIte, Nat.reduceEqDiff, h5]) (by decide) (by simp only [get_put, n_put, ↓reduceIte, Nat.reduceEqDiff, hnf]; decide) (by simp only [get_put, n_put, ↓reduceIte, Nat.reduceEqDiff, hnf]; decide) (by rfl) (by decide) rfl (by rw [beTo_length]; omega) (by rw [beTo_length]; omega) hF hst.next ?_
    intro bs o' s2 ho' hF' hst2 _ _
    simp (config := { maxSteps := 1000000, implicitDefEqProofs := false }) (disch := omega) only [allW, allR, oneOf, evalAll, partsA, optA, Nat.reduceLT, Nat.reduceLeDiff, Nat.reduceEqDiff, Nat.reduceAdd, ↓reduceIte, hnf, h0, h5, h6, wrapI]
    refine wround_next (w - (j + 1)) (by omega) ⟨j + 1, o', rfl, by omega, ?_, hF', hst.trans hst2, by simp only [get_put, n_put, ↓reduceIte, Nat.reduceEqDiff, hnf], by simp only [get_put, n_put, ↓reduceIte, Nat.reduceEqDiff, h0], by simp only [get_put, n_put, ↓reduceIte, Nat.reduceEqDiff], ?_⟩
    · rw [beTo_succ, ofBytes_append, List.length_append]; exact ho'
    · simp only [get_put, n_put, ↓reduceIte, Nat.reduceEqDiff]
      rw [show (w : Int) - 1 - (j : Int) - 1 = (w : Int) - 1 - ((j + 1 : Nat) : Int) by omega]
  · obtain rfl : j = w := by omega
    have e1 : ¬ (0 : Int) ≤ (j : Int) - 1 - (j : Int) := by omega
    simp (config := { maxSteps := 1000000, implicitDefEqProofs := false }) (disch := omega) only [allW, allR, wfn_ret, wfn_normal, oneOf, evalAll, partsA, optA, Nat.reduceLT, Nat.reduceLeDiff, Nat.reduceEqDiff, Nat.reduceAdd, ↓reduceIte, hnf, h0, h5, h6, eq_false e1, Try.results44]
    exact ⟨ho, hF, hst⟩
end Go.Proofs.Ytnclklboogdoiaa
set_option linter.unusedSimpArgs false
set_option linter.unusedVariables false
set_option maxRecDepth 100000
namespace Go.Cl
def adl1 (q : Nat × Nat) (c : UInt8) : Nat × Nat := ((q.1 + c.toNat) % 65521, (q.2 + (q.1 + c.toNat) % 65521) % 65521)
def adlN (l : List UInt8) : Nat × Nat := l.foldl adl1 (1, 0)
def adl (l : List UInt8) : Nat := (adlN l).2 * 65536 + (adlN l).1
theorem adlN_lt (l : List UInt8) : (adlN l).1 < 65521 ∧ (adlN l).2 < 65521 := by
  have key : ∀ (l : List UInt8) (q : Nat × Nat), q.1 < 65521 ∧ q.2 < 65521 → (l.foldl adl1 q).1 < 65521 ∧ (l.foldl adl1 q).2 < 65521 := by
    intro l
    induction l with
    | nil => intro q h; exact h
    | cons c l ih => intro q h; exact ih _ ⟨Nat.mod_lt _ (by omega), Nat.mod_lt _ (by omega)⟩
  exact key l _ (by decide)
theorem adl_lt (l : List UInt8) : adl l < 4294967296 := by
  have := adlN_lt l
  unfold adl; omega
theorem adlN_take {l : List UInt8} {i : Nat} (h : i < l.length) : adlN (l.take (i + 1)) = adl1 (adlN (l.take i)) (l.getD i 0) := by
  unfold adlN
  rw [List.take_add_one, List.getElem?_eq_getElem h, List.foldl_append, List.getD_eq_getElem?_getD, List.getElem?_eq_getElem h]; rfl
theorem wrapu32x {x : Int} (h0 : 0 ≤ x) (h : x < 4294967296) : IntKind.u32.wrap x = x := by
  have e1 : IntKind.u32.bits = 32 := rfl
  have e2 : IntKind.u32.signed = false := rfl
  simp only [IntKind.wrap, e1, e2, Bool.false_and]
  simp
  omega
theorem orU {y x : Nat} (hy : y < 65536) (hx : x < 65536) : IntKind.u32.wrap (((BitVec.ofInt IntKind.u32.bits ((y * 65536 : Nat) : Int) ||| BitVec.ofInt IntKind.u32.bits (x : Int)).toNat : Nat) : Int) = ((y * 65536 + x : Nat) : Int) := by
  have e1 : IntKind.u32.bits = 32 := rfl
  rw [e1]
  have : (BitVec.ofInt 32 ((y * 65536 : Nat) : Int) ||| BitVec.ofInt 32 (x : Int)).toNat = y * 65536 + x := by
    rw [BitVec.toNat_or, BitVec.ofInt_natCast, BitVec.ofInt_natCast, BitVec.toNat_ofNat, BitVec.toNat_ofNat, Nat.mod_eq_of_lt (by omega), Nat.mod_eq_of_lt (by omega)]
    have := Nat.shiftLeft_add_eq_or_of_lt (i := 16) (b := x) (by omega) y
    rw [Nat.shiftLeft_eq] at this
    exact this.symm
  rw [this, wrapu32x (by omega) (by omega)]
theorem shlU (P : Program) (t : TypeId) (k' : IntKind) {y : Nat} (hy : y < 65536) : binA P .shl t (.int .u32 (y : Int)) (.int k' 16) = some (.int .u32 ((y * 65536 : Nat) : Int)) := by
  rw [bin_shl P t .u32 _ _ k' (by omega)]
  have e : min (16 : Int).toNat IntKind.u32.bits = 16 := by decide
  rw [e]
  have e2 : (y : Int) * (2 : Int) ^ 16 = ((y * 65536 : Nat) : Int) := by omega
  rw [e2, wrapu32x (by omega) (by omega)]
end Go.Cl
namespace Go.Proofs.Ytnclklboogdoiaa
open Go.Cl
theorem mod521 (n : Nat) : ((n : Int)).tmod 65521 = ((n % 65521 : Nat) : Int) := by rw [Int.tmod_eq_emod_of_nonneg (by omega)]; omega
theorem and1U : IntKind.u32.wrap (((BitVec.ofInt IntKind.u32.bits 1 &&& BitVec.ofInt IntKind.u32.bits 65535).toNat : Nat) : Int) = 1 := by decide
set_option maxHeartbeats 4000000 in
theorem more_any {lib : Prims} (hl : lib.at 63 = none) (s : ASt) (x : Value) (l : List UInt8) (hx : Sees s 1 x l.length (ofBytes l)) (hlen : l.length ≤ 1000000000) :
    Runs Try.prog lib 63 [.int .u32 1, x] s fun v s' => v = .int .u32 (adl l : Nat) ∧ s' = s := by
  refine Runs.enter 35 Try.func63 rfl hl rfl rfl ?_
  intro f hn hf
  have h0 : f.get 0 = .int .u32 1 := hf 0
  have h1 : f.get 1 = x := hf 1
  clear hf
  have m1 : (1 : Int).tmod 65521 = 1 := by decide
  have m0 : (0 : Int).tmod 65521 = 0 := by decide
  have s0 : binA Try.prog .shr 72 (.int .u32 1) (.int .u64 16) = some (.int .u32 0) := by
    rw [bin_shr _ _ .u32 _ _ .u64 (by omega)]; rfl
  simp (config := { maxSteps := 1000000, implicitDefEqProofs := false }) (disch := omega) only [allW, allR, oneOf, evalAll, partsA, optA, Nat.reduceLT, Nat.reduceLeDiff, Nat.reduceEqDiff, Nat.reduceAdd, ↓reduceIte, hn, h0, h1, bin_and, and1U, bin_rem, m1, m0, s0, hx.lenA Try.underlying22]
  refine Comes.loopOut (fun z f t => ∃ i : Nat, z = l.length - i ∧ i ≤ l.length ∧ t = s ∧ f.n = 35 ∧ f.get 5 = .int .u32 ((adlN (l.take i)).1 : Nat) ∧ f.get 6 = .int .u32 ((adlN (l.take i)).2 : Nat) ∧ f.get 15 = x ∧ f.get 16 = .int .i64 (l.length : Nat) ∧ f.get 17 = .int .i64 (i : Nat))
    (fun z f t => z = .exit 0 ∧ t = s ∧ f.n = 35 ∧ f.get 5 = .int .u32 ((adlN l).1 : Nat) ∧ f.get 6 = .int .u32 ((adlN l).2 : Nat))
    ⟨0, rfl, by omega, rfl, by simp only [get_put, n_put, ↓reduceIte, Nat.reduceEqDiff, hn], by simp only [get_put, n_put, ↓reduceIte, Nat.reduceEqDiff]; rfl, by simp only [get_put, n_put, ↓reduceIte, Nat.reduceEqDiff]; rfl, by simp only [get_put, n_put, ↓reduceIte, Nat.reduceEqDiff], by simp only [get_put, n_put, ↓reduceIte, Nat.reduceEqDiff], by simp only [get_put, n_put, ↓reduceIte, Nat.reduceEqDiff]; rfl⟩ ?_ ?_
  · clear hn h0 h1 f
    rintro Q hQ z f t ⟨i, rfl, hi, rfl, hn, h5, h6, h15, h16, h17⟩
    by_cases hlt : i < l.length
    rotate_left
    · obtain rfl : i = l.length := by omega
      have d1 : ¬ ((l.length : Nat) : Int) < ((l.length : Nat) : Int) := by omega
      rw [List.take_length] at h5 h6
      simp (config := { maxSteps := 1000000, implicitDefEqProofs := false }) (disch := omega) only [allW, allR, oneOf, evalAll, partsA, optA, Nat.reduceLT, Nat.reduceLeDiff, Nat.reduceEqDiff, Nat.reduceAdd, ↓reduceIte, hn, h5, h6, h15, h16, h17, eq_false d1]
      exact hQ _ _ _ ⟨rfl, rfl, by simp only [get_put, n_put, ↓reduceIte, Nat.reduceEqDiff, hn], by simp only [get_put, n_put, ↓reduceIte, Nat.reduceEqDiff, h5], by simp only [get_put, n_put, ↓reduceIte, Nat.reduceEqDiff, h6]⟩
    have d1 : (i : Int) < (l.length : Int) := by omega
    have hi1 := hx.indexAddr (P := Try.prog) (k := .i64) (x := (i : Int)) Try.underlying22 szU8 (by omega) (by omega)
    rw [Int.toNat_natCast] at hi1
    have k1 := hx.load1 (P := Try.prog) agU8 hlt
    rw [ofBytes_getD hlt] at k1
    have hc := (l.getD i 0).toNat_lt
    have hq := adlN_lt (l.take i)
    have ht := adlN_take hlt
    generalize adlN (l.take i) = q at h5 h6 hq ht
    obtain ⟨q1, q2⟩ := q
    simp only at h5 h6 hq
    have e1 : (q1 : Int) + ((l.getD i 0).toNat : Int) = ((q1 + (l.getD i 0).toNat : Nat) : Int) := by omega
    have e2 : (q2 : Int) + ((((q1 + (l.getD i 0).toNat) % 65521 : Nat)) : Int) = ((q2 + (q1 + (l.getD i 0).toNat) % 65521 : Nat) : Int) := by omega
    simp (config := { maxSteps := 1000000, implicitDefEqProofs := false }) (disch := omega) only [allW, allR, oneOf, evalAll, partsA, optA, Nat.reduceLT, Nat.reduceLeDiff, Nat.reduceEqDiff, Nat.reduceAdd, ↓reduceIte, hn, h5, h6, h15, h16, h17, eq_true d1, hi1, k1, conv_int Try.underlying5 Try.underlying72, wrapu32x, e1, bin_rem, mod521, e2, wrapI]
    exact wround_next (l.length - (i + 1)) (by omega) ⟨i + 1, rfl, by omega, rfl, by simp only [get_put, n_put, ↓reduceIte, Nat.reduceEqDiff, hn], by simp only [get_put, n_put, ↓reduceIte, Nat.reduceEqDiff]; rw [ht]; rfl, by simp only [get_put, n_put, ↓reduceIte, Nat.reduceEqDiff]; rw [ht]; rfl, by simp only [get_put, n_put, ↓reduceIte, Nat.reduceEqDiff, h15], by simp only [get_put, n_put, ↓reduceIte, Nat.reduceEqDiff, h16], by simp only [get_put, n_put, ↓reduceIte, Nat.reduceEqDiff]; rfl⟩
  clear hn h0 h1 f
  rintro z f t ⟨rfl, rfl, hn, h5, h6⟩
  have hq := adlN_lt l
  have hor := orU (y := (adlN l).2) (x := (adlN l).1) (by omega) (by omega)
  have hsl := shlU Try.prog 72 .u64 (y := (adlN l).2) (by omega)
  simp (config := { maxSteps := 1000000, implicitDefEqProofs := false }) (disch := omega) only [allW, allR, wfn_ret, wfn_normal, oneOf, evalAll, partsA, optA, Nat.reduceLT, Nat.reduceLeDiff, Nat.reduceEqDiff, Nat.reduceAdd, ↓reduceIte, hn, h5, h6, hsl, bin_or, hor, Try.results63]
  rfl
set_option maxHeartbeats 4000000 in
theorem rmore_any {lib : Prims} (hl : lib.at 64 = none) (s : ASt) (x : Value) (l : List UInt8) (hx : Sees s 1 x l.length (ofBytes l)) (hlen : l.length ≤ 1000000000) :
    Runs Try.prog lib 64 [.int .u32 1, x] s fun v s' => v = .int .u32 (adl l : Nat) ∧ s' = s := by
  refine Runs.enter 36 Try.func64 rfl hl rfl rfl ?_
  intro f hn hf
  have h0 : f.get 0 = .int .u32 1 := hf 0
  have h1 : f.get 1 = x := hf 1
  clear hf
  have m2 : (1 : Int).tmod 65536 = 1 := by decide
  have m1 : (1 : Int).tmod 65521 = 1 := by decide
  have m0 : (0 : Int).tmod 65521 = 0 := by decide
  have q0 : (1 : Int).tdiv 65536 = 0 := by decide
  simp (config := { maxSteps := 1000000, implicitDefEqProofs := false }) (disch := omega) only [allW, allR, oneOf, evalAll, partsA, optA, Nat.reduceLT, Nat.reduceLeDiff, Nat.reduceEqDiff, Nat.reduceAdd, ↓reduceIte, hn, h0, h1, bin_rem, bin_quo, m2, m1, m0, q0, wrapu32x]
  refine Comes.loopOut (fun z f t => ∃ i : Nat, z = l.length - i ∧ i ≤ l.length ∧ t = s ∧ f.n = 36 ∧ f.get 1 = x ∧ f.get 5 = .int .u32 ((adlN (l.take i)).1 : Nat) ∧ f.get 6 = .int .u32 ((adlN (l.take i)).2 : Nat) ∧ f.get 7 = .int .i64 (i : Nat))
    (fun z f t => z = .exit 0 ∧ t = s ∧ f.n = 36 ∧ f.get 5 = .int .u32 ((adlN l).1 : Nat) ∧ f.get 6 = .int .u32 ((adlN l).2 : Nat))
    ⟨0, rfl, by omega, rfl, by simp only [get_put, n_put, ↓reduceIte, Nat.reduceEqDiff, hn], by simp only [get_put, n_put, ↓reduceIte, Nat.reduceEqDiff, h1], by simp only [get_put, n_put, ↓reduceIte, Nat.reduceEqDiff]; rfl, by simp only [get_put, n_put, ↓reduceIte, Nat.reduceEqDiff]; rfl, by simp only [get_put, n_put, ↓reduceIte, Nat.reduceEqDiff]; rfl⟩ ?_ ?_
  · clear hn h0 h1 f
    rintro Q hQ z f t ⟨i, rfl, hi, rfl, hn, h1, h5, h6, h7⟩
    by_cases hlt : i < l.length
    rotate_left
    · obtain rfl : i = l.length := by omega
      have d1 : ¬ ((l.length : Nat) : Int) < ((l.length : Nat) : Int) := by omega
      rw [List.take_length] at h5 h6
      simp (config := { maxSteps := 1000000, implicitDefEqProofs := false }) (disch := omega) only [allW, allR, oneOf, evalAll, partsA, optA, Nat.reduceLT, Nat.reduceLeDiff, Nat.reduceEqDiff, Nat.reduceAdd, ↓reduceIte, hn, h1, h5, h6, h7, hx.lenA Try.underlying22, eq_false d1]
      exact hQ _ _ _ ⟨rfl, rfl, by simp only [get_put, n_put, ↓reduceIte, Nat.reduceEqDiff, hn], by simp only [get_put, n_put, ↓reduceIte, Nat.reduceEqDiff, h5], by simp only [get_put, n_put, ↓reduceIte, Nat.reduceEqDiff, h6]⟩
    have d1 : (i : Int) < (l.length : Int) := by omega
    have hi1 := hx.indexAddr (P := Try.prog) (k := .i64) (x := (i : Int)) Try.underlying22 szU8 (by omega) (by omega)
    rw [Int.toNat_natCast] at hi1
    have k1 := hx.load1 (P := Try.prog) agU8 hlt
    rw [ofBytes_getD hlt] at k1
    have hc := (l.getD i 0).toNat_lt
    have hq := adlN_lt (l.take i)
    have ht := adlN_take hlt
    generalize adlN (l.take i) = q at h5 h6 hq ht
    obtain ⟨q1, q2⟩ := q
    simp only at h5 h6 hq
    have e1 : (q1 : Int) + ((l.getD i 0).toNat : Int) = ((q1 + (l.getD i 0).toNat : Nat) : Int) := by omega
    have e2 : (q2 : Int) + ((((q1 + (l.getD i 0).toNat) % 65521 : Nat)) : Int) = ((q2 + (q1 + (l.getD i 0).toNat) % 65521 : Nat) : Int) := by omega
    simp (config := { maxSteps := 1000000, implicitDefEqProofs := false }) (disch := omega) only [allW, allR, oneOf, evalAll, partsA, optA, Nat.reduceLT, Nat.reduceLeDiff, Nat.reduceEqDiff, Nat.reduceAdd, ↓reduceIte, hn, h1, h5, h6, h7, hx.lenA Try.underlying22, eq_true d1, hi1, k1, conv_int Try.underlying5 Try.underlying72, wrapu32x, e1, bin_rem, mod521, e2, wrapI]
    exact wround_next (l.length - (i + 1)) (by omega) ⟨i + 1, rfl, by omega, rfl, by simp only [get_put, n_put, ↓reduceIte, Nat.reduceEqDiff, hn], by simp only [get_put, n_put, ↓reduceIte, Nat.reduceEqDiff, h1], by simp only [get_put, n_put, ↓reduceIte, Nat.reduceEqDiff]; rw [ht]; rfl, by simp only [get_put, n_put, ↓reduceIte, Nat.reduceEqDiff]; rw [ht]; rfl, by simp only [get_put, n_put, ↓reduceIte, Nat.reduceEqDiff]; rfl⟩
  clear hn h0 h1 f
  rintro z f t ⟨rfl, rfl, hn, h5, h6⟩
  have hq := adlN_lt l
  have e1 : (((adlN l).2 : Nat) : Int) * 65536 = (((adlN l).2 * 65536 : Nat) : Int) := by omega
  have e2 : (((adlN l).2 * 65536 : Nat) : Int) + (((adlN l).1 : Nat) : Int) = ((adl l : Nat) : Int) := by unfold adl; omega
  have e3 := adl_lt l
  simp (config := { maxSteps := 1000000, implicitDefEqProofs := false }) (disch := omega) only [allW, allR, wfn_ret, wfn_normal, oneOf, evalAll, partsA, optA, Nat.reduceLT, Nat.reduceLeDiff, Nat.reduceEqDiff, Nat.reduceAdd, ↓reduceIte, hn, h5, h6, e1, wrapu32x, e2, Try.results64]
  try exact ⟨rfl, rfl⟩
theorem radler_any {lib : Prims} (hl0 : lib.at 43 = none) (hl : lib.at 64 = none) (s : ASt) (x : Value) (l : List UInt8) (hx : Sees s 1 x l.length (ofBytes l)) (hlen : l.length ≤ 1000000000) :
    Runs Try.prog lib 43 [x] s fun v s' => v = .int .u32 (adl l : Nat) ∧ s' = s := by
  refine Runs.enter 5 Try.func43 rfl hl0 rfl rfl ?_
  intro f hn hf
  have h0 : f.get 0 = x := hf 0
  clear hf
  simp (config := { maxSteps := 1000000, implicitDefEqProofs := false }) (disch := omega) only [allW, allR, oneOf, evalAll, partsA, optA, Nat.reduceLT, Nat.reduceLeDiff, Nat.reduceEqDiff, Nat.reduceAdd, ↓reduceIte, hn, h0]
  refine (rmore_any hl s x l hx hlen).mono ?_
  rintro _ s2 ⟨rfl, rfl⟩
  simp (config := { maxSteps := 1000000, implicitDefEqProofs := false }) (disch := omega) only [allW, allR, wfn_ret, wfn_normal, oneOf, evalAll, partsA, optA, Nat.reduceLT, Nat.reduceLeDiff, Nat.reduceEqDiff, Nat.reduceAdd, ↓reduceIte, hn, Try.results43]
  try exact ⟨rfl, rfl⟩
theorem adler_any {lib : Prims} (hl0 : lib.at 41 = none) (hl : lib.at 63 = none) (s : ASt) (y x : Value) (l : List UInt8) (hy : Sees s 1 y 1 [x]) (hx : Sees s 1 x l.length (ofBytes l)) (hlen : l.length ≤ 1000000000) :
    Runs Try.prog lib 41 [y] s fun v s' => v = .int .u32 (adl l : Nat) ∧ s' = s := by
  refine Runs.enter 17 Try.func41 rfl hl0 rfl rfl ?_
  intro f hn hf
  have h0 : f.get 0 = y := hf 0
  clear hf
  simp (config := { maxSteps := 1000000, implicitDefEqProofs := false }) (disch := omega) only [allW, allR, oneOf, evalAll, partsA, optA, Nat.reduceLT, Nat.reduceLeDiff, Nat.reduceEqDiff, Nat.reduceAdd, ↓reduceIte, hn, h0, hy.lenA Try.underlying44]
  refine Comes.loopOut (fun z f t => ∃ i : Nat, z = 1 - i ∧ i ≤ 1 ∧ t = s ∧ f.n = 17 ∧ f.get 3 = .int .u32 ((if i = 0 then 1 else adl l : Nat) : Int) ∧ f.get 6 = y ∧ f.get 7 = .int .i64 ((1 : Nat) : Int) ∧ f.get 8 = .int .i64 (i : Nat))
    (fun z f t => z = .exit 0 ∧ t = s ∧ f.n = 17 ∧ f.get 3 = .int .u32 (adl l : Nat))
    ⟨0, rfl, by omega, rfl, by simp only [get_put, n_put, ↓reduceIte, Nat.reduceEqDiff, hn], by simp only [get_put, n_put, ↓reduceIte, Nat.reduceEqDiff]; try rfl, by simp only [get_put, n_put, ↓reduceIte, Nat.reduceEqDiff], by simp only [get_put, n_put, ↓reduceIte, Nat.reduceEqDiff], by simp only [get_put, n_put, ↓reduceIte, Nat.reduceEqDiff]; try rfl⟩ ?_ ?_
  · clear hn h0 f
    rintro Q hQ z f t ⟨i, rfl, hi, rfl, hn, h3, h6, h7, h8⟩
    by_cases hlt : i < 1
    rotate_left
    · obtain rfl : i = 1 := by omega
      have d1 : ¬ ((1 : Nat) : Int) < ((1 : Nat) : Int) := by omega
      simp (config := { maxSteps := 1000000, implicitDefEqProofs := false }) (disch := omega) only [allW, allR, oneOf, evalAll, partsA, optA, Nat.reduceLT, Nat.reduceLeDiff, Nat.reduceEqDiff, Nat.reduceAdd, ↓reduceIte, hn, h3, h6, h7, h8, eq_false d1]
      exact hQ _ _ _ ⟨rfl, rfl, by simp only [get_put, n_put, ↓reduceIte, Nat.reduceEqDiff, hn], by simp only [get_put, n_put, ↓reduceIte, Nat.reduceEqDiff, h3]; try rfl⟩
    obtain rfl : i = 0 := by omega
    have h3 : f.get 3 = .int .u32 1 := h3
    have d1 : ((0 : Nat) : Int) < ((1 : Nat) : Int) := by omega
    have hi1 := hy.indexAddr (P := Try.prog) (k := .i64) (x := ((0 : Nat) : Int)) Try.underlying44 szSl (by omega) (by omega)
    rw [Int.toNat_natCast] at hi1
    have k1 := hy.load1 (P := Try.prog) agSl (k := 0) (by omega)
    have k1 : loadA Try.prog t 22 (elemPtr 1 y 0) = some x := k1
    simp (config := { maxSteps := 1000000, implicitDefEqProofs := false }) (disch := omega) only [allW, allR, oneOf, evalAll, partsA, optA, Nat.reduceLT, Nat.reduceLeDiff, Nat.reduceEqDiff, Nat.reduceAdd, ↓reduceIte, hn, h3, h6, h7, h8, eq_true d1, hi1, k1]
    refine (more_any hl t x l hx hlen).mono ?_
    rintro _ t2 ⟨rfl, rfl⟩
    simp (config := { maxSteps := 1000000, implicitDefEqProofs := false }) (disch := omega) only [allW, allR, oneOf, evalAll, partsA, optA, Nat.reduceLT, Nat.reduceLeDiff, Nat.reduceEqDiff, Nat.reduceAdd, ↓reduceIte, hn, h6, h7, h8, wrapI]
    exact wround_next 0 (by omega) ⟨1, rfl, by omega, rfl, by simp only [get_put, n_put, ↓reduceIte, Nat.reduceEqDiff, hn], by simp only [get_put, n_put, ↓reduceIte, Nat.reduceEqDiff]; try rfl, by simp only [get_put, n_put, ↓reduceIte, Nat.reduceEqDiff, h6], by simp only [get_put, n_put, ↓reduceIte, Nat.reduceEqDiff, h7], by simp only [get_put, n_put, ↓reduceIte, Nat.reduceEqDiff]; try rfl⟩
  clear hn h0 f
  rintro z f t ⟨rfl, rfl, hn, h3⟩
  simp (config := { maxSteps := 1000000, implicitDefEqProofs := false }) (disch := omega) only [allW, allR, wfn_ret, wfn_normal, oneOf, evalAll, partsA, optA, Nat.reduceLT, Nat.reduceLeDiff, Nat.reduceEqDiff, Nat.reduceAdd, ↓reduceIte, hn, h3, Try.results41]
  try exact ⟨rfl, rfl⟩
end Go.Proofs.Ytnclklboogdoiaa
set_option linter.unusedSimpArgs false
set_option linter.unusedVariables false
set_option maxRecDepth 100000
namespace Go.Proofs.Ytnclklboogdoiaa
open Go.Cl Go.Cl.Sto
end Go.Proofs.Ytnclklboogdoiaa
set_option linter.unusedSimpArgs false
set_option linter.unusedVariables false
set_option maxRecDepth 100000
namespace Go.Cl
structure Pieces (s : ASt) (vs : List Value) (L : List (List UInt8)) : Prop where
  len : vs.length = L.length
  sees : ∀ k (h : k < L.length), Sees s 1 (vs.getD k undef) (L[k]).length (ofBytes L[k])
theorem Pieces.nil (s : ASt) : Pieces s [] [] := ⟨rfl, fun k h => absurd h (Nat.not_lt_zero k)⟩
theorem Pieces.cons {s : ASt} {v : Value} {a : List UInt8} {vs : List Value} {L : List (List UInt8)} (h : Sees s 1 v a.length (ofBytes a)) (k : Pieces s vs L) : Pieces s (v :: vs) (a :: L) := by
  refine ⟨by simp [k.len], fun j hj => ?_⟩
  cases j with
  | zero => exact h
  | succ j => exact k.sees j (by simpa using hj)
theorem Pieces.keeps {s s' : ASt} {vs : List Value} {L : List (List UInt8)} (h : Pieces s vs L) (k : Stay s.next s s') : Pieces s' vs L := ⟨h.len, fun j hj => (h.sees j hj).keeps k⟩
end Go.Cl
namespace Go.Proofs.Ytnclklboogdoiaa
open Go.Cl
end Go.Proofs.Ytnclklboogdoiaa
set_option linter.unusedSimpArgs false
set_option linter.unusedVariables false
set_option maxRecDepth 100000
namespace Go.Cl.Fx
open Go.Cl.Rw Go.Cl.Sto
def zbody (l : List UInt8) : List UInt8 := if (sto l).length ≤ (fixed l).length then sto l else fixed l
def zlb (l : List UInt8) : List UInt8 := [120, 1] ++ (zbody l ++ be 4 (adl l))
theorem zbody_le (l : List UInt8) : (zbody l).length ≤ (sto l).length := by
  unfold zbody
  split
  · exact Nat.le_refl _
  · omega
theorem Own.sliceF {s : ASt} {z : Nat} {v : Value} {n : Nat} {l : List Value} (h : Own s z v n l) : ∃ a n c, v = .slice a n c := by cases h <;> exact ⟨_, _, _, rfl⟩
theorem Sees.sliceF {s : ASt} {z : Nat} {v : Value} {n : Nat} {l : List Value} (h : Sees s z v n l) : ∃ a n c, v = .slice a n c := by cases h <;> exact ⟨_, _, _, rfl⟩
end Go.Cl.Fx
namespace Go.Proofs.Ytnclklboogdoiaa
open Go.Cl Go.Cl.Rw Go.Cl.Sto Go.Cl.Fx
theorem zSl2 : zeroB Try.prog 22 = some (.slice none 0 0) := by kernel_rfl
theorem buildS1 (s : ASt) (a : Option Addr) (n1 c1 : Nat) : buildSliceA Try.prog s 44 1 [(0, .slice a n1 c1)] = newSlice s [.slice a n1 c1] 1 1 := by
  unfold buildSliceA; rw [Try.underlying44]; simp only [szSl, zSl2]; rfl
set_option maxHeartbeats 4000000 in
theorem rstored_any {lib : Prims} (hl : lib.at 26 = none) (s : ASt) (x : Value) (r : List UInt8) (hx : Sees s 1 x r.length (ofBytes r)) (hlen : r.length ≤ 65535) :
    Runs Try.prog lib 26 [x] s fun v s' => NewBytes s v s' (sto r) := by
  refine Runs.enter 40 Try.func26 rfl hl rfl rfl ?_
  intro f hn hf
  have h0 : f.get 0 = x := hf 0
  clear hf
  simp (config := { maxSteps := 1000000, implicitDefEqProofs := false }) (disch := omega) only [allW, allR, oneOf, evalAll, partsA, optA, Nat.reduceLT, Nat.reduceLeDiff, Nat.reduceEqDiff, Nat.reduceAdd, ↓reduceIte, hn, h0]
  refine Comes.loopAt (fun q f s' => q = 0 ∧ s' = s ∧ f.n = 40 ∧ f.get 0 = x ∧ f.get 3 = .slice none 0 0)
    ⟨rfl, rfl, by simp only [get_put, n_put, ↓reduceIte, Nat.reduceEqDiff, hn], by simp only [get_put, n_put, ↓reduceIte, Nat.reduceEqDiff, h0], by simp only [get_put, n_put, ↓reduceIte, Nat.reduceEqDiff]⟩ ?_
  clear hn h0 f
  rintro q f s1 ⟨rfl, rfl, hn, h0, h3⟩
  have e1 : ¬ (65535 : Int) < r.length := by omega
  have hn64 : r.length < 4611686018427387904 := by omega
  simp (config := { maxSteps := 1000000, implicitDefEqProofs := false }) (disch := omega) only [allW, allR, oneOf, evalAll, partsA, optA, Nat.reduceLT, Nat.reduceLeDiff, Nat.reduceEqDiff, Nat.reduceAdd, ↓reduceIte, hn, h0, h3, hx.lenA Try.underlying22, hx.self, e1, decide_true]
  have eb : (1 : Int) = ((UInt8.ofNat 1).toNat : Int) := rfl
  simp (config := { maxSteps := 1000000, implicitDefEqProofs := false }) (disch := omega) only [allW, allR, oneOf, evalAll, partsA, optA, Nat.reduceLT, Nat.reduceLeDiff, Nat.reduceEqDiff, Nat.reduceAdd, ↓reduceIte, hn, h0, h3, conv_int Try.underlying3 Try.underlying5, b0, shr8, fdiv256, b1, notI, b2, b3, build5 Try.underlying22 szU8 zU8]
  refine wstep_append_lit Try.underlying22 szU8 byU8 zU8 rfl (Own.nil : Own s1 1 (.slice none 0 0) 0 []) (by simp only [get_put, n_put, ↓reduceIte, Nat.reduceEqDiff, h3]) (by decide) (by simp only [get_put, n_put, ↓reduceIte, Nat.reduceEqDiff, hn]; decide) (by simp only [get_put, n_put, ↓reduceIte, Nat.reduceEqDiff, hn]; decide) (by rfl) (by decide) rfl (by omega) (by omega) (Fresh.nil _) (Nat.le_refl _) ?_
  intro bs o2 s3 ho2 hoF2 hst3 _ _
  have hw3 := hx.keeps hst3
  have hcut := hw3.cutB (lo := 0) (hi := r.length) (by omega) (by omega)
  rw [List.drop_zero, Nat.sub_zero, List.take_length] at hcut
  simp (config := { maxSteps := 1000000, implicitDefEqProofs := false }) (disch := omega) only [allW, allR, oneOf, evalAll, partsA, optA, Nat.reduceLT, Nat.reduceLeDiff, Nat.reduceEqDiff, Nat.reduceAdd, ↓reduceIte, hn, h0, h3, hw3.sliceHigh Try.underlying22 szU8, ho2.self]
  refine wstep_append Try.underlying22 Try.underlying22 (.inl ⟨_, rfl⟩) szU8 byU8 zU8 rfl ho2 hcut.src (by rw [ofBytes_length, Nat.mul_one]) (by decide) (ofBytes_ok _) (by omega) (by omega) hoF2 hst3.next ?_
  intro o4 s4 ho4 hoF4 hst4 _ _
  have hh : [Value.int .u8 1, Value.int .u8 (((UInt8.ofNat r.length).toNat : Nat) : Int), Value.int .u8 (((UInt8.ofNat (r.length / 256)).toNat : Nat) : Int), Value.int .u8 (((UInt8.ofNat (255 - r.length % 256)).toNat : Nat) : Int), Value.int .u8 (((UInt8.ofNat (255 - r.length / 256 % 256)).toNat : Nat) : Int)] = ofBytes (hdr r.length 1) := rfl
  rw [hh] at ho4
  have hw4 := hx.keeps (hst3.trans hst4)
  simp (config := { maxSteps := 1000000, implicitDefEqProofs := false }) (disch := omega) only [allW, allR, wfn_ret, wfn_normal, oneOf, evalAll, partsA, optA, Nat.reduceLT, Nat.reduceLeDiff, Nat.reduceEqDiff, Nat.reduceAdd, ↓reduceIte, hn, h0, h3, hw4.sliceLow Try.underlying22 szU8, decide_true, Try.results26]
  refine ⟨?_, hoF4, hst3.trans hst4⟩
  rw [sto_last hlen, List.length_append, hdr_length, ofBytes_append]
  have e5 : 0 + 5 + r.length = 5 + r.length := by omega
  rw [e5, List.nil_append] at ho4
  exact ho4
set_option maxHeartbeats 4000000 in
theorem rzlib_any {lib : Prims} (hl : lib.at 25 = none) (hfx : lib.at 27 = none) (hta : lib.at 34 = none) (hco : lib.at 46 = none) (hal : lib.at 47 = none) (htu : lib.at 48 = none) (hlc : lib.at 49 = none) (hdc : lib.at 50 = none) (hlp : lib.at 45 = none) (hly : lib.at 51 = none) (hlcp : lib.at 22 = none)
    (hst : lib.at 26 = none) (had : lib.at 43 = none) (hmo : lib.at 64 = none) (hbg : lib.at 44 = none)
    (s : ASt) (x : Value) (l : List UInt8) (hx : Sees s 1 x l.length (ofBytes l)) (hlen : l.length ≤ 65535) :
    Runs Try.prog lib 25 [x] s fun v s' => NewBytes s v s' (zlb l) := by
  refine Runs.enter 25 Try.func25 rfl hl rfl rfl ?_
  intro f hn hf
  have h0 : f.get 0 = x := hf 0
  clear hf
  simp (config := { maxSteps := 1000000, implicitDefEqProofs := false }) (disch := omega) only [allW, allR, oneOf, evalAll, partsA, optA, Nat.reduceLT, Nat.reduceLeDiff, Nat.reduceEqDiff, Nat.reduceAdd, ↓reduceIte, hn, h0]
  refine (rfixed_any hfx hta hco hal htu hlc hdc hlp hly hlcp s x l hx (by omega)).mono ?_
  rintro a s1 ⟨hA, hAF, k1⟩
  simp (config := { maxSteps := 1000000, implicitDefEqProofs := false }) (disch := omega) only [allW, allR, oneOf, evalAll, partsA, optA, Nat.reduceLT, Nat.reduceLeDiff, Nat.reduceEqDiff, Nat.reduceAdd, ↓reduceIte, hn, h0]
  refine (rstored_any hst s1 x l (hx.keeps k1) hlen).mono ?_
  rintro b s2 ⟨hB, hBF, k2⟩
  have n1 := k1.next
  have n2 := k2.next
  have hA2 := hA.keeps k2
  have hs2 : Stay s.next s s2 := k1.trans (k2.weaken n1)
  have hfl := fixed_length l
  have hsl := sto_length _ l (Nat.le_refl _)
  have hbk : blocks l.length ≤ 2 := by unfold blocks; omega
  have hzl := zbody_le l
  simp (config := { maxSteps := 1000000, implicitDefEqProofs := false }) (disch := omega) only [allW, allR, oneOf, evalAll, partsA, optA, Nat.reduceLT, Nat.reduceLeDiff, Nat.reduceEqDiff, Nat.reduceAdd, ↓reduceIte, hn, h0, hA2.sees.lenA Try.underlying22, hB.sees.lenA Try.underlying22]
  refine wif_cutF (fun f' s' => s2 = s' ∧ ∃ w : Value, Sees s2 1 w (zbody l).length (ofBytes (zbody l)) ∧ f'.n = 25 ∧ f'.get 0 = x ∧ f'.get 3 = w) ?_ ?_
  · intro Q' hQ'
    by_cases c : (sto l).length ≤ (fixed l).length
    · simp (config := { maxSteps := 1000000, implicitDefEqProofs := false }) (disch := omega) only [allW, allR, oneOf, evalAll, partsA, optA, Nat.reduceLT, Nat.reduceLeDiff, Nat.reduceEqDiff, Nat.reduceAdd, ↓reduceIte, hn, h0, eq_true c]
      exact hQ' _ _ ⟨rfl, b, by unfold zbody; rw [if_pos c]; exact hB.sees, by simp only [get_put, n_put, ↓reduceIte, Nat.reduceEqDiff, hn], by simp only [get_put, n_put, ↓reduceIte, Nat.reduceEqDiff, h0], by simp only [get_put, n_put, ↓reduceIte, Nat.reduceEqDiff]⟩
    · simp (config := { maxSteps := 1000000, implicitDefEqProofs := false }) (disch := omega) only [allW, allR, oneOf, evalAll, partsA, optA, Nat.reduceLT, Nat.reduceLeDiff, Nat.reduceEqDiff, Nat.reduceAdd, ↓reduceIte, hn, h0, eq_false c]
      exact hQ' _ _ ⟨rfl, a, by unfold zbody; rw [if_neg c]; exact hA2.sees, by simp only [get_put, n_put, ↓reduceIte, Nat.reduceEqDiff, hn], by simp only [get_put, n_put, ↓reduceIte, Nat.reduceEqDiff, h0], by simp only [get_put, n_put, ↓reduceIte, Nat.reduceEqDiff]⟩
  clear hn h0 f
  rintro f _ ⟨rfl, w, hw, hn, h0, h3⟩
  simp (config := { maxSteps := 1000000, implicitDefEqProofs := false }) (disch := omega) only [allW, allR, oneOf, evalAll, partsA, optA, Nat.reduceLT, Nat.reduceLeDiff, Nat.reduceEqDiff, Nat.reduceAdd, ↓reduceIte, hn, h0, h3, build2 Try.underlying22 szU8 zU8]
  refine wstep_newSlice rfl ?_
  intro y s3 hy hyF k3
  have n3 := k3.next
  have hw3 := hw.keeps k3
  simp (config := { maxSteps := 1000000, implicitDefEqProofs := false }) (disch := omega) only [allW, allR, oneOf, evalAll, partsA, optA, Nat.reduceLT, Nat.reduceLeDiff, Nat.reduceEqDiff, Nat.reduceAdd, ↓reduceIte, hn, h0, h3]
  refine wstep_append Try.underlying22 Try.underlying22 (.inl ⟨_, rfl⟩) szU8 byU8 zU8 rfl hy hw3.src (by rw [ofBytes_length, Nat.mul_one]) (by decide) (ofBytes_ok _) (by omega) (by omega) hyF n3 ?_
  intro y2 s4 hy2 hy2F k4 _ _
  have n4 := k4.next
  have hs4 : Stay s.next s s4 := hs2.trans (((k3.trans k4)).weaken (by omega))
  simp (config := { maxSteps := 1000000, implicitDefEqProofs := false }) (disch := omega) only [allW, allR, oneOf, evalAll, partsA, optA, Nat.reduceLT, Nat.reduceLeDiff, Nat.reduceEqDiff, Nat.reduceAdd, ↓reduceIte, hn, h0, h3]
  refine (radler_any had hmo s4 x l (hx.keeps hs4) (by omega)).mono ?_
  rintro _ s5 ⟨rfl, rfl⟩
  have hal2 := adl_lt l
  simp (config := { maxSteps := 1000000, implicitDefEqProofs := false }) (disch := omega) only [allW, allR, oneOf, evalAll, partsA, optA, Nat.reduceLT, Nat.reduceLeDiff, Nat.reduceEqDiff, Nat.reduceAdd, ↓reduceIte, hn, h0, h3, conv_int Try.underlying72 Try.underlying3, wrapI]
  refine (rbig_any hbg s5 (adl l) 4 (by decide) (by omega)).mono ?_
  rintro z s6 ⟨hz, hzF, k6⟩
  have n6 := k6.next
  have hbl := be_length 4 (adl l)
  have hy6 := hy2.keeps k6
  simp (config := { maxSteps := 1000000, implicitDefEqProofs := false }) (disch := omega) only [allW, allR, oneOf, evalAll, partsA, optA, Nat.reduceLT, Nat.reduceLeDiff, Nat.reduceEqDiff, Nat.reduceAdd, ↓reduceIte, hn, h0, h3]
  refine wstep_append Try.underlying22 Try.underlying22 (.inl ⟨_, rfl⟩) szU8 byU8 zU8 rfl hy6 hz.sees.src (by rw [ofBytes_length, hbl]) (by decide) (ofBytes_ok _) (by omega) (by omega) hy2F (by omega) ?_
  intro y3 s7 hy3 hy3F k7 _ _
  simp (config := { maxSteps := 1000000, implicitDefEqProofs := false }) (disch := omega) only [allW, allR, wfn_ret, wfn_normal, oneOf, evalAll, partsA, optA, Nat.reduceLT, Nat.reduceLeDiff, Nat.reduceEqDiff, Nat.reduceAdd, ↓reduceIte, hn, Try.results25]
  refine ⟨?_, fun i hi => by have := hy3F i hi; have := hs2.next; omega, ((hs4.trans (k6.weaken hs4.next)).trans (k7.weaken (by have := hs2.next; omega)))⟩
  unfold zlb
  have e2 : [Value.int .u8 120, Value.int .u8 1] = ofBytes [120, 1] := rfl
  rw [e2, hbl, List.append_assoc] at hy3
  rw [ofBytes_append, ofBytes_append]
  have e3 : ([120, 1] ++ (zbody l ++ be 4 (adl l)) : List UInt8).length = 2 + (zbody l).length + 4 := by
    simp [be_length]; omega
  rw [e3]
  exact hy3
end Go.Proofs.Ytnclklboogdoiaa
