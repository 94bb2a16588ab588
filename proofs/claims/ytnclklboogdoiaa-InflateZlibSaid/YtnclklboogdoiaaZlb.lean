/-
  The reference's Big: a number as bytes, the highest first.
-/
import Derived.Test.YtnclklboogdoiaaSame
import Derived.Test.YtnclklboogdoiaaBigP
import Derived.Test.YtnclklboogdoiaaRow
import Derived.Test.YtnclklboogdoiaaCopy
import Derived.Test.YtnclklboogdoiaaStoP
import Derived.Test.YtnclklboogdoiaaCopyW
import Derived.Test.YtnclklboogdoiaaLib
import Derived.Test.YtnclklboogdoiaaFixU
set_option linter.unusedSimpArgs false
set_option linter.unusedVariables false
set_option maxRecDepth 100000
namespace Go.Proofs.Ytnclklboogdoiaa
open Go.Cl
end Go.Proofs.Ytnclklboogdoiaa
set_option linter.unusedSimpArgs false
set_option linter.unusedVariables false
set_option maxRecDepth 100000
namespace Go.Cl
def adl1 (q : Nat × Nat) (c : UInt8) : Nat × Nat := ((q.1 + c.toNat) % 65521, (q.2 + (q.1 + c.toNat) % 65521) % 65521)
def adlN (l : List UInt8) : Nat × Nat := l.foldl adl1 (1, 0)
def adl (l : List UInt8) : Nat := (adlN l).2 * 65536 + (adlN l).1
theorem adlN_lt (l : List UInt8) : (adlN l).1 < 65521 ∧ (adlN l).2 < 65521 := by
  have key : ∀ (l : List UInt8) (q : Nat × Nat), q.1 < 65521 ∧ q.2 < 65521 → (l.foldl adl1 q).1 < 65521 ∧ (l.foldl adl1 q).2 < 65521 := by
    intro l
    induction l with
    | nil => intro q h; exact h
    | cons c l ih => intro q h; exact ih _ ⟨Nat.mod_lt _ (by omega), Nat.mod_lt _ (by omega)⟩
  exact key l _ (by decide)
theorem adl_lt (l : List UInt8) : adl l < 4294967296 := by
  have := adlN_lt l
  unfold adl; omega
theorem adlN_take {l : List UInt8} {i : Nat} (h : i < l.length) : adlN (l.take (i + 1)) = adl1 (adlN (l.take i)) (l.getD i 0) := by
  unfold adlN
  rw [List.take_add_one, List.getElem?_eq_getElem h, List.foldl_append, List.getD_eq_getElem?_getD, List.getElem?_eq_getElem h]; rfl
theorem wrapu32x {x : Int} (h0 : 0 ≤ x) (h : x < 4294967296) : IntKind.u32.wrap x = x := by
  have e1 : IntKind.u32.bits = 32 := rfl
  have e2 : IntKind.u32.signed = false := rfl
  simp only [IntKind.wrap, e1, e2, Bool.false_and]
  simp
  omega
theorem orU {y x : Nat} (hy : y < 65536) (hx : x < 65536) : IntKind.u32.wrap (((BitVec.ofInt IntKind.u32.bits ((y * 65536 : Nat) : Int) ||| BitVec.ofInt IntKind.u32.bits (x : Int)).toNat : Nat) : Int) = ((y * 65536 + x : Nat) : Int) := by
  have e1 : IntKind.u32.bits = 32 := rfl
  rw [e1]
  have : (BitVec.ofInt 32 ((y * 65536 : Nat) : Int) ||| BitVec.ofInt 32 (x : Int)).toNat = y * 65536 + x := by
    rw [BitVec.toNat_or, BitVec.ofInt_natCast, BitVec.ofInt_natCast, BitVec.toNat_ofNat, BitVec.toNat_ofNat, Nat.mod_eq_of_lt (by omega), Nat.mod_eq_of_lt (by omega)]
    have := Nat.shiftLeft_add_eq_or_of_lt (i := 16) (b := x) (by omega) y
    rw [Nat.shiftLeft_eq] at this
    exact this.symm
  rw [this, wrapu32x (by omega) (by omega)]
theorem shlU (P : Program) (t : TypeId) (k' : IntKind) {y : Nat} (hy : y < 65536) : binA P .shl t (.int .u32 (y : Int)) (.int k' 16) = some (.int .u32 ((y * 65536 : Nat) : Int)) := by
  rw [bin_shl P t .u32 _ _ k' (by omega)]
  have e : min (16 : Int).toNat IntKind.u32.bits = 16 := by decide
  rw [e]
  have e2 : (y : Int) * (2 : Int) ^ 16 = ((y * 65536 : Nat) : Int) := by omega
  rw [e2, wrapu32x (by omega) (by omega)]
end Go.Cl
namespace Go.Proofs.Ytnclklboogdoiaa
open Go.Cl
theorem mod521 (n : Nat) : ((n : Int)).tmod 65521 = ((n % 65521 : Nat) : Int) := by rw [Int.tmod_eq_emod_of_nonneg (by omega)]; omega
theorem and1U : IntKind.u32.wrap (((BitVec.ofInt IntKind.u32.bits 1 &&& BitVec.ofInt IntKind.u32.bits 65535).toNat : Nat) : Int) = 1 := by decide
set_option maxHeartbeats 4000000 in
theorem more_any {lib : Prims} (hl : lib.at 63 = none) (s : ASt) (x : Value) (l : List UInt8) (hx : Sees s 1 x l.length (ofBytes l)) (hlen : l.length ≤ 1000000000) :
    Runs Try.prog lib 63 [.int .u32 1, x] s fun v s' => v = .int .u32 (adl l : Nat) ∧ s' = s := by
  refine Runs.enter 35 Try.func63 rfl hl rfl rfl ?_
  intro f hn hf
  have h0 : f.get 0 = .int .u32 1 := hf 0
  have h1 : f.get 1 = x := hf 1
  clear hf
  have m1 : (1 : Int).tmod 65521 = 1 := by decide
  have m0 : (0 : Int).tmod 65521 = 0 := by decide
  have s0 : binA Try.prog .shr 72 (.int .u32 1) (.int .u64 16) = some (.int .u32 0) := by
    rw [bin_shr _ _ .u32 _ _ .u64 (by omega)]; rfl
  simp (config := { maxSteps := 1000000, implicitDefEqProofs := false }) (disch := omega) only [allW, allR, oneOf, evalAll, partsA, optA, Nat.reduceLT, Nat.reduceLeDiff, Nat.reduceEqDiff, Nat.reduceAdd, ↓reduceIte, hn, h0, h1, bin_and, and1U, bin_rem, m1, m0, s0, hx.lenA Try.underlying22]
  refine Comes.loopOut (fun z f t => ∃ i : Nat, z = l.length - i ∧ i ≤ l.length ∧ t = s ∧ f.n = 35 ∧ f.get 5 = .int .u32 ((adlN (l.take i)).1 : Nat) ∧ f.get 6 = .int .u32 ((adlN (l.take i)).2 : Nat) ∧ f.get 15 = x ∧ f.get 16 = .int .i64 (l.length : Nat) ∧ f.get 17 = .int .i64 (i : Nat))
    (fun z f t => z = .exit 0 ∧ t = s ∧ f.n = 35 ∧ f.get 5 = .int .u32 ((adlN l).1 : Nat) ∧ f.get 6 = .int .u32 ((adlN l).2 : Nat))
    ⟨0, rfl, by omega, rfl, by simp only [get_put, n_put, ↓reduceIte, Nat.reduceEqDiff, hn], by simp only [get_put, n_put, ↓reduceIte, Nat.reduceEqDiff]; rfl, by simp only [get_put, n_put, ↓reduceIte, Nat.reduceEqDiff]; rfl, by simp only [get_put, n_put, ↓reduceIte, Nat.reduceEqDiff], by simp only [get_put, n_put, ↓reduceIte, Nat.reduceEqDiff], by simp only [get_put, n_put, ↓reduceIte, Nat.reduceEqDiff]; rfl⟩ ?_ ?_
  · clear hn h0 h1 f
    rintro Q hQ z f t ⟨i, rfl, hi, rfl, hn, h5, h6, h15, h16, h17⟩
    by_cases hlt : i < l.length
    rotate_left
    · obtain rfl : i = l.length := by omega
      have d1 : ¬ ((l.length : Nat) : Int) < ((l.length : Nat) : Int) := by omega
      rw [List.take_length] at h5 h6
      simp (config := { maxSteps := 1000000, implicitDefEqProofs := false }) (disch := omega) only [allW, allR, oneOf, evalAll, partsA, optA, Nat.reduceLT, Nat.reduceLeDiff, Nat.reduceEqDiff, Nat.reduceAdd, ↓reduceIte, hn, h5, h6, h15, h16, h17, eq_false d1]
      exact hQ _ _ _ ⟨rfl, rfl, by simp only [get_put, n_put, ↓reduceIte, Nat.reduceEqDiff, hn], by simp only [get_put, n_put, ↓reduceIte, Nat.reduceEqDiff, h5], by simp only [get_put, n_put, ↓reduceIte, Nat.reduceEqDiff, h6]⟩
    have d1 : (i : Int) < (l.length : Int) := by omega
    have hi1 := hx.indexAddr (P := Try.prog) (k := .i64) (x := (i : Int)) Try.underlying22 szU8 (by omega) (by omega)
    rw [Int.toNat_natCast] at hi1
    have k1 := hx.load1 (P := Try.prog) agU8 hlt
    rw [ofBytes_getD hlt] at k1
    have hc := (l.getD i 0).toNat_lt
    have hq := adlN_lt (l.take i)
    have ht := adlN_take hlt
    generalize adlN (l.take i) = q at h5 h6 hq ht
    obtain ⟨q1, q2⟩ := q
    simp only at h5 h6 hq
    have e1 : (q1 : Int) + ((l.getD i 0).toNat : Int) = ((q1 + (l.getD i 0).toNat : Nat) : Int) := by omega
    have e2 : (q2 : Int) + ((((q1 + (l.getD i 0).toNat) % 65521 : Nat)) : Int) = ((q2 + (q1 + (l.getD i 0).toNat) % 65521 : Nat) : Int) := by omega
    simp (config := { maxSteps := 1000000, implicitDefEqProofs := false }) (disch := omega) only [allW, allR, oneOf, evalAll, partsA, optA, Nat.reduceLT, Nat.reduceLeDiff, Nat.reduceEqDiff, Nat.reduceAdd, ↓reduceIte, hn, h5, h6, h15, h16, h17, eq_true d1, hi1, k1, conv_int Try.underlying5 Try.underlying72, wrapu32x, e1, bin_rem, mod521, e2, wrapI]
    exact wround_next (l.length - (i + 1)) (by omega) ⟨i + 1, rfl, by omega, rfl, by simp only [get_put, n_put, ↓reduceIte, Nat.reduceEqDiff, hn], by simp only [get_put, n_put, ↓reduceIte, Nat.reduceEqDiff]; rw [ht]; rfl, by simp only [get_put, n_put, ↓reduceIte, Nat.reduceEqDiff]; rw [ht]; rfl, by simp only [get_put, n_put, ↓reduceIte, Nat.reduceEqDiff, h15], by simp only [get_put, n_put, ↓reduceIte, Nat.reduceEqDiff, h16], by simp only [get_put, n_put, ↓reduceIte, Nat.reduceEqDiff]; rfl⟩
  clear hn h0 h1 f
  rintro z f t ⟨rfl, rfl, hn, h5, h6⟩
  have hq := adlN_lt l
  have hor := orU (y := (adlN l).2) (x := (adlN l).1) (by omega) (by omega)
  have hsl := shlU Try.prog 72 .u64 (y := (adlN l).2) (by omega)
  simp (config := { maxSteps := 1000000, implicitDefEqProofs := false }) (disch := omega) only [allW, allR, wfn_ret, wfn_normal, oneOf, evalAll, partsA, optA, Nat.reduceLT, Nat.reduceLeDiff, Nat.reduceEqDiff, Nat.reduceAdd, ↓reduceIte, hn, h5, h6, hsl, bin_or, hor, Try.results63]
  rfl
set_option maxHeartbeats 4000000 in
theorem rmore_any {lib : Prims} (hl : lib.at 64 = none) (s : ASt) (x : Value) (l : List UInt8) (hx : Sees s 1 x l.length (ofBytes l)) (hlen : l.length ≤ 1000000000) :
    Runs Try.prog lib 64 [.int .u32 1, x] s fun v s' => v = .int .u32 (adl l : Nat) ∧ s' = s := by
  refine Runs.enter 36 Try.func64 rfl hl rfl rfl ?_
  intro f hn hf
  have h0 : f.get 0 = .int .u32 1 := hf 0
  have h1 : f.get 1 = x := hf 1
  clear hf
  have m2 : (1 : Int).tmod 65536 = 1 := by decide
  have m1 : (1 : Int).tmod 65521 = 1 := by decide
  have m0 : (0 : Int).tmod 65521 = 0 := by decide
  have q0 : (1 : Int).tdiv 65536 = 0 := by decide
  simp (config := { maxSteps := 1000000, implicitDefEqProofs := false }) (disch := omega) only [allW, allR, oneOf, evalAll, partsA, optA, Nat.reduceLT, Nat.reduceLeDiff, Nat.reduceEqDiff, Nat.reduceAdd, ↓reduceIte, hn, h0, h1, bin_rem, bin_quo, m2, m1, m0, q0, wrapu32x]
  refine Comes.loopOut (fun z f t => ∃ i : Nat, z = l.length - i ∧ i ≤ l.length ∧ t = s ∧ f.n = 36 ∧ f.get 1 = x ∧ f.get 5 = .int .u32 ((adlN (l.take i)).1 : Nat) ∧ f.get 6 = .int .u32 ((adlN (l.take i)).2 : Nat) ∧ f.get 7 = .int .i64 (i : Nat))
    (fun z f t => z = .exit 0 ∧ t = s ∧ f.n = 36 ∧ f.get 5 = .int .u32 ((adlN l).1 : Nat) ∧ f.get 6 = .int .u32 ((adlN l).2 : Nat))
    ⟨0, rfl, by omega, rfl, by simp only [get_put, n_put, ↓reduceIte, Nat.reduceEqDiff, hn], by simp only [get_put, n_put, ↓reduceIte, Nat.reduceEqDiff, h1], by simp only [get_put, n_put, ↓reduceIte, Nat.reduceEqDiff]; rfl, by simp only [get_put, n_put, ↓reduceIte, Nat.reduceEqDiff]; rfl, by simp only [get_put, n_put, ↓reduceIte, Nat.reduceEqDiff]; rfl⟩ ?_ ?_
  · clear hn h0 h1 f
    rintro Q hQ z f t ⟨i, rfl, hi, rfl, hn, h1, h5, h6, h7⟩
    by_cases hlt : i < l.length
    rotate_left
    · obtain rfl : i = l.length := by omega
      have d1 : ¬ ((l.length : Nat) : Int) < ((l.length : Nat) : Int) := by omega
      rw [List.take_length] at h5 h6
      simp (config := { maxSteps := 1000000, implicitDefEqProofs := false }) (disch := omega) only [allW, allR, oneOf, evalAll, partsA, optA, Nat.reduceLT, Nat.reduceLeDiff, Nat.reduceEqDiff, Nat.reduceAdd, ↓reduceIte, hn, h1, h5, h6, h7, hx.lenA Try.underlying22, eq_false d1]
      exact hQ _ _ _ ⟨rfl, rfl, by simp only [get_put, n_put, ↓reduceIte, Nat.reduceEqDiff, hn], by simp only [get_put, n_put, ↓reduceIte, Nat.reduceEqDiff, h5], by simp only [get_put, n_put, ↓reduceIte, Nat.reduceEqDiff, h6]⟩
    have d1 : (i : Int) < (l.length : Int) := by omega
    have hi1 := hx.indexAddr (P := Try.prog) (k := .i64) (x := (i : Int)) Try.underlying22 szU8 (by omega) (by omega)
    rw [Int.toNat_natCast] at hi1
    have k1 := hx.load1 (P := Try.prog) agU8 hlt
    rw [ofBytes_getD hlt] at k1
    have hc := (l.getD i 0).toNat_lt
    have hq := adlN_lt (l.take i)
    have ht := adlN_take hlt
    generalize adlN (l.take i) = q at h5 h6 hq ht
    obtain ⟨q1, q2⟩ := q
    simp only at h5 h6 hq
    have e1 : (q1 : Int) + ((l.getD i 0).toNat : Int) = ((q1 + (l.getD i 0).toNat : Nat) : Int) := by omega
    have e2 : (q2 : Int) + ((((q1 + (l.getD i 0).toNat) % 65521 : Nat)) : Int) = ((q2 + (q1 + (l.getD i 0).toNat) % 65521 : Nat) : Int) := by omega
    simp (config := { maxSteps := 1000000, implicitDefEqProofs := false }) (disch := omega) only [allW, allR, oneOf, evalAll, partsA, optA, Nat.reduceLT, Nat.reduceLeDiff, Nat.reduceEqDiff, Nat.reduceAdd, ↓reduceIte, hn, h1, h5, h6, h7, hx.lenA Try.underlying22, eq_true d1, hi1, k1, conv_int Try.underlying5 Try.underlying72, wrapu32x, e1, bin_rem, mod521, e2, wrapI]
    exact wround_next (l.length - (i + 1)) (by omega) ⟨i + 1, rfl, by omega, rfl, by simp only [get_put, n_put, ↓reduceIte, Nat.reduceEqDiff, hn], by simp only [get_put, n_put, ↓reduceIte, Nat.reduceEqDiff, h1], by simp only [get_put, n_put, ↓reduceIte, Nat.reduceEqDiff]; rw [ht]; rfl, by simp only [get_put, n_put, ↓reduceIte, Nat.reduceEqDiff]; rw [ht]; rfl, by simp only [get_put, n_put, ↓reduceIte, Nat.reduceEqDiff]; rfl⟩
  clear hn h0 h1 f
  rintro z f t ⟨rfl, rfl, hn, h5, h6⟩
  have hq := adlN_lt l
  have e1 : (((adlN l).2 : Nat) : Int) * 65536 = (((adlN l).2 * 65536 : Nat) : Int) := by omega
  have e2 : (((adlN l).2 * 65536 : Nat) : Int) + (((adlN l).1 : Nat) : Int) = ((adl l : Nat) : Int) := by unfold adl; omega
  have e3 := adl_lt l
  simp (config := { maxSteps := 1000000, implicitDefEqProofs := false }) (disch := omega) only [allW, allR, wfn_ret, wfn_normal, oneOf, evalAll, partsA, optA, Nat.reduceLT, Nat.reduceLeDiff, Nat.reduceEqDiff, Nat.reduceAdd, ↓reduceIte, hn, h5, h6, e1, wrapu32x, e2, Try.results64]
  try exact ⟨rfl, rfl⟩
theorem radler_any {lib : Prims} (hl0 : lib.at 43 = none) (hl : lib.at 64 = none) (s : ASt) (x : Value) (l : List UInt8) (hx : Sees s 1 x l.length (ofBytes l)) (hlen : l.length ≤ 1000000000) :
    Runs Try.prog lib 43 [x] s fun v s' => v = .int .u32 (adl l : Nat) ∧ s' = s := by
  refine Runs.enter 5 Try.func43 rfl hl0 rfl rfl ?_
  intro f hn hf
  have h0 : f.get 0 = x := hf 0
  clear hf
  simp (config := { maxSteps := 1000000, implicitDefEqProofs := false }) (disch := omega) only [allW, allR, oneOf, evalAll, partsA, optA, Nat.reduceLT, Nat.reduceLeDiff, Nat.reduceEqDiff, Nat.reduceAdd, ↓reduceIte, hn, h0]
  refine (rmore_any hl s x l hx hlen).mono ?_
  rintro _ s2 ⟨rfl, rfl⟩
  simp (config := { maxSteps := 1000000, implicitDefEqProofs := false }) (disch := omega) only [allW, allR, wfn_ret, wfn_normal, oneOf, evalAll, partsA, optA, Nat.reduceLT, Nat.reduceLeDiff, Nat.reduceEqDiff, Nat.reduceAdd, ↓reduceIte, hn, Try.results43]
  try exact ⟨rfl, rfl⟩
theorem adler_any {lib : Prims} (hl0 : lib.at 41 = none) (hl : lib.at 63 = none) (s : ASt) (y x : Value) (l : List UInt8) (hy : Sees s 1 y 1 [x]) (hx : Sees s 1 x l.length (ofBytes l)) (hlen : l.length ≤ 1000000000) :
    Runs Try.prog lib 41 [y] s fun v s' => v = .int .u32 (adl l : Nat) ∧ s' = s := by
  refine Runs.enter 17 Try.func41 rfl hl0 rfl rfl ?_
  intro f hn hf
  have h0 : f.get 0 = y := hf 0
  clear hf
  simp (config := { maxSteps := 1000000, implicitDefEqProofs := false }) (disch := omega) only [allW, allR, oneOf, evalAll, partsA, optA, Nat.reduceLT, Nat.reduceLeDiff, Nat.reduceEqDiff, Nat.reduceAdd, ↓reduceIte, hn, h0, hy.lenA Try.underlying44]
  refine Comes.loopOut (fun z f t => ∃ i : Nat, z = 1 - i ∧ i ≤ 1 ∧ t = s ∧ f.n = 17 ∧ f.get 3 = .int .u32 ((if i = 0 then 1 else adl l : Nat) : Int) ∧ f.get 6 = y ∧ f.get 7 = .int .i64 ((1 : Nat) : Int) ∧ f.get 8 = .int .i64 (i : Nat))
    (fun z f t => z = .exit 0 ∧ t = s ∧ f.n = 17 ∧ f.get 3 = .int .u32 (adl l : Nat))
    ⟨0, rfl, by omega, rfl, by simp only [get_put, n_put, ↓reduceIte, Nat.reduceEqDiff, hn], by simp only [get_put, n_put, ↓reduceIte, Nat.reduceEqDiff]; try rfl, by simp only [get_put, n_put, ↓reduceIte, Nat.reduceEqDiff], by simp only [get_put, n_put, ↓reduceIte, Nat.reduceEqDiff], by simp only [get_put, n_put, ↓reduceIte, Nat.reduceEqDiff]; try rfl⟩ ?_ ?_
  · clear hn h0 f
    rintro Q hQ z f t ⟨i, rfl, hi, rfl, hn, h3, h6, h7, h8⟩
    by_cases hlt : i < 1
    rotate_left
    · obtain rfl : i = 1 := by omega
      have d1 : ¬ ((1 : Nat) : Int) < ((1 : Nat) : Int) := by omega
      simp (config := { maxSteps := 1000000, implicitDefEqProofs := false }) (disch := omega) only [allW, allR, oneOf, evalAll, partsA, optA, Nat.reduceLT, Nat.reduceLeDiff, Nat.reduceEqDiff, Nat.reduceAdd, ↓reduceIte, hn, h3, h6, h7, h8, eq_false d1]
      exact hQ _ _ _ ⟨rfl, rfl, by simp only [get_put, n_put, ↓reduceIte, Nat.reduceEqDiff, hn], by simp only [get_put, n_put, ↓reduceIte, Nat.reduceEqDiff, h3]; try rfl⟩
    obtain rfl : i = 0 := by omega
    have h3 : f.get 3 = .int .u32 1 := h3
    have d1 : ((0 : Nat) : Int) < ((1 : Nat) : Int) := by omega
    have hi1 := hy.indexAddr (P := Try.prog) (k := .i64) (x := ((0 : Nat) : Int)) Try.underlying44 szSl (by omega) (by omega)
    rw [Int.toNat_natCast] at hi1
    have k1 := hy.load1 (P := Try.prog) agSl (k := 0) (by omega)
    have k1 : loadA Try.prog t 22 (elemPtr 1 y 0) = some x := k1
    simp (config := { maxSteps := 1000000, implicitDefEqProofs := false }) (disch := omega) only [allW, allR, oneOf, evalAll, partsA, optA, Nat.reduceLT, Nat.reduceLeDiff, Nat.reduceEqDiff, Nat.reduceAdd, ↓reduceIte, hn, h3, h6, h7, h8, eq_true d1, hi1, k1]
    refine (more_any hl t x l hx hlen).mono ?_
    rintro _ t2 ⟨rfl, rfl⟩
    simp (config := { maxSteps := 1000000, implicitDefEqProofs := false }) (disch := omega) only [allW, allR, oneOf, evalAll, partsA, optA, Nat.reduceLT, Nat.reduceLeDiff, Nat.reduceEqDiff, Nat.reduceAdd, ↓reduceIte, hn, h6, h7, h8, wrapI]
    exact wround_next 0 (by omega) ⟨1, rfl, by omega, rfl, by simp only [get_put, n_put, ↓reduceIte, Nat.reduceEqDiff, hn], by simp only [get_put, n_put, ↓reduceIte, Nat.reduceEqDiff]; try rfl, by simp only [get_put, n_put, ↓reduceIte, Nat.reduceEqDiff, h6], by simp only [get_put, n_put, ↓reduceIte, Nat.reduceEqDiff, h7], by simp only [get_put, n_put, ↓reduceIte, Nat.reduceEqDiff]; try rfl⟩
  clear hn h0 f
  rintro z f t ⟨rfl, rfl, hn, h3⟩
  simp (config := { maxSteps := 1000000, implicitDefEqProofs := false }) (disch := omega) only [allW, allR, wfn_ret, wfn_normal, oneOf, evalAll, partsA, optA, Nat.reduceLT, Nat.reduceLeDiff, Nat.reduceEqDiff, Nat.reduceAdd, ↓reduceIte, hn, h3, Try.results41]
  try exact ⟨rfl, rfl⟩
end Go.Proofs.Ytnclklboogdoiaa
set_option linter.unusedSimpArgs false
set_option linter.unusedVariables false
set_option maxRecDepth 100000
namespace Go.Proofs.Ytnclklboogdoiaa
open Go.Cl Go.Cl.Sto
end Go.Proofs.Ytnclklboogdoiaa
set_option linter.unusedSimpArgs false
set_option linter.unusedVariables false
set_option maxRecDepth 100000
namespace Go.Cl
structure Pieces (s : ASt) (vs : List Value) (L : List (List UInt8)) : Prop where
  len : vs.length = L.length
  sees : ∀ k (h : k < L.length), Sees s 1 (vs.getD k undef) (L[k]).length (ofBytes L[k])
theorem Pieces.nil (s : ASt) : Pieces s [] [] := ⟨rfl, fun k h => absurd h (Nat.not_lt_zero k)⟩
theorem Pieces.cons {s : ASt} {v : Value} {a : List UInt8} {vs : List Value} {L : List (List UInt8)} (h : Sees s 1 v a.length (ofBytes a)) (k : Pieces s vs L) : Pieces s (v :: vs) (a :: L) := by
  refine ⟨by simp [k.len], fun j hj => ?_⟩
  cases j with
  | zero => exact h
  | succ j => exact k.sees j (by simpa using hj)
theorem Pieces.keeps {s s' : ASt} {vs : List Value} {L : List (List UInt8)} (h : Pieces s vs L) (k : Stay s.next s s') : Pieces s' vs L := ⟨h.len, fun j hj => (h.sees j hj).keeps k⟩
end Go.Cl
namespace Go.Proofs.Ytnclklboogdoiaa
open Go.Cl
end Go.Proofs.Ytnclklboogdoiaa
set_option linter.unusedSimpArgs false
set_option linter.unusedVariables false
set_option maxRecDepth 100000
namespace Go.Cl.Fx
open Go.Cl.Rw Go.Cl.Sto
theorem Own.sliceF {s : ASt} {z : Nat} {v : Value} {n : Nat} {l : List Value} (h : Own s z v n l) : ∃ a n c, v = .slice a n c := by cases h <;> exact ⟨_, _, _, rfl⟩
theorem Sees.sliceF {s : ASt} {z : Nat} {v : Value} {n : Nat} {l : List Value} (h : Sees s z v n l) : ∃ a n c, v = .slice a n c := by cases h <;> exact ⟨_, _, _, rfl⟩
end Go.Cl.Fx
namespace Go.Proofs.Ytnclklboogdoiaa
open Go.Cl Go.Cl.Rw Go.Cl.Sto Go.Cl.Fx
theorem zSl2 : zeroB Try.prog 22 = some (.slice none 0 0) := by kernel_rfl
theorem buildS1 (s : ASt) (a : Option Addr) (n1 c1 : Nat) : buildSliceA Try.prog s 44 1 [(0, .slice a n1 c1)] = newSlice s [.slice a n1 c1] 1 1 := by
  unfold buildSliceA; rw [Try.underlying44]; simp only [szSl, zSl2]; rfl
end Go.Proofs.Ytnclklboogdoiaa
