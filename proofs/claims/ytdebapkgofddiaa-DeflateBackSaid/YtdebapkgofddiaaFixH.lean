/-
  Deflate, wrapped, read by the reference.
-/
import Derived.Test.YtdebapkgofddiaaFixG
set_option linter.unusedSimpArgs false
set_option linter.unusedVariables false
namespace Go.Cl.Fx
open Go.Cl.Rw Go.Cl.Sto
theorem zlb_front (l : List UInt8) : (zlb l).drop 2 = zbody l ++ be 4 (adl l) := rfl
theorem zlb_back (l : List UInt8) : ((zlb l).drop (2 + (zbody l).length)).take 4 = be 4 (adl l) := by
  rw [← List.drop_drop, zlb_front, List.drop_left]
  exact List.take_of_length_le (by rw [be_length]; exact Nat.le_refl _)
theorem zlb_length (l : List UInt8) : (zlb l).length = (zbody l).length + 6 := by unfold zlb; simp [be_length]
theorem zbody_or (l : List UInt8) : zbody l = fixed l ∨ zbody l = sto l := by
  unfold zbody
  split
  · exact .inr rfl
  · exact .inl rfl
end Go.Cl.Fx
namespace Go.Proofs.Ytdebapkgofddiaa
open Go.Cl Go.Cl.Rw Go.Cl.Sto Go.Cl.Fx
theorem rnum_any {lib : Prims} (hl : lib.at 47 = none) (s : ASt) (x : Value) (l : List UInt8) (hx : Sees s 1 x l.length (ofBytes l)) (hlen : l.length ≤ 7) :
    Runs Try.prog lib 47 [x] s fun v s' => v = .int .i64 (bigOf l) ∧ s' = s := by
  refine Runs.enter 20 Try.func47 rfl hl rfl rfl ?_
  intro f hn hf
  have h0 : f.get 0 = x := hf 0
  clear hf
  simp (config := { maxSteps := 1000000, implicitDefEqProofs := false }) (disch := omega) only [allW, allR, oneOf, evalAll, partsA, optA, Nat.reduceLT, Nat.reduceLeDiff, Nat.reduceEqDiff, Nat.reduceAdd, ↓reduceIte, hn, h0]
  refine Comes.loopAt (fun q f s' => ∃ i : Nat, q = l.length - i ∧ i ≤ l.length ∧ f.n = 20 ∧ f.get 0 = x ∧ f.get 3 = .int .i64 (bigOf (l.take i)) ∧ f.get 4 = .int .i64 i ∧ s' = s) ⟨0, rfl, by omega, by simp only [get_put, n_put, ↓reduceIte, Nat.reduceEqDiff, hn], by simp only [get_put, n_put, ↓reduceIte, Nat.reduceEqDiff, h0], by simp only [get_put, n_put, ↓reduceIte, Nat.reduceEqDiff]; rfl, by simp only [get_put, n_put, ↓reduceIte, Nat.reduceEqDiff]; rfl, rfl⟩ ?_
  clear hn h0 f
  rintro q f s ⟨i, rfl, hi, hn, h0, h3, h4, rfl⟩
  by_cases c : i < l.length
  · have hsm : bigOf (l.take i) < 4503599627370496 := bigOf_small (by rw [List.length_take]; omega)
    have hb8 := (l.getD i 0).toNat_lt
    have hnew : bigOf (l.take i) * 256 + (l.getD i 0).toNat = bigOf (l.take (i + 1)) := by rw [takeN_next c, bigOf_snoc]
    simp (config := { maxSteps := 1000000, implicitDefEqProofs := false }) (disch := omega) only [allW, allR, oneOf, evalAll, partsA, optA, Nat.reduceLT, Nat.reduceLeDiff, Nat.reduceEqDiff, Nat.reduceAdd, ↓reduceIte, hn, h0, h3, h4, c, hx.lenA Try.underlying24, bin_shl8, wrapI, hx.indexAddr Try.underlying24 szU8, hx.load1 agU8, ofBytes_getD, conv_int Try.underlying5 Try.underlying3, bin_or, or_byte, hnew]
    refine wround_next (l.length - (i + 1)) (by omega) ⟨i + 1, rfl, by omega, by simp only [get_put, n_put, ↓reduceIte, Nat.reduceEqDiff, hn], by simp only [get_put, n_put, ↓reduceIte, Nat.reduceEqDiff, h0], by simp only [get_put, n_put, ↓reduceIte, Nat.reduceEqDiff], by simp only [get_put, n_put, ↓reduceIte, Nat.reduceEqDiff]; rfl, rfl⟩
  · simp (config := { maxSteps := 1000000, implicitDefEqProofs := false }) (disch := omega) only [allW, allR, wfn_ret, wfn_normal, oneOf, evalAll, partsA, optA, Nat.reduceLT, Nat.reduceLeDiff, Nat.reduceEqDiff, Nat.reduceAdd, ↓reduceIte, hn, h0, h3, h4, c, hx.lenA Try.underlying24, Try.results47]
    rw [List.take_of_length_le (by omega)]
set_option maxRecDepth 100000 in
set_option maxHeartbeats 8000000 in
theorem unzlib_any {lib : Prims} (hl0 : lib.at 24 = none) (hl : lib.at 11 = none) (hls : lib.at 27 = none) (hlt : lib.at 26 = none) (hlp : lib.at 48 = none) (hta : lib.at 28 = none) (hcd : lib.at 29 = none) (hco : lib.at 38 = none) (hsy : lib.at 49 = none) (hln : lib.at 50 = none) (hds : lib.at 51 = none)
    (hnu : lib.at 47 = none) (had : lib.at 46 = none) (hmo : lib.at 57 = none)
    (s : ASt) (x : Value) (l : List UInt8) (hx : Sees s 1 x (zlb l).length (ofBytes (zlb l))) (hlen : l.length ≤ 65535) (M : Int) (hM : (l.length : Int) ≤ M) :
    Runs Try.prog lib 24 [x, .int .i64 M] s (BlkR s l (zlb l).length) := by
  have hzl := zlb_length l
  have hfl := fixed_length l
  have hsl := sto_length _ l (Nat.le_refl _)
  have hbk : blocks l.length ≤ 2 := by unfold blocks; omega
  have hzb := zbody_le l
  obtain ⟨Z, hZ⟩ : ∃ Z, Z = zlb l := ⟨_, rfl⟩
  refine Runs.enter 77 Try.func24 rfl hl0 rfl rfl ?_
  intro f hn hf
  have h0 : f.get 0 = x := hf 0
  have h1 : f.get 1 = .int .i64 M := hf 1
  clear hf
  have d1 : ¬ (((zlb l).length : Nat) : Int) < 2 := by omega
  have i0 := hx.indexAddr (P := Try.prog) (k := .i64) (x := (0 : Int)) Try.underlying24 szU8 (by omega) (by omega)
  have i1 := hx.indexAddr (P := Try.prog) (k := .i64) (x := (1 : Int)) Try.underlying24 szU8 (by omega) (by omega)
  rw [show (0 : Int).toNat = 0 from rfl] at i0
  rw [show (1 : Int).toNat = 1 from rfl] at i1
  have k0 := hx.load1 (P := Try.prog) agU8 (k := 0) (by omega)
  have k1 := hx.load1 (P := Try.prog) agU8 (k := 1) (by omega)
  have k0 : loadA Try.prog s 5 (elemPtr 1 x 0) = some (.int .u8 120) := k0
  have k1 : loadA Try.prog s 5 (elemPtr 1 x 1) = some (.int .u8 1) := k1
  have a1 : IntKind.u8.wrap (((BitVec.ofInt IntKind.u8.bits 120 &&& BitVec.ofInt IntKind.u8.bits 15).toNat : Nat) : Int) = 8 := by decide
  have a2 : IntKind.u8.wrap (((BitVec.ofInt IntKind.u8.bits 1 &&& BitVec.ofInt IntKind.u8.bits 32).toNat : Nat) : Int) = 0 := by decide
  have s4 : binA Try.prog .shr 5 (.int .u8 120) (.int .u64 4) = some (.int .u8 7) := by
    rw [bin_shr _ _ .u8 _ _ .u64 (by omega)]; rfl
  have m31 : (30721 : Int).tmod 31 = 0 := by decide
  have e30 : (120 : Int) * 256 = 30720 := rfl
  have e31 : (30720 : Int) + 1 = 30721 := rfl
  have g7 : ¬ (7 : Int) > 7 := by decide
  simp (config := { maxSteps := 1000000, implicitDefEqProofs := false }) (disch := omega) only [allW, allR, oneOf, evalAll, partsA, optA, Nat.reduceLT, Nat.reduceLeDiff, Nat.reduceEqDiff, Nat.reduceAdd, ↓reduceIte, undef, hn, h0, h1, hx.lenA Try.underlying24, hx.self, eq_false d1, i0, i1, k0, k1, bin_and, a1, a2, s4, eq_false g7, conv_int Try.underlying5 Try.underlying3, wrapI, e30, e31, bin_rem, m31, not_true_eq_false, decide_false, valEq_int, valEq_elemPtr, Try.underlying3, Try.underlying5, Try.underlying25, hx.sliceLow Try.underlying24 szU8]
  have hcut := hx.cutB (lo := 2) (hi := (zlb l).length) (by omega) (by omega)
  rw [zlb_front, List.take_of_length_le (by rw [List.length_append, be_length]; omega)] at hcut
  refine (blocksZ_any hl hls hlt hlp hta hcd hco hsy hln hds s _ l (zbody l) (be 4 (adl l)) (zbody_or l) hcut hlen (by rw [be_length]; decide) M hM).mono ?_
  rintro _ s2 ⟨o, rfl, ho, hoF, k2⟩
  have hx2 := hx.keeps k2
  have e2 : (((zlb l).length : Nat) : Int) - 2 - ((zbody l).length : Nat) = 4 := by omega
  have e3 : (2 : Int) + ((zbody l).length : Nat) = ((2 + (zbody l).length : Nat) : Int) := by omega
  have e4 : (6 : Int) + ((zbody l).length : Nat) = ((2 + (zbody l).length + 4 : Nat) : Int) := by omega
  have g4 : ¬ (4 : Int) < 4 := by decide
  simp (config := { maxSteps := 1000000, implicitDefEqProofs := false }) (disch := omega) only [allW, allR, oneOf, evalAll, partsA, optA, Nat.reduceLT, Nat.reduceLeDiff, Nat.reduceEqDiff, Nat.reduceAdd, ↓reduceIte, undef, hn, h0, h1, ext0F, ext1F, ext2F, not_true_eq_false, decide_false, hx2.lenA Try.underlying24, wrapI, e2, eq_false g4, e3, e4, hx2.sliceBoth Try.underlying24 szU8]
  have hcut2 := hx2.cutB (lo := 2 + (zbody l).length) (hi := 2 + (zbody l).length + 4) (by omega) (by omega)
  rw [show 2 + (zbody l).length + 4 - (2 + (zbody l).length) = 4 by omega, zlb_back] at hcut2
  refine (rnum_any hnu s2 _ (be 4 (adl l)) hcut2 (by rw [be_length]; decide)).mono ?_
  rintro _ s3 ⟨rfl, rfl⟩
  have hal := adl_lt l
  rw [big_four hal]
  simp (config := { maxSteps := 1000000, implicitDefEqProofs := false }) (disch := omega) only [allW, allR, oneOf, evalAll, partsA, optA, Nat.reduceLT, Nat.reduceLeDiff, Nat.reduceEqDiff, Nat.reduceAdd, ↓reduceIte, undef, hn, h0, h1, conv_int Try.underlying3 Try.underlying22, wrapu32x]
  refine (radler_any had hmo s3 o l ho.sees (by omega)).mono ?_
  rintro _ s4 ⟨rfl, rfl⟩
  have e6 : ((zbody l).length : Int) + 6 = (((zlb l).length : Nat) : Int) := by omega
  simp (config := { maxSteps := 1000000, implicitDefEqProofs := false }) (disch := omega) only [allW, allR, wfn_ret, wfn_normal, oneOf, evalAll, partsA, optA, Nat.reduceLT, Nat.reduceLeDiff, Nat.reduceEqDiff, Nat.reduceAdd, ↓reduceIte, undef, hn, h0, h1, not_true_eq_false, decide_false, wrapI, e6, Try.results24]
  exact ⟨o, rfl, ho, hoF, k2⟩
end Go.Proofs.Ytdebapkgofddiaa
