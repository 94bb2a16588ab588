/-
  Deflate, wrapped: the program's, the reference's; the reference's stored block.
-/
import Derived.Test.YtdebapkgofddiaaFixU
import Derived.Test.YtdebapkgofddiaaAdl
import Derived.Test.YtdebapkgofddiaaSto
import Derived.Test.YtdebapkgofddiaaJoin
set_option linter.unusedSimpArgs false
set_option linter.unusedVariables false
namespace Go.Cl.Fx
open Go.Cl.Rw Go.Cl.Sto
/-- What is wrapped: the shorter of both. -/
def zbody (l : List UInt8) : List UInt8 := if (sto l).length ≤ (fixed l).length then sto l else fixed l
def zlb (l : List UInt8) : List UInt8 := [120, 1] ++ (zbody l ++ be 4 (adl l))
theorem zbody_le (l : List UInt8) : (zbody l).length ≤ (sto l).length := by
  unfold zbody
  split
  · exact Nat.le_refl _
  · omega
theorem Own.sliceF {s : ASt} {z : Nat} {v : Value} {n : Nat} {l : List Value} (h : Own s z v n l) : ∃ a n c, v = .slice a n c := by cases h <;> exact ⟨_, _, _, rfl⟩
theorem Sees.sliceF {s : ASt} {z : Nat} {v : Value} {n : Nat} {l : List Value} (h : Sees s z v n l) : ∃ a n c, v = .slice a n c := by cases h <;> exact ⟨_, _, _, rfl⟩
theorem shrU (P : Program) (t : TypeId) (k' : IntKind) (n : Nat) {k : Nat} (h : k < 32) : binA P .shr t (.int .u32 (n : Int)) (.int k' (k : Nat)) = some (.int .u32 ((n / 2 ^ k : Nat) : Int)) := by
  rw [bin_shr P t .u32 _ _ k' (by omega)]
  have e : min ((k : Nat) : Int).toNat IntKind.u32.bits = k := by
    have : IntKind.u32.bits = 32 := rfl
    rw [this, Int.toNat_natCast]; omega
  rw [e, fdivN]
end Go.Cl.Fx
namespace Go.Proofs.Ytdebapkgofddiaa
open Go.Cl Go.Cl.Rw Go.Cl.Sto Go.Cl.Fx
theorem zSl2 : zeroB Try.prog 24 = some (.slice none 0 0) := by kernel_rfl
theorem buildS3 (s : ASt) (a b c : Option Addr) (n1 n2 n3 c1 c2 c3 : Nat) : buildSliceA Try.prog s 71 3 [(0, .slice a n1 c1), (1, .slice b n2 c2), (2, .slice c n3 c3)] = newSlice s [.slice a n1 c1, .slice b n2 c2, .slice c n3 c3] 3 1 := by
  unfold buildSliceA; rw [Try.underlying71]; simp only [szSl, zSl2]; rfl
theorem buildS1 (s : ASt) (a : Option Addr) (n1 c1 : Nat) : buildSliceA Try.prog s 71 1 [(0, .slice a n1 c1)] = newSlice s [.slice a n1 c1] 1 1 := by
  unfold buildSliceA; rw [Try.underlying71]; simp only [szSl, zSl2]; rfl
set_option maxHeartbeats 4000000 in
theorem rstored_any {lib : Prims} (hl : lib.at 20 = none) (s : ASt) (x : Value) (r : List UInt8) (hx : Sees s 1 x r.length (ofBytes r)) (hlen : r.length ≤ 65535) :
    Runs Try.prog lib 20 [x] s fun v s' => NewBytes s v s' (sto r) := by
  refine Runs.enter 40 Try.func20 rfl hl rfl rfl ?_
  intro f hn hf
  have h0 : f.get 0 = x := hf 0
  clear hf
  simp (config := { maxSteps := 1000000, implicitDefEqProofs := false }) (disch := omega) only [allW, allR, oneOf, evalAll, partsA, optA, Nat.reduceLT, Nat.reduceLeDiff, Nat.reduceEqDiff, Nat.reduceAdd, ↓reduceIte, hn, h0]
  refine Comes.loopAt (fun q f s' => q = 0 ∧ s' = s ∧ f.n = 40 ∧ f.get 0 = x ∧ f.get 3 = .slice none 0 0)
    ⟨rfl, rfl, by simp only [get_put, n_put, ↓reduceIte, Nat.reduceEqDiff, hn], by simp only [get_put, n_put, ↓reduceIte, Nat.reduceEqDiff, h0], by simp only [get_put, n_put, ↓reduceIte, Nat.reduceEqDiff]⟩ ?_
  clear hn h0 f
  rintro q f s1 ⟨rfl, rfl, hn, h0, h3⟩
  have e1 : ¬ (65535 : Int) < r.length := by omega
  have hn64 : r.length < 4611686018427387904 := by omega
  simp (config := { maxSteps := 1000000, implicitDefEqProofs := false }) (disch := omega) only [allW, allR, oneOf, evalAll, partsA, optA, Nat.reduceLT, Nat.reduceLeDiff, Nat.reduceEqDiff, Nat.reduceAdd, ↓reduceIte, hn, h0, h3, hx.lenA Try.underlying24, hx.self, e1, decide_true]
  have eb : (1 : Int) = ((UInt8.ofNat 1).toNat : Int) := rfl
  simp (config := { maxSteps := 1000000, implicitDefEqProofs := false }) (disch := omega) only [allW, allR, oneOf, evalAll, partsA, optA, Nat.reduceLT, Nat.reduceLeDiff, Nat.reduceEqDiff, Nat.reduceAdd, ↓reduceIte, hn, h0, h3, conv_int Try.underlying3 Try.underlying5, b0, shr8, fdiv256, b1, notI, b2, b3, build5 Try.underlying24 szU8 zU8]
  refine wstep_append_lit Try.underlying24 szU8 byU8 zU8 rfl (Own.nil : Own s1 1 (.slice none 0 0) 0 []) (by simp only [get_put, n_put, ↓reduceIte, Nat.reduceEqDiff, h3]) (by decide) (by simp only [get_put, n_put, ↓reduceIte, Nat.reduceEqDiff, hn]; decide) (by simp only [get_put, n_put, ↓reduceIte, Nat.reduceEqDiff, hn]; decide) (by rfl) (by decide) rfl (by omega) (by omega) (Fresh.nil _) (Nat.le_refl _) ?_
  intro bs o2 s3 ho2 hoF2 hst3 _ _
  have hw3 := hx.keeps hst3
  have hcut := hw3.cutB (lo := 0) (hi := r.length) (by omega) (by omega)
  rw [List.drop_zero, Nat.sub_zero, List.take_length] at hcut
  simp (config := { maxSteps := 1000000, implicitDefEqProofs := false }) (disch := omega) only [allW, allR, oneOf, evalAll, partsA, optA, Nat.reduceLT, Nat.reduceLeDiff, Nat.reduceEqDiff, Nat.reduceAdd, ↓reduceIte, hn, h0, h3, hw3.sliceHigh Try.underlying24 szU8, ho2.self]
  refine wstep_append Try.underlying24 Try.underlying24 (.inl ⟨_, rfl⟩) szU8 byU8 zU8 rfl ho2 hcut.src (by rw [ofBytes_length, Nat.mul_one]) (by decide) (ofBytes_ok _) (by omega) (by omega) hoF2 hst3.next ?_
  intro o4 s4 ho4 hoF4 hst4 _ _
  have hh : [Value.int .u8 1, Value.int .u8 (((UInt8.ofNat r.length).toNat : Nat) : Int), Value.int .u8 (((UInt8.ofNat (r.length / 256)).toNat : Nat) : Int), Value.int .u8 (((UInt8.ofNat (255 - r.length % 256)).toNat : Nat) : Int), Value.int .u8 (((UInt8.ofNat (255 - r.length / 256 % 256)).toNat : Nat) : Int)] = ofBytes (hdr r.length 1) := rfl
  rw [hh] at ho4
  have hw4 := hx.keeps (hst3.trans hst4)
  simp (config := { maxSteps := 1000000, implicitDefEqProofs := false }) (disch := omega) only [allW, allR, wfn_ret, wfn_normal, oneOf, evalAll, partsA, optA, Nat.reduceLT, Nat.reduceLeDiff, Nat.reduceEqDiff, Nat.reduceAdd, ↓reduceIte, hn, h0, h3, hw4.sliceLow Try.underlying24 szU8, decide_true, Try.results20]
  refine ⟨?_, hoF4, hst3.trans hst4⟩
  rw [sto_last hlen, List.length_append, hdr_length, ofBytes_append]
  have e5 : 0 + 5 + r.length = 5 + r.length := by omega
  rw [e5, List.nil_append] at ho4
  exact ho4
set_option maxHeartbeats 4000000 in
theorem zlib_any {lib : Prims} (hl : lib.at 22 = none) (hfx : lib.at 19 = none) (hsm : lib.at 35 = none) (hla : lib.at 37 = none) (hlg : lib.at 54 = none) (hls : lib.at 36 = none) (hlc : lib.at 53 = none) (hlp : lib.at 12 = none) (hlb : lib.at 32 = none) (hly : lib.at 17 = none) (hlcl : lib.at 33 = none)
    (hst : lib.at 10 = none) (hlf : lib.at 25 = none) (had : lib.at 43 = none) (hmo : lib.at 55 = none) (hj : lib.at 44 = none) (hz : lib.at 56 = some pNoZero)
    (s : ASt) (x : Value) (l : List UInt8) (hx : Sees s 1 x l.length (ofBytes l)) (hlen : l.length ≤ 10000000) :
    Runs Try.prog lib 22 [x] s fun v s' => NewBytes s v s' (zlb l) := by
  refine Runs.enter 35 Try.func22 rfl hl rfl rfl ?_
  intro f hn hf
  have h0 : f.get 0 = x := hf 0
  clear hf
  simp (config := { maxSteps := 1000000, implicitDefEqProofs := false }) (disch := omega) only [allW, allR, oneOf, evalAll, partsA, optA, Nat.reduceLT, Nat.reduceLeDiff, Nat.reduceEqDiff, Nat.reduceAdd, ↓reduceIte, hn, h0]
  refine (fixed_any hfx hsm hla hlg hls hlc hlp hlb hly hlcl s x l hx hlen).mono ?_
  rintro a s1 ⟨hA, hAF, k1⟩
  simp (config := { maxSteps := 1000000, implicitDefEqProofs := false }) (disch := omega) only [allW, allR, oneOf, evalAll, partsA, optA, Nat.reduceLT, Nat.reduceLeDiff, Nat.reduceEqDiff, Nat.reduceAdd, ↓reduceIte, hn, h0]
  refine (stored_any hst hlf s1 x l (hx.keeps k1) (by omega)).mono ?_
  rintro b s2 ⟨hB, hBF, k2⟩
  have n1 := k1.next
  have n2 := k2.next
  have hA2 := hA.keeps k2
  have hs2 : Stay s.next s s2 := k1.trans (k2.weaken n1)
  have hfl := fixed_length l
  have hsl := sto_length _ l (Nat.le_refl _)
  have hbk : blocks l.length ≤ 200000 := by unfold blocks; omega
  have hzl := zbody_le l
  simp (config := { maxSteps := 1000000, implicitDefEqProofs := false }) (disch := omega) only [allW, allR, oneOf, evalAll, partsA, optA, Nat.reduceLT, Nat.reduceLeDiff, Nat.reduceEqDiff, Nat.reduceAdd, ↓reduceIte, hn, h0, hA2.sees.lenA Try.underlying24, hB.sees.lenA Try.underlying24]
  refine wif_cutF (fun f' s' => s2 = s' ∧ ∃ w : Value, Sees s2 1 w (zbody l).length (ofBytes (zbody l)) ∧ f'.n = 35 ∧ f'.get 0 = x ∧ f'.get 3 = w) ?_ ?_
  · intro Q' hQ'
    by_cases c : (sto l).length ≤ (fixed l).length
    · simp (config := { maxSteps := 1000000, implicitDefEqProofs := false }) (disch := omega) only [allW, allR, oneOf, evalAll, partsA, optA, Nat.reduceLT, Nat.reduceLeDiff, Nat.reduceEqDiff, Nat.reduceAdd, ↓reduceIte, hn, h0, eq_true c]
      exact hQ' _ _ ⟨rfl, b, by unfold zbody; rw [if_pos c]; exact hB.sees, by simp only [get_put, n_put, ↓reduceIte, Nat.reduceEqDiff, hn], by simp only [get_put, n_put, ↓reduceIte, Nat.reduceEqDiff, h0], by simp only [get_put, n_put, ↓reduceIte, Nat.reduceEqDiff]⟩
    · simp (config := { maxSteps := 1000000, implicitDefEqProofs := false }) (disch := omega) only [allW, allR, oneOf, evalAll, partsA, optA, Nat.reduceLT, Nat.reduceLeDiff, Nat.reduceEqDiff, Nat.reduceAdd, ↓reduceIte, hn, h0, eq_false c]
      exact hQ' _ _ ⟨rfl, a, by unfold zbody; rw [if_neg c]; exact hA2.sees, by simp only [get_put, n_put, ↓reduceIte, Nat.reduceEqDiff, hn], by simp only [get_put, n_put, ↓reduceIte, Nat.reduceEqDiff, h0], by simp only [get_put, n_put, ↓reduceIte, Nat.reduceEqDiff]⟩
  clear hn h0 f
  rintro f _ ⟨rfl, w, hw, hn, h0, h3⟩
  have hx2 := hx.keeps hs2
  obtain ⟨xa, xn, xc, hxe⟩ := Sees.sliceF hx2
  simp (config := { maxSteps := 1000000, implicitDefEqProofs := false }) (disch := omega) only [allW, allR, oneOf, evalAll, partsA, optA, Nat.reduceLT, Nat.reduceLeDiff, Nat.reduceEqDiff, Nat.reduceAdd, ↓reduceIte, hn, h0, h3, hxe, buildS1]
  refine wstep_newSlice rfl ?_
  intro y s3 hy hyF k3
  have n3 := k3.next
  rw [← hxe] at hy
  simp (config := { maxSteps := 1000000, implicitDefEqProofs := false }) (disch := omega) only [allW, allR, oneOf, evalAll, partsA, optA, Nat.reduceLT, Nat.reduceLeDiff, Nat.reduceEqDiff, Nat.reduceAdd, ↓reduceIte, hn, h0, h3]
  refine (adler_any had hmo s3 y x l hy.sees (hx2.keeps k3) (by omega)).mono ?_
  rintro _ s4 ⟨rfl, rfl⟩
  have hw4 := hw.keeps k3
  obtain ⟨wa, wn, wc, hwe⟩ := Sees.sliceF hw4
  have hshr : ∀ (k : Nat), k < 32 → binA Try.prog .shr 22 (.int .u32 ((adl l : Nat) : Int)) (.int .u64 (k : Nat)) = some (.int .u32 ((adl l / 2 ^ k : Nat) : Int)) := fun k hk => shrU Try.prog 22 .u64 (adl l) hk
  have r24 := hshr 24 (by omega)
  have r16 := hshr 16 (by omega)
  have r8 := hshr 8 (by omega)
  have r24 : binA Try.prog .shr 22 (.int .u32 ((adl l : Nat) : Int)) (.int .u64 24) = some (.int .u32 ((adl l / 16777216 : Nat) : Int)) := r24
  have r16 : binA Try.prog .shr 22 (.int .u32 ((adl l : Nat) : Int)) (.int .u64 16) = some (.int .u32 ((adl l / 65536 : Nat) : Int)) := r16
  have r8 : binA Try.prog .shr 22 (.int .u32 ((adl l : Nat) : Int)) (.int .u64 8) = some (.int .u32 ((adl l / 256 : Nat) : Int)) := r8
  simp (config := { maxSteps := 1000000, implicitDefEqProofs := false }) (disch := omega) only [allW, allR, oneOf, evalAll, partsA, optA, Nat.reduceLT, Nat.reduceLeDiff, Nat.reduceEqDiff, Nat.reduceAdd, ↓reduceIte, hn, h0, h3, build2 Try.underlying24 szU8 zU8]
  refine wstep_newSlice rfl ?_
  intro p1 s5 hp1 hp1F k5
  have n5 := k5.next
  simp (config := { maxSteps := 1000000, implicitDefEqProofs := false }) (disch := omega) only [allW, allR, oneOf, evalAll, partsA, optA, Nat.reduceLT, Nat.reduceLeDiff, Nat.reduceEqDiff, Nat.reduceAdd, ↓reduceIte, hn, h0, h3, r24, r16, r8, conv_int Try.underlying22 Try.underlying5, b0, build4 Try.underlying24 szU8 zU8]
  refine wstep_newSlice rfl ?_
  intro p3 s6 hp3 hp3F k6
  have n6 := k6.next
  obtain ⟨a1, b1, c1, rfl⟩ := Own.sliceF hp1
  obtain ⟨a3, b3, c3, rfl⟩ := Own.sliceF hp3
  simp (config := { maxSteps := 1000000, implicitDefEqProofs := false }) (disch := omega) only [allW, allR, oneOf, evalAll, partsA, optA, Nat.reduceLT, Nat.reduceLeDiff, Nat.reduceEqDiff, Nat.reduceAdd, ↓reduceIte, hn, h0, h3, hwe, buildS3]
  refine wstep_newSlice rfl ?_
  intro y2 s7 hy2 hy2F k7
  have n7 := k7.next
  rw [← hwe] at hy2
  have k47 : Stay s4.next s4 s7 := (k5.trans (k6.weaken n5)).trans (k7.weaken (by omega))
  simp (config := { maxSteps := 1000000, implicitDefEqProofs := false }) (disch := omega) only [allW, allR, oneOf, evalAll, partsA, optA, Nat.reduceLT, Nat.reduceLeDiff, Nat.reduceEqDiff, Nat.reduceAdd, ↓reduceIte, hn, h0, h3]
  have hP : Pieces s7 [.slice a1 b1 c1, w, .slice a3 b3 c3] [[120, 1], zbody l, be 4 (adl l)] := by
    refine Pieces.cons ?_ (Pieces.cons (hw4.keeps k47) (Pieces.cons ?_ (Pieces.nil _)))
    · exact (hp1.keeps (k6.trans (k7.weaken n6))).sees
    · rw [be_four]; exact (hp3.keeps k7).sees
  have hfl2 : [[120, 1], zbody l, be 4 (adl l)].flatten = zlb l := by
    simp [zlb]
  have hzz : (zlb l).length = (zbody l).length + 6 := by unfold zlb; simp [be_length]
  refine (join_any hj hz s7 y2 [.slice a1 b1 c1, w, .slice a3 b3 c3] [[120, 1], zbody l, be 4 (adl l)] hy2.sees hP (by show 3 ≤ 4294967296; decide) (by rw [hfl2, hzz]; omega)).mono ?_
  rintro v s8 ⟨-, hv, hvF, k8⟩
  rw [hfl2] at hv
  simp (config := { maxSteps := 1000000, implicitDefEqProofs := false }) (disch := omega) only [allW, allR, wfn_ret, wfn_normal, oneOf, evalAll, partsA, optA, Nat.reduceLT, Nat.reduceLeDiff, Nat.reduceEqDiff, Nat.reduceAdd, ↓reduceIte, hn, Try.results22]
  have hs7 : Stay s.next s s7 := (hs2.trans (k3.weaken (by omega))).trans (k47.weaken (by omega))
  exact ⟨hv (by omega), fun i hi => by have := hvF i hi; have := hs7.next; omega, hs7.trans (k8.weaken hs7.next)⟩
set_option maxHeartbeats 4000000 in
theorem rzlib_any {lib : Prims} (hl : lib.at 23 = none) (hfx : lib.at 21 = none) (hta : lib.at 28 = none) (hco : lib.at 38 = none) (hal : lib.at 39 = none) (htu : lib.at 40 = none) (hlc : lib.at 41 = none) (hdc : lib.at 42 = none) (hlp : lib.at 13 = none) (hly : lib.at 18 = none) (hlcp : lib.at 34 = none)
    (hst : lib.at 20 = none) (had : lib.at 46 = none) (hmo : lib.at 57 = none) (hbg : lib.at 45 = none)
    (s : ASt) (x : Value) (l : List UInt8) (hx : Sees s 1 x l.length (ofBytes l)) (hlen : l.length ≤ 65535) :
    Runs Try.prog lib 23 [x] s fun v s' => NewBytes s v s' (zlb l) := by
  refine Runs.enter 25 Try.func23 rfl hl rfl rfl ?_
  intro f hn hf
  have h0 : f.get 0 = x := hf 0
  clear hf
  simp (config := { maxSteps := 1000000, implicitDefEqProofs := false }) (disch := omega) only [allW, allR, oneOf, evalAll, partsA, optA, Nat.reduceLT, Nat.reduceLeDiff, Nat.reduceEqDiff, Nat.reduceAdd, ↓reduceIte, hn, h0]
  refine (rfixed_any hfx hta hco hal htu hlc hdc hlp hly hlcp s x l hx (by omega)).mono ?_
  rintro a s1 ⟨hA, hAF, k1⟩
  simp (config := { maxSteps := 1000000, implicitDefEqProofs := false }) (disch := omega) only [allW, allR, oneOf, evalAll, partsA, optA, Nat.reduceLT, Nat.reduceLeDiff, Nat.reduceEqDiff, Nat.reduceAdd, ↓reduceIte, hn, h0]
  refine (rstored_any hst s1 x l (hx.keeps k1) hlen).mono ?_
  rintro b s2 ⟨hB, hBF, k2⟩
  have n1 := k1.next
  have n2 := k2.next
  have hA2 := hA.keeps k2
  have hs2 : Stay s.next s s2 := k1.trans (k2.weaken n1)
  have hfl := fixed_length l
  have hsl := sto_length _ l (Nat.le_refl _)
  have hbk : blocks l.length ≤ 2 := by unfold blocks; omega
  have hzl := zbody_le l
  simp (config := { maxSteps := 1000000, implicitDefEqProofs := false }) (disch := omega) only [allW, allR, oneOf, evalAll, partsA, optA, Nat.reduceLT, Nat.reduceLeDiff, Nat.reduceEqDiff, Nat.reduceAdd, ↓reduceIte, hn, h0, hA2.sees.lenA Try.underlying24, hB.sees.lenA Try.underlying24]
  refine wif_cutF (fun f' s' => s2 = s' ∧ ∃ w : Value, Sees s2 1 w (zbody l).length (ofBytes (zbody l)) ∧ f'.n = 25 ∧ f'.get 0 = x ∧ f'.get 3 = w) ?_ ?_
  · intro Q' hQ'
    by_cases c : (sto l).length ≤ (fixed l).length
    · simp (config := { maxSteps := 1000000, implicitDefEqProofs := false }) (disch := omega) only [allW, allR, oneOf, evalAll, partsA, optA, Nat.reduceLT, Nat.reduceLeDiff, Nat.reduceEqDiff, Nat.reduceAdd, ↓reduceIte, hn, h0, eq_true c]
      exact hQ' _ _ ⟨rfl, b, by unfold zbody; rw [if_pos c]; exact hB.sees, by simp only [get_put, n_put, ↓reduceIte, Nat.reduceEqDiff, hn], by simp only [get_put, n_put, ↓reduceIte, Nat.reduceEqDiff, h0], by simp only [get_put, n_put, ↓reduceIte, Nat.reduceEqDiff]⟩
    · simp (config := { maxSteps := 1000000, implicitDefEqProofs := false }) (disch := omega) only [allW, allR, oneOf, evalAll, partsA, optA, Nat.reduceLT, Nat.reduceLeDiff, Nat.reduceEqDiff, Nat.reduceAdd, ↓reduceIte, hn, h0, eq_false c]
      exact hQ' _ _ ⟨rfl, a, by unfold zbody; rw [if_neg c]; exact hA2.sees, by simp only [get_put, n_put, ↓reduceIte, Nat.reduceEqDiff, hn], by simp only [get_put, n_put, ↓reduceIte, Nat.reduceEqDiff, h0], by simp only [get_put, n_put, ↓reduceIte, Nat.reduceEqDiff]⟩
  clear hn h0 f
  rintro f _ ⟨rfl, w, hw, hn, h0, h3⟩
  simp (config := { maxSteps := 1000000, implicitDefEqProofs := false }) (disch := omega) only [allW, allR, oneOf, evalAll, partsA, optA, Nat.reduceLT, Nat.reduceLeDiff, Nat.reduceEqDiff, Nat.reduceAdd, ↓reduceIte, hn, h0, h3, build2 Try.underlying24 szU8 zU8]
  refine wstep_newSlice rfl ?_
  intro y s3 hy hyF k3
  have n3 := k3.next
  have hw3 := hw.keeps k3
  simp (config := { maxSteps := 1000000, implicitDefEqProofs := false }) (disch := omega) only [allW, allR, oneOf, evalAll, partsA, optA, Nat.reduceLT, Nat.reduceLeDiff, Nat.reduceEqDiff, Nat.reduceAdd, ↓reduceIte, hn, h0, h3]
  refine wstep_append Try.underlying24 Try.underlying24 (.inl ⟨_, rfl⟩) szU8 byU8 zU8 rfl hy hw3.src (by rw [ofBytes_length, Nat.mul_one]) (by decide) (ofBytes_ok _) (by omega) (by omega) hyF n3 ?_
  intro y2 s4 hy2 hy2F k4 _ _
  have n4 := k4.next
  have hs4 : Stay s.next s s4 := hs2.trans (((k3.trans k4)).weaken (by omega))
  simp (config := { maxSteps := 1000000, implicitDefEqProofs := false }) (disch := omega) only [allW, allR, oneOf, evalAll, partsA, optA, Nat.reduceLT, Nat.reduceLeDiff, Nat.reduceEqDiff, Nat.reduceAdd, ↓reduceIte, hn, h0, h3]
  refine (radler_any had hmo s4 x l (hx.keeps hs4) (by omega)).mono ?_
  rintro _ s5 ⟨rfl, rfl⟩
  have hal2 := adl_lt l
  simp (config := { maxSteps := 1000000, implicitDefEqProofs := false }) (disch := omega) only [allW, allR, oneOf, evalAll, partsA, optA, Nat.reduceLT, Nat.reduceLeDiff, Nat.reduceEqDiff, Nat.reduceAdd, ↓reduceIte, hn, h0, h3, conv_int Try.underlying22 Try.underlying3, wrapI]
  refine (rbig_any hbg s5 (adl l) 4 (by decide) (by omega)).mono ?_
  rintro z s6 ⟨hz, hzF, k6⟩
  have n6 := k6.next
  have hbl := be_length 4 (adl l)
  have hy6 := hy2.keeps k6
  simp (config := { maxSteps := 1000000, implicitDefEqProofs := false }) (disch := omega) only [allW, allR, oneOf, evalAll, partsA, optA, Nat.reduceLT, Nat.reduceLeDiff, Nat.reduceEqDiff, Nat.reduceAdd, ↓reduceIte, hn, h0, h3]
  refine wstep_append Try.underlying24 Try.underlying24 (.inl ⟨_, rfl⟩) szU8 byU8 zU8 rfl hy6 hz.sees.src (by rw [ofBytes_length, hbl]) (by decide) (ofBytes_ok _) (by omega) (by omega) hy2F (by omega) ?_
  intro y3 s7 hy3 hy3F k7 _ _
  simp (config := { maxSteps := 1000000, implicitDefEqProofs := false }) (disch := omega) only [allW, allR, wfn_ret, wfn_normal, oneOf, evalAll, partsA, optA, Nat.reduceLT, Nat.reduceLeDiff, Nat.reduceEqDiff, Nat.reduceAdd, ↓reduceIte, hn, Try.results23]
  refine ⟨?_, fun i hi => by have := hy3F i hi; have := hs2.next; omega, ((hs4.trans (k6.weaken hs4.next)).trans (k7.weaken (by have := hs2.next; omega)))⟩
  unfold zlb
  have e2 : [Value.int .u8 120, Value.int .u8 1] = ofBytes [120, 1] := rfl
  rw [e2, hbl, List.append_assoc] at hy3
  rw [ofBytes_append, ofBytes_append]
  have e3 : ([120, 1] ++ (zbody l ++ be 4 (adl l)) : List UInt8).length = 2 + (zbody l).length + 4 := by
    simp [be_length]; omega
  rw [e3]
  exact hy3
end Go.Proofs.Ytdebapkgofddiaa
