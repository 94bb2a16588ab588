/-
  Blocks of bytes as they are: written by the program and by the reference.
-/
import Derived.Test.YtdebapkgofddiaaCopy
import Derived.Test.YtdebapkgofddiaaStoP
set_option linter.unusedSimpArgs false
set_option linter.unusedVariables false
namespace Go.Proofs.Ytdebapkgofddiaa
open Go.Cl Go.Cl.Sto
theorem flag_any {lib : Prims} (hl : lib.at 25 = none) (s : ASt) (b : Bool) :
    Runs Try.prog lib 25 [.bool b] s fun v s' => v = .int .i64 (if b then 1 else 0) ∧ s' = s := by
  refine Runs.enter 4 Try.func25 rfl hl rfl rfl ?_
  intro f hn hf
  have h0 : f.get 0 = .bool b := hf 0
  clear hf
  cases b with
  | true => simp (config := { maxSteps := 1000000, implicitDefEqProofs := false }) (disch := omega) only [allW, allR, wfn_ret, wfn_normal, oneOf, evalAll, partsA, optA, Nat.reduceLT, Nat.reduceLeDiff, Nat.reduceEqDiff, Nat.reduceAdd, ↓reduceIte, hn, h0, Try.results25]
  | false => simp (config := { maxSteps := 1000000, implicitDefEqProofs := false }) (disch := omega) only [allW, allR, wfn_ret, wfn_normal, oneOf, evalAll, partsA, optA, Nat.reduceLT, Nat.reduceLeDiff, Nat.reduceEqDiff, Nat.reduceAdd, ↓reduceIte, hn, h0, Try.results25]
theorem bFlag (b : Nat) (h : b < 2) : IntKind.u8.wrap (b : Int) = ((UInt8.ofNat b).toNat : Int) := by rw [wrapu8, UInt8.toNat_ofNat']; omega

set_option maxRecDepth 100000 in
set_option maxHeartbeats 4000000 in
theorem stored_any {lib : Prims} (hl : lib.at 10 = none) (hlf : lib.at 25 = none) (s : ASt) (x : Value) (l : List UInt8) (hx : Sees s 1 x l.length (ofBytes l)) (hlen : l.length ≤ 1000000000) :
    Runs Try.prog lib 10 [x] s fun v s' => NewBytes s v s' (sto l) := by
  refine Runs.enter 41 Try.func10 rfl hl rfl rfl ?_
  intro f hn hf
  have h0 : f.get 0 = x := hf 0
  clear hf
  have hbl : blocks l.length ≤ 200000 := by unfold blocks; omega
  simp (config := { maxSteps := 1000000, implicitDefEqProofs := false }) (disch := omega) only [allW, allR, oneOf, evalAll, partsA, optA, Nat.reduceLT, Nat.reduceLeDiff, Nat.reduceEqDiff, Nat.reduceAdd, ↓reduceIte, hn, h0]
  refine Comes.loopAt (fun q f s' => ∃ (r P : List UInt8) (o w : Value), q = r.length ∧ P ++ sto r = sto l ∧ r.length ≤ l.length ∧ Own s' 1 o P.length (ofBytes P) ∧ Fresh s.next o ∧ Sees s' 1 w r.length (ofBytes r) ∧ (∀ s2, Stay s.next s s2 → Sees s2 1 w r.length (ofBytes r)) ∧ Stay s.next s s' ∧ f.n = 41 ∧ f.get 0 = w ∧ f.get 3 = o)
    ⟨l, [], _, x, rfl, rfl, by omega, .nil, Fresh.nil _, hx, fun s2 h2 => hx.keeps h2, Stay.refl _ _, by simp only [get_put, n_put, ↓reduceIte, Nat.reduceEqDiff, hn], by simp only [get_put, n_put, ↓reduceIte, Nat.reduceEqDiff, h0], by simp only [get_put, n_put, ↓reduceIte, Nat.reduceEqDiff]⟩ ?_
  clear hn h0 f
  rintro q f s1 ⟨r, P, o, w, rfl, hP, hrl, ho, hoF, hw, hwA, hst, hn, h0, h3⟩
  have hsl := sto_length _ l (Nat.le_refl _)
  have hsr := sto_length _ r (Nat.le_refl _)
  have hPl : P.length + (sto r).length = l.length + 5 * blocks l.length := by rw [← hsl, ← hP, List.length_append]
  by_cases hbig : r.length ≤ 65535
  · have e1 : ¬ (65535 : Int) < r.length := by omega
    have hn64 : r.length < 4611686018427387904 := by omega
    simp (config := { maxSteps := 1000000, implicitDefEqProofs := false }) (disch := omega) only [allW, allR, oneOf, evalAll, partsA, optA, Nat.reduceLT, Nat.reduceLeDiff, Nat.reduceEqDiff, Nat.reduceAdd, ↓reduceIte, hn, h0, h3, hw.lenA Try.underlying24, hw.self, ho.self, e1]
    refine (flag_any hlf s1 true).mono ?_
    rintro _ s2 ⟨rfl, hs2⟩
    subst hs2
    have eb : IntKind.u8.wrap 1 = ((UInt8.ofNat 1).toNat : Int) := rfl
    simp (config := { maxSteps := 1000000, implicitDefEqProofs := false }) (disch := omega) only [allW, allR, oneOf, evalAll, partsA, optA, Nat.reduceLT, Nat.reduceLeDiff, Nat.reduceEqDiff, Nat.reduceAdd, ↓reduceIte, hn, h0, h3, conv_int Try.underlying3 Try.underlying5, eb, b0, shr8, fdiv256, b1, notI, b2, b3, build5 Try.underlying24 szU8 zU8]
    refine wstep_append_lit Try.underlying24 szU8 byU8 zU8 rfl ho (by simp only [get_put, n_put, ↓reduceIte, Nat.reduceEqDiff, h3]) (by decide) (by simp only [get_put, n_put, ↓reduceIte, Nat.reduceEqDiff, hn]; decide) (by simp only [get_put, n_put, ↓reduceIte, Nat.reduceEqDiff, hn]; decide) (by rfl) (by decide) rfl (by omega) (by omega) hoF hst.next ?_
    intro bs o2 s3 ho2 hoF2 hst3 _ _
    have hst3' := hst.trans hst3
    have hw3 := hwA s3 hst3'
    have hcut := hw3.cutB (lo := 0) (hi := r.length) (by omega) (by omega)
    rw [List.drop_zero, Nat.sub_zero] at hcut
    have htl : (r.take (r.length)).length = r.length := by rw [List.length_take]; omega
    rw [htl] at hcut
    simp (config := { maxSteps := 1000000, implicitDefEqProofs := false }) (disch := omega) only [allW, allR, oneOf, evalAll, partsA, optA, Nat.reduceLT, Nat.reduceLeDiff, Nat.reduceEqDiff, Nat.reduceAdd, ↓reduceIte, hn, h0, h3, hw3.sliceHigh Try.underlying24 szU8, ho2.self]
    refine wstep_append Try.underlying24 Try.underlying24 (.inl ⟨_, rfl⟩) szU8 byU8 zU8 rfl ho2 hcut.src (by rw [ofBytes_length, htl, Nat.mul_one]) (by decide) (ofBytes_ok _) (by omega) (by omega) hoF2 hst3'.next ?_
    intro o4 s4 ho4 hoF4 hst4 _ _
    have hh : [Value.int .u8 (((UInt8.ofNat 1).toNat : Nat) : Int), Value.int .u8 (((UInt8.ofNat (r.length)).toNat : Nat) : Int), Value.int .u8 (((UInt8.ofNat (r.length / 256)).toNat : Nat) : Int), Value.int .u8 (((UInt8.ofNat (255 - r.length % 256)).toNat : Nat) : Int), Value.int .u8 (((UInt8.ofNat (255 - r.length / 256 % 256)).toNat : Nat) : Int)] = ofBytes (hdr (r.length) 1) := rfl
    rw [hh] at ho4
    have hst4' := hst3'.trans hst4
    have hw4 := hwA s4 hst4'
    have hcut2 := hw4.cutB (lo := r.length) (hi := r.length) (by omega) (by omega)
    rw [List.drop_length, List.take_nil] at hcut2
    have e2 : ((([] : List UInt8).length : Nat) : Int) = 0 := rfl
    simp (config := { maxSteps := 1000000, implicitDefEqProofs := false }) (disch := omega) only [allW, allR, wfn_ret, wfn_normal, oneOf, evalAll, partsA, optA, Nat.reduceLT, Nat.reduceLeDiff, Nat.reduceEqDiff, Nat.reduceAdd, ↓reduceIte, hn, h0, h3, hw4.sliceLow Try.underlying24 szU8, hcut2.lenA Try.underlying24, e2, Try.results10]
    refine ⟨?_, hoF4, hst4'⟩
    rw [← hP, sto_last hbig, List.length_append, List.length_append, hdr_length, ofBytes_append, ofBytes_append, ← List.append_assoc, ← Nat.add_assoc]
    rw [List.take_length] at ho4
    exact ho4
  · have e1 : (65535 : Int) < r.length := by omega
    have e0 : ¬ ((65535 : Int) = r.length) := by omega
    obtain ⟨m, hm⟩ : ∃ m : Nat, m = 65535 := ⟨_, rfl⟩
    have hn64 : m < 4611686018427387904 := by omega
    simp (config := { maxSteps := 1000000, implicitDefEqProofs := false }) (disch := omega) only [allW, allR, oneOf, evalAll, partsA, optA, Nat.reduceLT, Nat.reduceLeDiff, Nat.reduceEqDiff, Nat.reduceAdd, ↓reduceIte, hn, h0, h3, hw.lenA Try.underlying24, hw.self, ho.self, e1, eq_false e0]
    refine (flag_any hlf s1 false).mono ?_
    rintro _ s2 ⟨rfl, hs2⟩
    subst hs2
    have eb : IntKind.u8.wrap 0 = ((UInt8.ofNat 0).toNat : Int) := rfl
    have en : (65535 : Int) = (m : Int) := by omega
    simp (config := { maxSteps := 1000000, implicitDefEqProofs := false }) (disch := omega) only [allW, allR, oneOf, evalAll, partsA, optA, Nat.reduceLT, Nat.reduceLeDiff, Nat.reduceEqDiff, Nat.reduceAdd, ↓reduceIte, hn, h0, h3, en]
    simp (config := { maxSteps := 1000000, implicitDefEqProofs := false }) (disch := omega) only [allW, allR, oneOf, evalAll, partsA, optA, Nat.reduceLT, Nat.reduceLeDiff, Nat.reduceEqDiff, Nat.reduceAdd, ↓reduceIte, hn, h0, h3, conv_int Try.underlying3 Try.underlying5, eb, b0, shr8, fdiv256, b1, notI, b2, b3, build5 Try.underlying24 szU8 zU8]
    refine wstep_append_lit Try.underlying24 szU8 byU8 zU8 rfl ho (by simp only [get_put, n_put, ↓reduceIte, Nat.reduceEqDiff, h3]) (by decide) (by simp only [get_put, n_put, ↓reduceIte, Nat.reduceEqDiff, hn]; decide) (by simp only [get_put, n_put, ↓reduceIte, Nat.reduceEqDiff, hn]; decide) (by rfl) (by decide) rfl (by omega) (by omega) hoF hst.next ?_
    intro bs o2 s3 ho2 hoF2 hst3 _ _
    have hst3' := hst.trans hst3
    have hw3 := hwA s3 hst3'
    have hcut := hw3.cutB (lo := 0) (hi := m) (by omega) (by omega)
    rw [List.drop_zero, Nat.sub_zero] at hcut
    have htl : (r.take (m)).length = m := by rw [List.length_take]; omega
    rw [htl] at hcut
    simp (config := { maxSteps := 1000000, implicitDefEqProofs := false }) (disch := omega) only [allW, allR, oneOf, evalAll, partsA, optA, Nat.reduceLT, Nat.reduceLeDiff, Nat.reduceEqDiff, Nat.reduceAdd, ↓reduceIte, hn, h0, h3, hw3.sliceHigh Try.underlying24 szU8, ho2.self]
    refine wstep_append Try.underlying24 Try.underlying24 (.inl ⟨_, rfl⟩) szU8 byU8 zU8 rfl ho2 hcut.src (by rw [ofBytes_length, htl, Nat.mul_one]) (by decide) (ofBytes_ok _) (by omega) (by omega) hoF2 hst3'.next ?_
    intro o4 s4 ho4 hoF4 hst4 _ _
    have hh : [Value.int .u8 (((UInt8.ofNat 0).toNat : Nat) : Int), Value.int .u8 (((UInt8.ofNat (m)).toNat : Nat) : Int), Value.int .u8 (((UInt8.ofNat (m / 256)).toNat : Nat) : Int), Value.int .u8 (((UInt8.ofNat (255 - m % 256)).toNat : Nat) : Int), Value.int .u8 (((UInt8.ofNat (255 - m / 256 % 256)).toNat : Nat) : Int)] = ofBytes (hdr (m) 0) := rfl
    rw [hh] at ho4
    have hst4' := hst3'.trans hst4
    have hw4 := hwA s4 hst4'
    have hcut2 := hw4.cutB (lo := m) (hi := r.length) (by omega) (by omega)
    have et : (r.drop m).take (r.length - m) = r.drop m := List.take_of_length_le (by rw [List.length_drop]; omega)
    rw [et] at hcut2
    have hne : ¬ (((r.drop m).length : Nat) : Int) = 0 := by rw [List.length_drop]; omega
    simp (config := { maxSteps := 1000000, implicitDefEqProofs := false }) (disch := omega) only [allW, allR, oneOf, evalAll, partsA, optA, Nat.reduceLT, Nat.reduceLeDiff, Nat.reduceEqDiff, Nat.reduceAdd, ↓reduceIte, hn, h0, h3, hw4.sliceLow Try.underlying24 szU8, hcut2.lenA Try.underlying24, eq_false hne]
    refine wround_next (r.drop m).length (by rw [List.length_drop]; omega) ⟨r.drop m, P ++ (hdr m 0 ++ r.take m), o4, cutS 1 w m r.length, rfl, ?_, by rw [List.length_drop]; omega, ?_, hoF4, hcut2, fun s2 h2 => ?_, hst4', by simp only [get_put, n_put, ↓reduceIte, Nat.reduceEqDiff, hn], by simp only [get_put, n_put, ↓reduceIte, Nat.reduceEqDiff], by simp only [get_put, n_put, ↓reduceIte, Nat.reduceEqDiff]⟩
    · rw [← hP, sto_more hbig, ← hm, List.append_assoc]
    · rw [ofBytes_append, ofBytes_append, List.length_append, List.length_append, hdr_length, htl, ← List.append_assoc, ← Nat.add_assoc]
      exact ho4
    · have := (hwA s2 h2).cutB (lo := m) (hi := r.length) (by omega) (by omega)
      rw [et] at this
      exact this
end Go.Proofs.Ytdebapkgofddiaa
