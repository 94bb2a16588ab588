/-
  Deflate, read by the reference: blocks, wrapped.
-/
import Derived.Test.YtdebapkgofddiaaFixE
import Derived.Test.YtdebapkgofddiaaZlb
set_option linter.unusedSimpArgs false
set_option linter.unusedVariables false
namespace Go.Cl.Fx
open Go.Cl.Rw Go.Cl.Sto
theorem bit_front {l T : List UInt8} {i : Nat} (h : i < 8 * l.length) : bit (l ++ T) i = bit l i := by
  unfold bit
  rw [List.getD_eq_getElem?_getD, List.getElem?_append_left (by omega), List.getD_eq_getElem?_getD]
theorem pre_front (l T : List UInt8) : Pre (fixP l) (fixed l ++ T, 8 * (fixed l ++ T).length) := by
  have h := (fixP_ok l).1.1
  have h : (fixP l).2 ≤ 8 * (fixed l).length := h
  refine ⟨by show (fixP l).2 ≤ 8 * (fixed l ++ T).length; rw [List.length_append]; omega, fun i hi => ?_⟩
  exact bit_front (by omega)
theorem pre_head (l : List UInt8) : Pre headP (fixP l) := by
  rw [fixP_eq]
  obtain ⟨h1, h2⟩ := fixA_fine l l.length 0 headP (by omega) headP_fine
  exact h2.trans (symP_fine h1 256).2
theorem head_read (l T : List UInt8) : bitsN (fixed l ++ T) 0 1 = 1 ∧ bitsN (fixed l ++ T) 1 2 = 1 := by
  have h := (pre_head l).trans (pre_front l T)
  have b0 := h.bits 0 (by decide)
  have b1 := h.bits 1 (by decide)
  have b2 := h.bits 2 (by decide)
  have c0 : bit headP.1 0 = 1 := by decide
  have c1 : bit headP.1 1 = 1 := by decide
  have c2 : bit headP.1 2 = 0 := by decide
  rw [c0] at b0
  rw [c1] at b1
  rw [c2] at b2
  have b0 : bit (fixed l ++ T) 0 = 1 := b0
  have b1 : bit (fixed l ++ T) 1 = 1 := b1
  have b2 : bit (fixed l ++ T) 2 = 0 := b2
  constructor
  · simp only [bitsN, Nat.add_zero]; rw [b0]
  · simp only [bitsN, Nat.add_zero]; rw [b1, show 1 + 1 = 2 from rfl, b2]
theorem fixed_end (l : List UInt8) : ((fixP l).2 + 7) / 8 = (fixed l).length := by
  have h := (fixP_ok l).1
  have h1 : (fixP l).2 ≤ 8 * (fixed l).length := h.1
  have h2 : 8 * (fixed l).length < (fixP l).2 + 8 := h.2
  omega
theorem big_four {n : Nat} (h : n < 4294967296) : bigOf (be 4 n) = n := by
  have := bigOf_beTo 4 n 4 (Nat.le_refl _)
  unfold be
  rw [this]
  simp
  exact h
end Go.Cl.Fx
namespace Go.Proofs.Ytdebapkgofddiaa
open Go.Cl Go.Cl.Rw Go.Cl.Sto Go.Cl.Fx
/-- What comes of blocks. -/
def BlkR (s : ASt) (l : List UInt8) (n : Nat) (v : Value) (s' : ASt) : Prop := ∃ o, v = .tuple #[o, .int .i64 (n : Nat), .int .i64 0] ∧ Own s' 1 o l.length (ofBytes l) ∧ Fresh s.next o ∧ Stay s.next s s'
set_option maxRecDepth 100000 in
set_option maxHeartbeats 8000000 in
theorem blocksZ_any {lib : Prims} (hl : lib.at 11 = none) (hls : lib.at 27 = none) (hlt : lib.at 26 = none) (hlp : lib.at 48 = none) (hta : lib.at 28 = none) (hcd : lib.at 29 = none) (hco : lib.at 38 = none) (hsy : lib.at 49 = none) (hln : lib.at 50 = none) (hds : lib.at 51 = none)
    (s : ASt) (x : Value) (l Z T : List UInt8) (hZ : Z = fixed l ∨ Z = sto l) (hx : Sees s 1 x (Z ++ T).length (ofBytes (Z ++ T))) (hlen : l.length ≤ 65535) (hT : T.length ≤ 1000) (M : Int) (hM : (l.length : Int) ≤ M) :
    Runs Try.prog lib 11 [x, .int .i64 M] s (BlkR s l Z.length) := by
  have hfl := fixed_length l
  have hsl := sto_length _ l (Nat.le_refl _)
  have hbk : blocks l.length ≤ 2 := by unfold blocks; omega
  obtain ⟨D, hD⟩ : ∃ D, D = Z ++ T := ⟨_, rfl⟩
  rw [← hD] at hx
  have hDl0 : D.length = Z.length + T.length := by rw [hD, List.length_append]
  have hZl : Z.length ≤ 200000 := by rcases hZ with e | e <;> rw [e] <;> omega
  have hDlen : D.length ≤ 1000000000 := by omega
  have hM0 : ¬ M < 0 := by omega
  refine Runs.enter 121 Try.func11 rfl hl rfl rfl ?_
  intro f hn hf
  have h0 : f.get 0 = x := hf 0
  have h1 : f.get 1 = .int .i64 M := hf 1
  clear hf
  simp (config := { maxSteps := 1000000, implicitDefEqProofs := false }) (disch := omega) only [allW, allR, oneOf, evalAll, partsA, optA, Nat.reduceLT, Nat.reduceLeDiff, Nat.reduceEqDiff, Nat.reduceAdd, ↓reduceIte, hn, h0, h1, bBits hx.cell1]
  refine wstep_newPtr ?_
  intro s1 hb1 hst1 hn1
  obtain ⟨jb, hjb⟩ : ∃ j, j = s.next := ⟨_, rfl⟩
  rw [← hjb] at hb1
  simp (config := { maxSteps := 1000000, implicitDefEqProofs := false }) (disch := omega) only [allW, allR, oneOf, evalAll, partsA, optA, Nat.reduceLT, Nat.reduceLeDiff, Nat.reduceEqDiff, Nat.reduceAdd, ↓reduceIte, hn, h0, h1, ← hjb, List.length_cons, List.length_nil, eq_false hM0, bFlow]
  refine wstep_newPtr ?_
  intro s2 hf2 hst2 hn2
  obtain ⟨jf, hjf⟩ : ∃ j, j = s1.next := ⟨_, rfl⟩
  rw [← hjf] at hf2
  have hb2 := hb1.keeps hst2
  have hst12 : Stay s.next s s2 := hst1.trans (hst2.weaken (by omega))
  have hF0 : Fl s.next s2 jf jb D 0 [] M x (.slice none 0 0) := ⟨hb2, hf2, (hx.low).stay hst12, .nil, Fresh.nil _, (fun e => by cases e), (fun e => by cases e), by omega, by omega, by omega⟩
  simp (config := { maxSteps := 1000000, implicitDefEqProofs := false }) (disch := omega) only [allW, allR, oneOf, evalAll, partsA, optA, Nat.reduceLT, Nat.reduceLeDiff, Nat.reduceEqDiff, Nat.reduceAdd, ↓reduceIte, hn, h0, h1, ← hjf, List.length_cons, List.length_nil]
  refine Comes.loopAt (fun q f s' => q = 0 ∧ s2 = s' ∧ f.n = 121 ∧ f.get 7 = bptr jf)
    ⟨rfl, rfl, by simp only [get_put, n_put, ↓reduceIte, Nat.reduceEqDiff, hn], by simp only [get_put, n_put, ↓reduceIte, Nat.reduceEqDiff]⟩ ?_
  clear hn h0 h1 f
  rintro q f _ ⟨rfl, rfl, hn, h7⟩
  have w0 := hF0.f.load (P := Try.prog) agBitsP (off := 0) (c := 4) rfl (by simp)
  have l2 := hF0.b.load (P := Try.prog) agInt (off := 2) (c := 4) rfl (by simp)
  have hD1 : 1 ≤ D.length := by
    rcases hZ with e | e
    · have h2 : (fixP l).2 ≤ 8 * (fixed l).length := (fixP_ok l).1.1
      have h3 := (pre_head l).le
      have h4 := headP_ok.2
      rw [hDl0, e]; omega
    · rw [hDl0, e, hsl]; unfold blocks; omega
  simp (config := { maxSteps := 1000000, implicitDefEqProofs := false }) (disch := omega) only [allW, allR, oneOf, evalAll, partsA, optA, Nat.reduceLT, Nat.reduceLeDiff, Nat.reduceEqDiff, Nat.reduceAdd, ↓reduceIte, hn, h7, wfld0, tfld2, w0, l2, decide_true]
  refine (takeT_any hlt s.next s2 jf jb D [] 0 1 M x _ hF0 (by omega) (by omega) hDlen).mono ?_
  rintro _ s3 ⟨rfl, hF3, to3⟩
  have w0 := hF3.f.load (P := Try.prog) agBitsP (off := 0) (c := 4) rfl (by simp)
  simp (config := { maxSteps := 1000000, implicitDefEqProofs := false }) (disch := omega) only [allW, allR, oneOf, evalAll, partsA, optA, Nat.reduceLT, Nat.reduceLeDiff, Nat.reduceEqDiff, Nat.reduceAdd, ↓reduceIte, hn, h7, wfld0, w0]
  refine (takeT_any hlt s.next s3 jf jb D [] (0 + 1) 2 M x _ hF3 (by omega) (by omega) hDlen).mono ?_
  rintro _ s4 ⟨rfl, hF4, to4⟩
  have to4 := to3.trans to4
  have n12 := hst12.next
  have hs4 : Stay s.next s s4 := hst12.trans (to4.stay (by omega) (by omega) (Fresh.nil _) n12)
  have n4 := hs4.next
  have w0 := hF4.f.load (P := Try.prog) agBitsP (off := 0) (c := 4) rfl (by simp)
  have l2 := hF4.b.load (P := Try.prog) agInt (off := 2) (c := 4) rfl (by simp)
  rcases hZ with hZ | hZ
  · subst hZ
    obtain ⟨r1, r2⟩ := head_read l T
    rw [← hD] at r1 r2
    rw [r1, r2]
    have e1 : ((1 : Nat) : Int) = 1 := rfl
    simp (config := { maxSteps := 1000000, implicitDefEqProofs := false }) (disch := omega) only [allW, allR, oneOf, evalAll, partsA, optA, Nat.reduceLT, Nat.reduceLeDiff, Nat.reduceEqDiff, Nat.reduceAdd, ↓reduceIte, hn, h7, e1, eq_false (show ¬ (1 : Int) = 0 by decide), wfld0, tfld2, w0, l2, not_true_eq_false, decide_false, decide_true]
    refine (tables_any hta s4).mono ?_
    rintro _ s5 ⟨ta, td, rfl, hA, hB, hAF, hBF, k5⟩
    have hjf4 := hF4.f.lt
    have hjb4 := hF4.b.lt
    have pA : ApartF jf jb (.slice none 0 0) ta := fun i hi => ⟨by have := hAF i hi; omega, by have := hAF i hi; omega, fun e => by cases e⟩
    have pB : ApartF jf jb (.slice none 0 0) td := fun i hi => ⟨by have := hBF i hi; omega, by have := hBF i hi; omega, fun e => by cases e⟩
    have hF5 : Fl s.next s5 jf jb D 3 [] M x (.slice none 0 0) := ⟨hF4.b.keeps k5, hF4.f.keeps k5, hF4.low.stay (k5.weaken n4), hF4.own.keeps k5, hF4.fresh, hF4.nb, hF4.nf, hF4.ne, hF4.lb, hF4.lf⟩
    have n5 := k5.next
    simp (config := { maxSteps := 1000000, implicitDefEqProofs := false }) (disch := omega) only [allW, allR, oneOf, evalAll, partsA, optA, Nat.reduceLT, Nat.reduceLeDiff, Nat.reduceEqDiff, Nat.reduceAdd, ↓reduceIte, hn, h7, ext0F', ext1F']
    refine (coded_any hcd hco hsy hlt hlp hln hds s.next s5 jf jb D M x _ l (8 * D.length) hF5 hDlen hM (by omega) (by omega) ta td hA hB pA pB (by rw [hD]; exact pre_front l T) (Nat.le_refl _)).mono ?_
    rintro _ s6 ⟨o', hF6, k6⟩
    have w0 := hF6.f.load (P := Try.prog) agBitsP (off := 0) (c := 4) rfl (by simp)
    have w1 := hF6.f.load (P := Try.prog) agSl (off := 1) (c := 4) rfl (by simp)
    have l1 := hF6.b.load (P := Try.prog) agInt (off := 1) (c := 4) rfl (by simp)
    have l2 := hF6.b.load (P := Try.prog) agInt (off := 2) (c := 4) rfl (by simp)
    have hfe := fixed_end l
    have e7 : ((fixP l).2 : Int) + 7 = (((fixP l).2 + 7 : Nat) : Int) := by omega
    simp (config := { maxSteps := 1000000, implicitDefEqProofs := false }) (disch := omega) only [allW, allR, wfn_ret, wfn_normal, oneOf, evalAll, partsA, optA, Nat.reduceLT, Nat.reduceLeDiff, Nat.reduceEqDiff, Nat.reduceAdd, ↓reduceIte, undef, hn, h7, wfld0, wfld1, tfld1, tfld2, w0, w1, l1, l2, decide_true, hF6.own.self, wrapI, e7, bin_quo, quo8, hfe, Try.results11]
    exact ⟨o', rfl, hF6.own, hF6.fresh, (hs4.trans (k5.weaken n4)).trans k6⟩
  · subst hZ
    rw [sto_last hlen] at hD
    have g0 : D.getD 0 0 = UInt8.ofNat 1 := by rw [hD]; rfl
    have g1 : D.getD 1 0 = UInt8.ofNat l.length := by rw [hD]; rfl
    have g2 : D.getD (1 + 1) 0 = UInt8.ofNat (l.length / 256) := by rw [hD]; rfl
    have g3 : D.getD (1 + 2) 0 = UInt8.ofNat (255 - l.length % 256) := by rw [hD]; rfl
    have g4 : D.getD (1 + 3) 0 = UInt8.ofNat (255 - l.length / 256 % 256) := by rw [hD]; rfl
    have r1 : bitsN D 0 1 = 1 := by
      have := bits1 D 0
      rw [Nat.mul_zero] at this
      rw [this, g0]; rfl
    have r2 : bitsN D (0 + 1) 2 = 0 := by
      have := bits2 D 0
      rw [Nat.mul_zero] at this
      rw [this, g0]; rfl
    rw [r1, r2]
    have e1 : ((1 : Nat) : Int) = 1 := rfl
    have e0 : ((0 : Nat) : Int) = 0 := rfl
    have hdl : (D.drop (1 + 4)).take l.length = l := by
      rw [hD]
      show ((l ++ T)).take l.length = l
      rw [List.take_left]
    have hsl1 : (sto l).length = 5 + l.length := by rw [sto_last hlen, List.length_append, hdr_length]
    simp (config := { maxSteps := 1000000, implicitDefEqProofs := false }) (disch := omega) only [allW, allR, oneOf, evalAll, partsA, optA, Nat.reduceLT, Nat.reduceLeDiff, Nat.reduceEqDiff, Nat.reduceAdd, ↓reduceIte, hn, h7, e0, e1, wfld0, tfld2, w0, l2, not_true_eq_false, decide_false, decide_true]
    refine (fstored_any hls hlt hlp s.next s4 jf jb D [] (0 + 1 + 2) 1 l.length M ⟨_, _, hF4⟩ (by omega) (by omega) g1 g2 g3 g4 (by omega) hDlen (by simp; omega) (by simp; omega) n4).mono ?_
    rintro _ s6 ⟨⟨bv6, o', hF6⟩, k6⟩
    rw [hdl, List.nil_append] at hF6
    have w0 := hF6.f.load (P := Try.prog) agBitsP (off := 0) (c := 4) rfl (by simp)
    have w1 := hF6.f.load (P := Try.prog) agSl (off := 1) (c := 4) rfl (by simp)
    have l1 := hF6.b.load (P := Try.prog) agInt (off := 1) (c := 4) rfl (by simp)
    have l2 := hF6.b.load (P := Try.prog) agInt (off := 2) (c := 4) rfl (by simp)
    have hfe : (8 * (1 + 4 + l.length) + 7) / 8 = (sto l).length := by omega
    have e7 : ((8 * (1 + 4 + l.length) : Nat) : Int) + 7 = ((8 * (1 + 4 + l.length) + 7 : Nat) : Int) := by omega
    simp (config := { maxSteps := 1000000, implicitDefEqProofs := false }) (disch := omega) only [allW, allR, wfn_ret, wfn_normal, oneOf, evalAll, partsA, optA, Nat.reduceLT, Nat.reduceLeDiff, Nat.reduceEqDiff, Nat.reduceAdd, ↓reduceIte, undef, hn, h7, wfld0, wfld1, tfld1, tfld2, w0, w1, l1, l2, decide_true, hF6.own.self, wrapI, e7, bin_quo, quo8, hfe, Try.results11]
    exact ⟨o', rfl, hF6.own, hF6.fresh, hs4.trans k6⟩
end Go.Proofs.Ytdebapkgofddiaa
