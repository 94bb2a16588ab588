/-
  Blocks of bytes as they are, read by the reference, all.
-/
import Derived.Test.YtnclklboogdoiaaInfl
set_option linter.unusedSimpArgs false
set_option linter.unusedVariables false
set_option maxRecDepth 100000
namespace Go.Proofs.Ytnclklboogdoiaa
open Go.Cl Go.Cl.Sto Go.Cl.Rw
theorem bBits {v : Value} (hv : v.cells.toList = [v]) : buildA Try.prog 60 [(0, v)] = some (.agg #[v, .int .i64 0, .int .i64 0]) := by
  unfold buildA; rw [Try.underlying60]
  have hz : zeroB Try.prog 60 = some (.agg #[.slice none 0 0, .int .i64 0, .int .i64 0]) := by kernel_rfl
  rw [hz]
  simp only [fillA, placeOf, hv]
  simp [szSl, szInt, plainV, plain1, cells_agg, setAt]
theorem bFlow (j : Nat) (m : Int) : buildA Try.prog 62 [(0, bptr j), (2, .int .i64 m)] = some (.agg #[bptr j, .slice none 0 0, .int .i64 m]) := by
  unfold buildA; rw [Try.underlying62]
  have hz : zeroB Try.prog 62 = some (.agg #[.pointer none, .slice none 0 0, .int .i64 0]) := by kernel_rfl
  rw [hz]
  have c1 : (bptr j).cells.toList = [bptr j] := rfl
  have c2 : (Value.int .i64 m).cells.toList = [.int .i64 m] := rfl
  simp only [fillA, placeOf, c1, c2]
  simp [szBitsP, szSl, szInt, plainV, plain1, cells_agg, setAt]
theorem getD_of {D X : List UInt8} {a : Nat} (h : D.drop a = X) (j : Nat) : D.getD (a + j) 0 = X.getD j 0 := by
  rw [List.getD_eq_getElem?_getD, ← List.getElem?_drop, h, List.getD_eq_getElem?_getD]
/-- A block's bytes. -/
theorem block_of (r : List UInt8) (hr : r.length ≤ 1000000000) : ∃ n last R, n = min r.length 65535 ∧ (last = if r.length ≤ 65535 then 1 else 0) ∧ sto r = hdr n last ++ (r.take n ++ R) ∧ (r.length ≤ 65535 → R = []) ∧ (¬ r.length ≤ 65535 → R = sto (r.drop n)) := by
  by_cases h : r.length ≤ 65535
  · refine ⟨r.length, 1, [], by omega, by rw [if_pos h], ?_, fun _ => rfl, fun q => absurd h q⟩
    rw [sto_last h, List.take_length, List.append_nil]
  · refine ⟨65535, 0, sto (r.drop 65535), by omega, by rw [if_neg h], ?_, fun q => absurd q h, fun _ => rfl⟩
    rw [sto_more h, List.append_assoc]

set_option maxRecDepth 100000 in
set_option maxHeartbeats 4000000 in
theorem blocks_any {lib : Prims} (hl : lib.at 20 = none) (hls : lib.at 33 = none) (hlt : lib.at 32 = none) (hlp : lib.at 57 = none) (s : ASt) (x : Value) (l : List UInt8) (M : Int) (hx : Sees s 1 x (sto l).length (ofBytes (sto l))) (hM : (l.length : Int) ≤ M) (hlen : l.length ≤ 100000000) :
    Runs Try.prog lib 20 [x, .int .i64 M] s fun v s' => ∃ o, v = .tuple #[o, .int .i64 (sto l).length, .int .i64 0] ∧ Own s' 1 o l.length (ofBytes l) ∧ Fresh s.next o ∧ Stay s.next s s' := by
  obtain ⟨D, hD⟩ : ∃ D, D = sto l := ⟨_, rfl⟩
  have hDl := sto_length _ l (Nat.le_refl _)
  rw [← hD] at hx hDl ⊢
  have hDlen : D.length ≤ 1000000000 := by rw [hDl]; unfold blocks; omega
  have hM0 : ¬ M < 0 := by omega
  refine Runs.enter 121 Try.func20 rfl hl rfl rfl ?_
  intro f hn hf
  have h0 : f.get 0 = x := hf 0
  have h1 : f.get 1 = .int .i64 M := hf 1
  clear hf
  simp (config := { maxSteps := 1000000, implicitDefEqProofs := false }) (disch := omega) only [allW, allR, oneOf, evalAll, partsA, optA, Nat.reduceLT, Nat.reduceLeDiff, Nat.reduceEqDiff, Nat.reduceAdd, ↓reduceIte, hn, h0, h1, bBits hx.cell1]
  refine wstep_newPtr ?_
  intro s1 hb1 hst1 hn1
  obtain ⟨jb, hjb⟩ : ∃ j, j = s.next := ⟨_, rfl⟩
  rw [← hjb] at hb1
  simp (config := { maxSteps := 1000000, implicitDefEqProofs := false }) (disch := omega) only [allW, allR, oneOf, evalAll, partsA, optA, Nat.reduceLT, Nat.reduceLeDiff, Nat.reduceEqDiff, Nat.reduceAdd, ↓reduceIte, hn, h0, h1, ← hjb, List.length_cons, List.length_nil, eq_false hM0, bFlow]
  refine wstep_newPtr ?_
  intro s2 hf2 hst2 hn2
  obtain ⟨jf, hjf⟩ : ∃ j, j = s1.next := ⟨_, rfl⟩
  rw [← hjf] at hf2
  have hb2 := hb1.keeps hst2
  have hst12 : Stay s.next s s2 := hst1.trans (hst2.weaken (by omega))
  have hF0 : Flow s.next s2 jf jb D (8 * 0) [] M := ⟨x, .slice none 0 0, hb2, hf2, (hx.low).stay hst12, .nil, Fresh.nil _, (fun e => by cases e), (fun e => by cases e), by omega, by omega, by omega⟩
  simp (config := { maxSteps := 1000000, implicitDefEqProofs := false }) (disch := omega) only [allW, allR, oneOf, evalAll, partsA, optA, Nat.reduceLT, Nat.reduceLeDiff, Nat.reduceEqDiff, Nat.reduceAdd, ↓reduceIte, hn, h0, h1, ← hjf, List.length_cons, List.length_nil]
  refine Comes.loopAt (fun q f s' => ∃ (r P : List UInt8) (a : Nat), q = r.length ∧ Flow s.next s' jf jb D (8 * a) P M ∧ D.drop a = sto r ∧ P ++ r = l ∧ Stay s.next s s' ∧ f.n = 121 ∧ f.get 7 = bptr jf)
    ⟨l, [], 0, rfl, hF0, by rw [List.drop_zero]; exact hD, rfl, hst12, by simp only [get_put, n_put, ↓reduceIte, Nat.reduceEqDiff, hn], by simp only [get_put, n_put, ↓reduceIte, Nat.reduceEqDiff]⟩ ?_
  clear hn h0 h1 f hF0 hb1 hb2 hf2 hst1 hst2 hst12 hn1 hn2 hjf s1 s2
  rintro q f s1 ⟨r, P, a, rfl, ⟨bv, o, h1⟩, hdr', hPr, hst, hn, h7⟩
  have hrl : r.length + P.length = l.length := by rw [← hPr, List.length_append]; omega
  obtain ⟨n, last, R, hnn, hlast, hsto, hR1, hR2⟩ := block_of r (by omega)
  have hsl := sto_length _ r (Nat.le_refl _)
  have hDa : D.length - a = (sto r).length := by rw [← hdr', List.length_drop]
  have hnr : n ≤ r.length := by omega
  have hbk : 1 ≤ blocks r.length := by unfold blocks; omega
  have haD : a + 5 + n ≤ D.length := by omega
  rw [hsto] at hdr'
  have d0 := getD_of hdr' 0
  have d1 := getD_of hdr' 1
  have d2 := getD_of hdr' 2
  have d3 := getD_of hdr' 3
  have d4 := getD_of hdr' 4
  rw [Nat.add_zero] at d0
  have e0 : D.getD a 0 = UInt8.ofNat last := d0
  have e1 : D.getD (a + 1) 0 = UInt8.ofNat n := d1
  have e2 : D.getD (a + 1 + 1) 0 = UInt8.ofNat (n / 256) := d2
  have e3 : D.getD (a + 1 + 2) 0 = UInt8.ofNat (255 - n % 256) := d3
  have e4 : D.getD (a + 1 + 3) 0 = UInt8.ofNat (255 - n / 256 % 256) := d4
  have hl2 : last < 2 := by rw [hlast]; split <;> omega
  have b1v : bitsN D (8 * a) 1 = last := by rw [bits1, e0, UInt8.toNat_ofNat']; omega
  have b2v : bitsN D (8 * a + 1) 2 = 0 := by rw [bits2, e0, UInt8.toNat_ofNat']; omega
  have htake : (D.drop (a + 1 + 4)).take n = r.take n := by
    rw [show a + 1 + 4 = a + 5 by omega, ← List.drop_drop, hdr']
    show ((r.take n ++ R)).take n = _
    have : (r.take n).length = n := by rw [List.length_take]; omega
    rw [List.take_append_of_le_length (by omega), List.take_of_length_le (by omega)]
  have hdrop : D.drop (a + 5 + n) = R := by
    rw [← List.drop_drop, ← List.drop_drop, hdr']
    show ((r.take n ++ R)).drop n = _
    have : (r.take n).length = n := by rw [List.length_take]; omega
    rw [List.drop_append_of_le_length (by omega), List.drop_of_length_le (by omega), List.nil_append]
  have w0 := h1.f.load (P := Try.prog) agBitsP (off := 0) (c := 4) rfl (by simp)
  have l2 := h1.b.load (P := Try.prog) agInt (off := 2) (c := 4) rfl (by simp)
  simp (config := { maxSteps := 1000000, implicitDefEqProofs := false }) (disch := omega) only [allW, allR, oneOf, evalAll, partsA, optA, Nat.reduceLT, Nat.reduceLeDiff, Nat.reduceEqDiff, Nat.reduceAdd, ↓reduceIte, hn, h7, wfld0, tfld2, w0, l2]
  refine (take_any hlt s.next s1 jf jb D P (8 * a) 1 M ⟨bv, o, h1⟩ (by omega) (by omega) hDlen).mono ?_
  rintro _ s2 ⟨rfl, ⟨bv2, o2, h2⟩, hst2⟩
  have hst2' := hst.trans hst2
  rw [b1v]
  have w0 := h2.f.load (P := Try.prog) agBitsP (off := 0) (c := 4) rfl (by simp)
  simp (config := { maxSteps := 1000000, implicitDefEqProofs := false }) (disch := omega) only [allW, allR, oneOf, evalAll, partsA, optA, Nat.reduceLT, Nat.reduceLeDiff, Nat.reduceEqDiff, Nat.reduceAdd, ↓reduceIte, hn, h7, wfld0, w0]
  refine (take_any hlt s.next s2 jf jb D P (8 * a + 1) 2 M ⟨bv2, o2, h2⟩ (by omega) (by omega) hDlen).mono ?_
  rintro _ s3 ⟨rfl, ⟨bv3, o3, h3⟩, hst3⟩
  have hst3' := hst2'.trans hst3
  rw [b2v]
  have w0 := h3.f.load (P := Try.prog) agBitsP (off := 0) (c := 4) rfl (by simp)
  have l2 := h3.b.load (P := Try.prog) agInt (off := 2) (c := 4) rfl (by simp)
  simp (config := { maxSteps := 1000000, implicitDefEqProofs := false }) (disch := omega) only [allW, allR, oneOf, evalAll, partsA, optA, Nat.reduceLT, Nat.reduceLeDiff, Nat.reduceEqDiff, Nat.reduceAdd, ↓reduceIte, hn, h7, wfld0, tfld2, w0, l2, Int.natCast_zero]
  refine (fstored_any hls hlt hlp s.next s3 jf jb D P (8 * a + 1 + 2) (a + 1) n M ⟨bv3, o3, h3⟩ (by omega) (by omega) e1 e2 e3 e4 (by omega) hDlen (by omega) (by omega) hst3'.next).mono ?_
  rintro _ s4 ⟨⟨bv4, o4, h4⟩, hst4⟩
  have hst4' := hst3'.trans hst4
  rw [htake] at h4
  have w0 := h4.f.load (P := Try.prog) agBitsP (off := 0) (c := 4) rfl (by simp)
  have w1 := h4.f.load (P := Try.prog) agSl (off := 1) (c := 4) rfl (by simp)
  have l2 := h4.b.load (P := Try.prog) agInt (off := 2) (c := 4) rfl (by simp)
  have l1 := h4.b.load (P := Try.prog) agInt (off := 1) (c := 4) rfl (by simp)
  by_cases hbig : r.length ≤ 65535
  · have hl1 : (last : Int) = 1 := by rw [hlast, if_pos hbig]; rfl
    have en : n = r.length := by omega
    have hb : blocks r.length = 1 := by unfold blocks; omega
    have e7 : ((8 * (a + 1 + 4 + n) : Nat) : Int) + 7 = ((8 * (a + 1 + 4 + n) + 7 : Nat) : Int) := by omega
    have e8 : (8 * (a + 1 + 4 + n) + 7) / 8 = D.length := by omega
    simp (config := { maxSteps := 1000000, implicitDefEqProofs := false }) (disch := omega) only [allW, allR, wfn_ret, wfn_normal, oneOf, evalAll, partsA, optA, Nat.reduceLT, Nat.reduceLeDiff, Nat.reduceEqDiff, Nat.reduceAdd, ↓reduceIte, hn, h7, eq_true hl1, wfld0, wfld1, tfld1, tfld2, w0, w1, l1, l2, h4.own.self, e7, bin_quo, quo8, wrapI, e8, Try.results20]
    have hP : P ++ r.take n = l := by rw [en, List.take_length]; exact hPr
    have ho := h4.own
    rw [hP] at ho
    exact ⟨_, rfl, ho, by rw [hjb]; exact h4.fresh, by rw [hjb]; exact hst4'⟩
  · have hl0 : ¬ (last : Int) = 1 := by rw [hlast, if_neg hbig]; decide
    have en : n = 65535 := by omega
    simp (config := { maxSteps := 1000000, implicitDefEqProofs := false }) (disch := omega) only [allW, allR, oneOf, evalAll, partsA, optA, Nat.reduceLT, Nat.reduceLeDiff, Nat.reduceEqDiff, Nat.reduceAdd, ↓reduceIte, hn, h7, eq_false hl0, wfld0, tfld2, w0, l2]
    refine wround_next (r.drop n).length (by rw [List.length_drop]; omega) ⟨r.drop n, P ++ r.take n, a + 1 + 4 + n, rfl, ⟨bv4, o4, h4⟩, ?_, by rw [List.append_assoc, List.take_append_drop]; exact hPr, hst4', by simp only [get_put, n_put, ↓reduceIte, Nat.reduceEqDiff, hn], by simp only [get_put, n_put, ↓reduceIte, Nat.reduceEqDiff, h7]⟩
    rw [show a + 1 + 4 + n = a + 5 + n by omega, hdrop]
    exact hR2 hbig
end Go.Proofs.Ytnclklboogdoiaa
