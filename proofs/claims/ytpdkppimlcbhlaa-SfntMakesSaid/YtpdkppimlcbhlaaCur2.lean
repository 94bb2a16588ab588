/-
  The cursor's ways, on: Seek, Take, Word.
-/
import Derived.Test.YtpdkppimlcbhlaaCur
import Derived.Test.YtpdkppimlcbhlaaNum
set_option linter.unusedSimpArgs false
set_option linter.unusedVariables false
set_option maxRecDepth 100000
namespace Go.Proofs.Ytpdkppimlcbhlaa
open Go.Cl
theorem seek_b {lib : Prims} (hl : lib.at 38 = none) (base : Nat) (s : ASt) (i : Nat) (b : Value) (l : List UInt8) (p : Nat) (k : Int) (hc : CurB base s i b l p) (hb : base ≤ s.next) :
    Runs Try.prog lib 38 [cptr i, .int .i64 k] s fun v s' => v = .bool (decide (0 ≤ k ∧ k ≤ l.length)) ∧ CurB base s' i b l (if 0 ≤ k ∧ k ≤ l.length then k.toNat else p) ∧ Turns (cptr i) s s' := by
  refine Runs.enter 24 Try.func38 rfl hl rfl rfl ?_
  intro f hn hf
  have h0 : f.get 0 = cptr i := hf 0
  have h1 : f.get 1 = .int .i64 k := hf 1
  clear hf
  obtain ⟨ht, hbl, hi, hp⟩ := id hc
  have l0 := ht.load (P := Try.prog) agSl (off := 0) (c := 3) rfl (by simp)
  by_cases c1 : k < 0
  · simp (config := { maxSteps := 1000000, implicitDefEqProofs := false }) (disch := omega) only [allW, allR, wfn_ret, wfn_normal, oneOf, evalAll, partsA, optA, Nat.reduceLT, Nat.reduceLeDiff, Nat.reduceEqDiff, Nat.reduceAdd, ↓reduceIte, hn, h0, h1, eql_pnil Try.underlying53, c1, Try.results38]
    rw [if_neg (by omega)]
    exact ⟨by rw [decide_eq_false (by omega)], hc, Nat.le_refl _, fun _ _ _ => rfl⟩
  · by_cases c2 : (l.length : Int) < k
    · simp (config := { maxSteps := 1000000, implicitDefEqProofs := false }) (disch := omega) only [allW, allR, wfn_ret, wfn_normal, oneOf, evalAll, partsA, optA, Nat.reduceLT, Nat.reduceLeDiff, Nat.reduceEqDiff, Nat.reduceAdd, ↓reduceIte, hn, h0, h1, eql_pnil Try.underlying53, c1, c2, cfld0, l0, hbl.sees.lenA Try.underlying27, Try.results38]
      rw [if_neg (by omega)]
      exact ⟨by rw [decide_eq_false (by omega)], hc, Nat.le_refl _, fun _ _ _ => rfl⟩
    · simp (config := { maxSteps := 1000000, implicitDefEqProofs := false }) (disch := omega) only [allW, allR, oneOf, evalAll, partsA, optA, Nat.reduceLT, Nat.reduceLeDiff, Nat.reduceEqDiff, Nat.reduceAdd, ↓reduceIte, hn, h0, h1, eql_pnil Try.underlying53, c1, c2, cfld0, cfld1, l0, hbl.sees.lenA Try.underlying27]
      refine wstep_store szInt ht rfl (by simp) rfl ?_
      intro s1 ht1 hn1 hst1
      simp (config := { maxSteps := 1000000, implicitDefEqProofs := false }) (disch := omega) only [allW, allR, wfn_ret, wfn_normal, oneOf, evalAll, partsA, optA, Nat.reduceLT, Nat.reduceLeDiff, Nat.reduceEqDiff, Nat.reduceAdd, ↓reduceIte, hn, h0, Try.results38]
      rw [if_pos (by omega)]
      refine ⟨by rw [decide_eq_true (by omega)], ⟨?_, hbl.stay (Stay.ofPut hn1 hst1 hi), hi, by omega⟩, Turns.ofPut hn1 hst1⟩
      have : ((k.toNat : Nat) : Int) = k := by omega
      rw [this]; exact ht1
theorem seek_any {lib : Prims} (hl : lib.at 38 = none) (base : Nat) (s : ASt) (i : Nat) (l : List UInt8) (p : Nat) (k : Int) (hc : CurIs base s i l p) (hb : base ≤ s.next) :
    Runs Try.prog lib 38 [cptr i, .int .i64 k] s fun v s' => v = .bool (decide (0 ≤ k ∧ k ≤ l.length)) ∧ CurIs base s' i l (if 0 ≤ k ∧ k ≤ l.length then k.toNat else p) ∧ Turns (cptr i) s s' := by
  obtain ⟨b, hc⟩ := hc
  refine (seek_b hl base s i b l p k hc hb).mono ?_
  rintro v s' ⟨h1, h2, h3⟩
  exact ⟨h1, ⟨b, h2⟩, h3⟩
theorem cclone_any {lib : Prims} (hl : lib.at 47 = none) (s : ASt) (x : Value) (l : List UInt8) (hx : Sees s 1 x l.length (ofBytes l)) (hlen : l.length ≤ 4294967296) :
    Runs Try.prog lib 47 [x] s fun v s' => NewBytes s v s' l := by
  refine Runs.enter 8 Try.func47 rfl hl rfl rfl ?_
  intro f hn hf
  have h0 : f.get 0 = x := hf 0
  clear hf
  simp (config := { maxSteps := 1000000, implicitDefEqProofs := false }) (disch := omega) only [allW, allR, oneOf, evalAll, partsA, optA, Nat.reduceLT, Nat.reduceLeDiff, Nat.reduceEqDiff, Nat.reduceAdd, ↓reduceIte, hn, h0, hx.eql_nil Try.underlying27]
  refine wif_cases (fun h => ?_) (fun h => ?_)
  · obtain ⟨h1, _, _⟩ := hx.isNil h
    have : l = [] := List.eq_nil_of_length_eq_zero h1
    subst this
    simp (config := { maxSteps := 1000000, implicitDefEqProofs := false }) (disch := omega) only [allW, allR, wfn_ret, wfn_normal, oneOf, evalAll, partsA, optA, Nat.reduceLT, Nat.reduceLeDiff, Nat.reduceEqDiff, Nat.reduceAdd, ↓reduceIte, hn, h0, Try.results47]
    exact ⟨.nil, Fresh.nil _, Stay.refl _ _⟩
  · simp (config := { maxSteps := 1000000, implicitDefEqProofs := false }) (disch := omega) only [allW, allR, oneOf, evalAll, partsA, optA, Nat.reduceLT, Nat.reduceLeDiff, Nat.reduceEqDiff, Nat.reduceAdd, ↓reduceIte, hn, h0, build0 Try.underlying27 szU8 zU8 rfl rfl]
    refine wstep_newSlice (by rfl) ?_
    intro b s1 hb hF hst
    simp (config := { maxSteps := 1000000, implicitDefEqProofs := false }) (disch := omega) only [allW, allR, oneOf, evalAll, partsA, optA, Nat.reduceLT, Nat.reduceLeDiff, Nat.reduceEqDiff, Nat.reduceAdd, ↓reduceIte, hn, h0]
    refine wstep_append Try.underlying27 Try.underlying27 (.inl ⟨_, rfl⟩) szU8 byU8 zU8 rfl hb (hx.keeps hst).src (by simp [ofBytes_length]) (by decide) (ofBytes_ok _) (by omega) (by omega) hF hst.next ?_
    intro b' s2 hb' hF' hst' _ _
    simp (config := { maxSteps := 1000000, implicitDefEqProofs := false }) (disch := omega) only [allW, allR, wfn_ret, wfn_normal, oneOf, evalAll, partsA, optA, Nat.reduceLT, Nat.reduceLeDiff, Nat.reduceEqDiff, Nat.reduceAdd, ↓reduceIte, hn, Try.results47]
    exact ⟨by simpa using hb', hF', hst.trans hst'⟩
/-- What is taken. -/
def takeIs (l : List UInt8) (p : Nat) (k : Int) : List UInt8 := if 0 ≤ k ∧ k ≤ (l.length - p : Nat) then (l.drop p).take k.toNat else []
def Taken (base : Nat) (s : ASt) (i : Nat) (l : List UInt8) (p : Nat) (k : Int) (v : Value) (s' : ASt) : Prop :=
  ∃ B, v = .tuple #[B, .bool (decide (0 ≤ k ∧ k ≤ (l.length - p : Nat)))] ∧ Own s' 1 B (takeIs l p k).length (ofBytes (takeIs l p k)) ∧ Fresh s.next B ∧ CurIs base s' i l (if 0 ≤ k ∧ k ≤ (l.length - p : Nat) then p + k.toNat else p) ∧ Turns (cptr i) s s'
def TakenB (base : Nat) (s : ASt) (i : Nat) (b : Value) (l : List UInt8) (p : Nat) (k : Int) (v : Value) (s' : ASt) : Prop :=
  ∃ B, v = .tuple #[B, .bool (decide (0 ≤ k ∧ k ≤ (l.length - p : Nat)))] ∧ Own s' 1 B (takeIs l p k).length (ofBytes (takeIs l p k)) ∧ Fresh s.next B ∧ CurB base s' i b l (if 0 ≤ k ∧ k ≤ (l.length - p : Nat) then p + k.toNat else p) ∧ Turns (cptr i) s s'
theorem ctake_b {lib : Prims} (hl : lib.at 39 = none) (hl0 : lib.at 46 = none) (hl1 : lib.at 35 = none) (hl2 : lib.at 50 = none) (hl3 : lib.at 47 = none) (base : Nat) (s : ASt) (i : Nat) (b : Value) (l : List UInt8) (p : Nat) (k : Int) (hc : CurB base s i b l p) (hb : base ≤ s.next) (hlen : l.length ≤ 4294967296) :
    Runs Try.prog lib 39 [cptr i, .int .i64 k] s (TakenB base s i b l p k) := by
  refine Runs.enter 44 Try.func39 rfl hl rfl rfl ?_
  intro f hn hf
  have h0 : f.get 0 = cptr i := hf 0
  have h1 : f.get 1 = .int .i64 k := hf 1
  clear hf
  have fail : ∀ (f : AFr), f.n = 44 → f.get 4 = .slice none 0 0 → f.get 5 = .bool false → ¬ (0 ≤ k ∧ k ≤ (l.length - p : Nat)) → wfn Try.prog (Try.f39).results.toList (TakenB base s i b l p k) .ret f s := by
    intro f hn h4 h5 hk
    simp only [allW, allR, wfn_ret, wfn_normal, oneOf, evalAll, partsA, optA, Nat.reduceLT, Nat.reduceLeDiff, Nat.reduceEqDiff, Nat.reduceAdd, ↓reduceIte, hn, h4, h5, Try.results39]
    unfold TakenB takeIs
    rw [if_neg hk, if_neg hk, decide_eq_false hk]
    exact ⟨_, rfl, .nil, Fresh.nil _, hc, Nat.le_refl _, fun _ _ _ => rfl⟩
  by_cases c1 : k < 0
  · simp (config := { maxSteps := 1000000, implicitDefEqProofs := false }) (disch := omega) only [allW, allR, oneOf, evalAll, partsA, optA, Nat.reduceLT, Nat.reduceLeDiff, Nat.reduceEqDiff, Nat.reduceAdd, ↓reduceIte, hn, h0, h1, eql_pnil Try.underlying53, c1]
    exact fail _ (by simp only [get_put, n_put, ↓reduceIte, Nat.reduceEqDiff, hn]) (by simp only [get_put, n_put, ↓reduceIte, Nat.reduceEqDiff]) (by simp only [get_put, n_put, ↓reduceIte, Nat.reduceEqDiff]) (by omega)
  · simp (config := { maxSteps := 1000000, implicitDefEqProofs := false }) (disch := omega) only [allW, allR, oneOf, evalAll, partsA, optA, Nat.reduceLT, Nat.reduceLeDiff, Nat.reduceEqDiff, Nat.reduceAdd, ↓reduceIte, hn, h0, h1, eql_pnil Try.underlying53, c1]
    refine (left_any hl0 hl1 hl2 base s i l p ⟨b, hc⟩ hlen).mono ?_
    rintro _ s1 ⟨rfl, hs⟩
    subst hs
    by_cases c2 : ((l.length - p : Nat) : Int) < k
    · simp (config := { maxSteps := 1000000, implicitDefEqProofs := false }) (disch := omega) only [allW, allR, oneOf, evalAll, partsA, optA, Nat.reduceLT, Nat.reduceLeDiff, Nat.reduceEqDiff, Nat.reduceAdd, ↓reduceIte, hn, h0, h1, c1, c2]
      exact fail _ (by simp only [get_put, n_put, ↓reduceIte, Nat.reduceEqDiff, hn]) (by simp only [get_put, n_put, ↓reduceIte, Nat.reduceEqDiff]) (by simp only [get_put, n_put, ↓reduceIte, Nat.reduceEqDiff]) (by omega)
    · obtain ⟨ht, hbl, hi, hp⟩ := id hc
      have l0 := ht.load (P := Try.prog) agSl (off := 0) (c := 3) rfl (by simp)
      have l1 := ht.load (P := Try.prog) agInt (off := 1) (c := 3) rfl (by simp)
      simp (config := { maxSteps := 1000000, implicitDefEqProofs := false }) (disch := omega) only [allW, allR, oneOf, evalAll, partsA, optA, Nat.reduceLT, Nat.reduceLeDiff, Nat.reduceEqDiff, Nat.reduceAdd, ↓reduceIte, hn, h0, h1, c1, c2]
      refine Drawn.tight' (by kernel_rfl) ?_
      have hk : ((p : Int) + k).toNat = p + k.toNat := by omega
      have hcut := hbl.sees.cutB (lo := p) (hi := p + k.toNat) (by omega) (by omega)
      rw [show p + k.toNat - p = k.toNat by omega] at hcut
      simp (config := { maxSteps := 1000000, implicitDefEqProofs := false }) (disch := omega) only [allW, allR, oneOf, evalAll, partsA, optA, Nat.reduceLT, Nat.reduceLeDiff, Nat.reduceEqDiff, Nat.reduceAdd, ↓reduceIte, hn, h0, h1, cfld0, cfld1, l0, l1, hbl.sees.self, wrapI, hbl.sees.sliceBoth Try.underlying27 szU8, hk]
      refine (cclone_any hl3 s1 _ _ hcut (by rw [List.length_take, List.length_drop]; omega)).mono ?_
      rintro B s2 ⟨hB, hBF, hst⟩
      have ht2 := ht.keeps hst
      have l1' := ht2.load (P := Try.prog) agInt (off := 1) (c := 3) rfl (by simp)
      simp (config := { maxSteps := 1000000, implicitDefEqProofs := false }) (disch := omega) only [allW, allR, oneOf, evalAll, partsA, optA, Nat.reduceLT, Nat.reduceLeDiff, Nat.reduceEqDiff, Nat.reduceAdd, ↓reduceIte, hn, h0, h1, cfld1, l1', wrapI, hB.self]
      refine wstep_store szInt ht2 rfl (by simp) rfl ?_
      intro s3 ht3 hn3 hst3
      simp (config := { maxSteps := 1000000, implicitDefEqProofs := false }) (disch := omega) only [allW, allR, wfn_ret, wfn_normal, oneOf, evalAll, partsA, optA, Nat.reduceLT, Nat.reduceLeDiff, Nat.reduceEqDiff, Nat.reduceAdd, ↓reduceIte, hn, h0, h1, Try.results39]
      unfold TakenB takeIs
      rw [if_pos (by omega), if_pos (by omega), decide_eq_true (by omega)]
      have hne : idOf B ≠ some i := fun e => by have := hBF i e; have := ht.lt; omega
      refine ⟨B, rfl, hB.ofPut hn3 hst3 hne, hBF, ⟨?_, hbl.stay ((hst.weaken hb).trans (Stay.ofPut hn3 hst3 hi)), hi, by omega⟩, ⟨by have := hst.next; omega, fun j hj hji => ?_⟩⟩
      · have : ((p + k.toNat : Nat) : Int) = (p : Int) + k := by omega
        rw [this]; exact ht3
      · rw [hst3 j (fun e => hji (by rw [e]; rfl)), hst.get j hj]
theorem ctake_any {lib : Prims} (hl : lib.at 39 = none) (hl0 : lib.at 46 = none) (hl1 : lib.at 35 = none) (hl2 : lib.at 50 = none) (hl3 : lib.at 47 = none) (base : Nat) (s : ASt) (i : Nat) (l : List UInt8) (p : Nat) (k : Int) (hc : CurIs base s i l p) (hb : base ≤ s.next) (hlen : l.length ≤ 4294967296) :
    Runs Try.prog lib 39 [cptr i, .int .i64 k] s (Taken base s i l p k) := by
  obtain ⟨b, hc⟩ := hc
  refine (ctake_b hl hl0 hl1 hl2 hl3 base s i b l p k hc hb hlen).mono ?_
  rintro v s' ⟨B, h1, h2, h3, h4, h5⟩
  exact ⟨B, h1, h2, h3, ⟨b, h4⟩, h5⟩
theorem cnumber_any {lib : Prims} (hl : lib.at 43 = none) (s : ASt) (x : Value) (l : List UInt8) (hx : Sees s 1 x l.length (ofBytes l)) (hlen : l.length ≤ 7) :
    Runs Try.prog lib 43 [x] s fun v s' => v = .int .i64 (bigOf l) ∧ s' = s := by
  refine Runs.enter 20 Try.func43 rfl hl rfl rfl ?_
  intro f hn hf
  have h0 : f.get 0 = x := hf 0
  clear hf
  simp (config := { maxSteps := 1000000, implicitDefEqProofs := false }) (disch := omega) only [allW, allR, oneOf, evalAll, partsA, optA, Nat.reduceLT, Nat.reduceLeDiff, Nat.reduceEqDiff, Nat.reduceAdd, ↓reduceIte, hn, h0]
  refine Comes.loopAt (fun q f s' => ∃ i : Nat, q = l.length - i ∧ i ≤ l.length ∧ f.n = 20 ∧ f.get 0 = x ∧ f.get 3 = .int .i64 (bigOf (l.take i)) ∧ f.get 4 = .int .i64 i ∧ s' = s) ⟨0, rfl, by omega, by simp only [get_put, n_put, ↓reduceIte, Nat.reduceEqDiff, hn], by simp only [get_put, n_put, ↓reduceIte, Nat.reduceEqDiff, h0], by simp only [get_put, n_put, ↓reduceIte, Nat.reduceEqDiff]; rfl, by simp only [get_put, n_put, ↓reduceIte, Nat.reduceEqDiff]; rfl, rfl⟩ ?_
  clear hn h0 f
  rintro q f s ⟨i, rfl, hi, hn, h0, h3, h4, rfl⟩
  by_cases c : i < l.length
  · have hsm : bigOf (l.take i) < 4503599627370496 := bigOf_small (by rw [List.length_take]; omega)
    have hb8 := (l.getD i 0).toNat_lt
    have hnew : bigOf (l.take i) * 256 + (l.getD i 0).toNat = bigOf (l.take (i + 1)) := by rw [take_snoc c, bigOf_snoc]
    simp (config := { maxSteps := 1000000, implicitDefEqProofs := false }) (disch := omega) only [allW, allR, oneOf, evalAll, partsA, optA, Nat.reduceLT, Nat.reduceLeDiff, Nat.reduceEqDiff, Nat.reduceAdd, ↓reduceIte, hn, h0, h3, h4, c, hx.lenA Try.underlying27, bin_shl8, wrapI, hx.indexAddr Try.underlying27 szU8, hx.load1 agU8, ofBytes_getD, conv_int Try.underlying5 Try.underlying3, bin_or, or_byte, hnew]
    refine wround_next (l.length - (i + 1)) (by omega) ⟨i + 1, rfl, by omega, by simp only [get_put, n_put, ↓reduceIte, Nat.reduceEqDiff, hn], by simp only [get_put, n_put, ↓reduceIte, Nat.reduceEqDiff, h0], by simp only [get_put, n_put, ↓reduceIte, Nat.reduceEqDiff], by simp only [get_put, n_put, ↓reduceIte, Nat.reduceEqDiff]; rfl, rfl⟩
  · simp (config := { maxSteps := 1000000, implicitDefEqProofs := false }) (disch := omega) only [allW, allR, wfn_ret, wfn_normal, oneOf, evalAll, partsA, optA, Nat.reduceLT, Nat.reduceLeDiff, Nat.reduceEqDiff, Nat.reduceAdd, ↓reduceIte, hn, h0, h3, h4, c, hx.lenA Try.underlying27, Try.results43]
    rw [List.take_of_length_le (by omega)]
def Worded (base : Nat) (s : ASt) (i : Nat) (l : List UInt8) (p : Nat) (k : Int) (v : Value) (s' : ASt) : Prop :=
  v = .tuple #[.int .i64 (if 1 ≤ k ∧ k ≤ 7 then bigOf (takeIs l p k) else 0), .bool (decide (1 ≤ k ∧ k ≤ 7 ∧ k ≤ (l.length - p : Nat)))] ∧ CurIs base s' i l (if 1 ≤ k ∧ k ≤ 7 ∧ k ≤ (l.length - p : Nat) then p + k.toNat else p) ∧ Turns (cptr i) s s'
def WordedB (base : Nat) (s : ASt) (i : Nat) (b : Value) (l : List UInt8) (p : Nat) (k : Int) (v : Value) (s' : ASt) : Prop :=
  v = .tuple #[.int .i64 (if 1 ≤ k ∧ k ≤ 7 then bigOf (takeIs l p k) else 0), .bool (decide (1 ≤ k ∧ k ≤ 7 ∧ k ≤ (l.length - p : Nat)))] ∧ CurB base s' i b l (if 1 ≤ k ∧ k ≤ 7 ∧ k ≤ (l.length - p : Nat) then p + k.toNat else p) ∧ Turns (cptr i) s s'
theorem word_b {lib : Prims} (hl : lib.at 45 = none) (hlt : lib.at 39 = none) (hl0 : lib.at 46 = none) (hl1 : lib.at 35 = none) (hl2 : lib.at 50 = none) (hl3 : lib.at 47 = none) (base : Nat) (s : ASt) (i : Nat) (b : Value) (l : List UInt8) (p : Nat) (k : Int) (hc : CurB base s i b l p) (hb : base ≤ s.next) (hlen : l.length ≤ 4294967296) :
    Runs Try.prog lib 45 [cptr i, .int .i64 k] s (WordedB base s i b l p k) := by
  refine Runs.enter 37 Try.func45 rfl hl rfl rfl ?_
  intro f hn hf
  have h0 : f.get 0 = cptr i := hf 0
  have h1 : f.get 1 = .int .i64 k := hf 1
  clear hf
  have fail : ∀ (f : AFr), f.n = 37 → f.get 4 = .int .i64 0 → f.get 5 = .bool false → ¬ (1 ≤ k ∧ k ≤ 7) → wfn Try.prog (Try.f45).results.toList (WordedB base s i b l p k) .ret f s := by
    intro f hn h4 h5 hk
    simp only [allW, allR, wfn_ret, wfn_normal, oneOf, evalAll, partsA, optA, Nat.reduceLT, Nat.reduceLeDiff, Nat.reduceEqDiff, Nat.reduceAdd, ↓reduceIte, hn, h4, h5, Try.results45]
    unfold WordedB
    rw [if_neg hk, if_neg (fun h => hk ⟨h.1, h.2.1⟩), decide_eq_false (fun h => hk ⟨h.1, h.2.1⟩)]
    exact ⟨rfl, hc, Nat.le_refl _, fun _ _ _ => rfl⟩
  by_cases c1 : k < 1
  · simp (config := { maxSteps := 1000000, implicitDefEqProofs := false }) (disch := omega) only [allW, allR, oneOf, evalAll, partsA, optA, Nat.reduceLT, Nat.reduceLeDiff, Nat.reduceEqDiff, Nat.reduceAdd, ↓reduceIte, hn, h0, h1, c1]
    exact fail _ (by simp only [get_put, n_put, ↓reduceIte, Nat.reduceEqDiff, hn]) (by simp only [get_put, n_put, ↓reduceIte, Nat.reduceEqDiff]) (by simp only [get_put, n_put, ↓reduceIte, Nat.reduceEqDiff]) (by omega)
  · by_cases c2 : 7 < k
    · simp (config := { maxSteps := 1000000, implicitDefEqProofs := false }) (disch := omega) only [allW, allR, oneOf, evalAll, partsA, optA, Nat.reduceLT, Nat.reduceLeDiff, Nat.reduceEqDiff, Nat.reduceAdd, ↓reduceIte, hn, h0, h1, c1, c2]
      exact fail _ (by simp only [get_put, n_put, ↓reduceIte, Nat.reduceEqDiff, hn]) (by simp only [get_put, n_put, ↓reduceIte, Nat.reduceEqDiff]) (by simp only [get_put, n_put, ↓reduceIte, Nat.reduceEqDiff]) (by omega)
    · simp (config := { maxSteps := 1000000, implicitDefEqProofs := false }) (disch := omega) only [allW, allR, oneOf, evalAll, partsA, optA, Nat.reduceLT, Nat.reduceLeDiff, Nat.reduceEqDiff, Nat.reduceAdd, ↓reduceIte, hn, h0, h1, c1, c2]
      refine (ctake_b hlt hl0 hl1 hl2 hl3 base s i b l p k hc hb hlen).mono ?_
      rintro _ s1 ⟨B, rfl, hB, hBF, hc1, ht1⟩
      obtain ⟨L, hL⟩ : ∃ L, L = takeIs l p k := ⟨_, rfl⟩
      have hL7 : L.length ≤ 7 := by rw [hL]; unfold takeIs; split <;> simp; omega
      rw [← hL] at hB
      simp (config := { maxSteps := 1000000, implicitDefEqProofs := false }) (disch := omega) only [allW, allR, oneOf, evalAll, partsA, optA, Nat.reduceLT, Nat.reduceLeDiff, Nat.reduceEqDiff, Nat.reduceAdd, ↓reduceIte, hn, h0, h1, extractA, List.getElem?_toArray, List.getElem?_cons_zero, List.getElem?_cons_succ, hB.sees.lenA Try.underlying27]
      refine Comes.loopAt (fun q f s' => ∃ j : Nat, q = L.length - j ∧ j ≤ L.length ∧ f.n = 37 ∧ f.get 7 = .bool (decide (0 ≤ k ∧ k ≤ (l.length - p : Nat))) ∧ f.get 8 = .int .i64 (bigOf (L.take j)) ∧ f.get 23 = B ∧ f.get 24 = .int .i64 L.length ∧ f.get 25 = .int .i64 j ∧ s' = s1) ⟨0, rfl, by omega, by simp only [get_put, n_put, ↓reduceIte, Nat.reduceEqDiff, hn], by simp only [get_put, n_put, ↓reduceIte, Nat.reduceEqDiff], by simp only [get_put, n_put, ↓reduceIte, Nat.reduceEqDiff]; rfl, by simp only [get_put, n_put, ↓reduceIte, Nat.reduceEqDiff], by simp only [get_put, n_put, ↓reduceIte, Nat.reduceEqDiff], by simp only [get_put, n_put, ↓reduceIte, Nat.reduceEqDiff]; rfl, rfl⟩ ?_
      clear hn h0 h1 f
      rintro q f s1 ⟨j, rfl, hj, hn, h7, h8, h23, h24, h25, rfl⟩
      by_cases c : j < L.length
      · have hsm : bigOf (L.take j) < 4503599627370496 := bigOf_small (by rw [List.length_take]; omega)
        have hb8 := (L.getD j 0).toNat_lt
        have hnew : bigOf (L.take j) * 256 + (L.getD j 0).toNat = bigOf (L.take (j + 1)) := by rw [take_snoc c, bigOf_snoc]
        simp (config := { maxSteps := 1000000, implicitDefEqProofs := false }) (disch := omega) only [allW, allR, oneOf, evalAll, partsA, optA, Nat.reduceLT, Nat.reduceLeDiff, Nat.reduceEqDiff, Nat.reduceAdd, ↓reduceIte, hn, h7, h8, h23, h24, h25, c, bin_shl8, wrapI, hB.sees.indexAddr Try.underlying27 szU8, hB.sees.load1 agU8, ofBytes_getD, conv_int Try.underlying5 Try.underlying3, bin_or, or_byte, hnew]
        refine wround_next (L.length - (j + 1)) (by omega) ⟨j + 1, rfl, by omega, by simp only [get_put, n_put, ↓reduceIte, Nat.reduceEqDiff, hn], by simp only [get_put, n_put, ↓reduceIte, Nat.reduceEqDiff, h7], by simp only [get_put, n_put, ↓reduceIte, Nat.reduceEqDiff], by simp only [get_put, n_put, ↓reduceIte, Nat.reduceEqDiff, h23], by simp only [get_put, n_put, ↓reduceIte, Nat.reduceEqDiff, h24], by simp only [get_put, n_put, ↓reduceIte, Nat.reduceEqDiff]; rfl, rfl⟩
      · simp (config := { maxSteps := 1000000, implicitDefEqProofs := false }) (disch := omega) only [allW, allR, wfn_ret, wfn_normal, oneOf, evalAll, partsA, optA, Nat.reduceLT, Nat.reduceLeDiff, Nat.reduceEqDiff, Nat.reduceAdd, ↓reduceIte, hn, h7, h8, h23, h24, h25, c, Try.results45]
        rw [List.take_of_length_le (by omega)]
        have e1 : (0 ≤ k ∧ k ≤ (l.length - p : Nat)) ↔ (1 ≤ k ∧ k ≤ 7 ∧ k ≤ (l.length - p : Nat)) := by omega
        refine ⟨?_, ?_, ht1⟩
        · rw [if_pos (by omega), hL, decide_eq_decide.mpr e1]
        · simp only [e1] at hc1; exact hc1
theorem word_any {lib : Prims} (hl : lib.at 45 = none) (hlt : lib.at 39 = none) (hl0 : lib.at 46 = none) (hl1 : lib.at 35 = none) (hl2 : lib.at 50 = none) (hl3 : lib.at 47 = none) (base : Nat) (s : ASt) (i : Nat) (l : List UInt8) (p : Nat) (k : Int) (hc : CurIs base s i l p) (hb : base ≤ s.next) (hlen : l.length ≤ 4294967296) :
    Runs Try.prog lib 45 [cptr i, .int .i64 k] s (Worded base s i l p k) := by
  obtain ⟨b, hc⟩ := hc
  refine (word_b hl hlt hl0 hl1 hl2 hl3 base s i b l p k hc hb hlen).mono ?_
  rintro v s' ⟨h1, h2, h3⟩
  exact ⟨h1, ⟨b, h2⟩, h3⟩
end Go.Proofs.Ytpdkppimlcbhlaa
