/-
  The cursor's ways.
-/
import Derived.Test.YtpdkppimlcbhlaaSame
set_option linter.unusedSimpArgs false
set_option linter.unusedVariables false
set_option maxRecDepth 100000
namespace Go.Proofs.Ytpdkppimlcbhlaa
open Go.Cl
/-- A cursor: its bytes, where it stands. -/
def CurIs (base : Nat) (s : ASt) (i : Nat) (l : List UInt8) (p : Nat) : Prop :=
  ∃ b, Thing s i [b, .int .i64 p] ∧ Low base s 1 b l.length (ofBytes l) ∧ base ≤ i ∧ p ≤ l.length
/-- .. with its bytes' value. -/
def CurB (base : Nat) (s : ASt) (i : Nat) (b : Value) (l : List UInt8) (p : Nat) : Prop :=
  Thing s i [b, .int .i64 p] ∧ Low base s 1 b l.length (ofBytes l) ∧ base ≤ i ∧ p ≤ l.length
theorem CurIs.keeps {base : Nat} {s s' : ASt} {i : Nat} {l : List UInt8} {p : Nat} (h : CurIs base s i l p) (hb : base ≤ s.next) (k : Stay s.next s s') : CurIs base s' i l p := by
  obtain ⟨b, h1, h2, h3, h4⟩ := h
  exact ⟨b, h1.keeps k, h2.stay (k.weaken hb), h3, h4⟩
theorem CurIs.turns {base : Nat} {s s' : ASt} {i : Nat} {l : List UInt8} {p : Nat} (h : CurIs base s i l p) {v : Value} (hb : base ≤ s.next) (hf : Fresh base v) (k : Turns v s s') (hne : idOf v ≠ some i) : CurIs base s' i l p := by
  obtain ⟨b, h1, h2, h3, h4⟩ := h
  exact ⟨b, h1.turns k hne, h2.stay (k.keeps hf hb), h3, h4⟩
abbrev cptr (i : Nat) : Value := .pointer (some ⟨i, 0, some 3⟩)
theorem fresh_cptr {base i : Nat} (h : base ≤ i) : Fresh base (cptr i) := fun j hj => by
  have : some i = some j := hj
  injection this with this; omega
theorem cptr_ne {i j : Nat} (h : i ≠ j) : idOf (cptr i) ≠ some j := fun e => by
  have : some i = some j := e
  injection this with this; exact h this
/-- What is made later is none of it. -/
theorem later_ne {n : Nat} {v : Value} (h : Fresh n v) {i : Nat} (hi : i < n) : ∀ j, idOf v = some j → idOf (cptr i) ≠ some j := fun j hj => cptr_ne (by have := h j hj; omega)
theorem cfld0 (i o c : Nat) : fieldAddrA Try.prog 85 (.pointer (some ⟨i, o, some c⟩)) 0 = some (.pointer (some ⟨i, o + 0, some c⟩)) := by
  unfold fieldAddrA; rw [Try.underlying85]; simp [szSl]
theorem cfld1 (i o c : Nat) : fieldAddrA Try.prog 85 (.pointer (some ⟨i, o, some c⟩)) 1 = some (.pointer (some ⟨i, o + 1, some c⟩)) := by
  unfold fieldAddrA; rw [Try.underlying85]; simp [szInt]
theorem curZero {v : Value} (hv : v.cells.toList = [v]) : buildA Try.prog 85 [(0, v)] = some (.agg #[v, .int .i64 0]) := by
  unfold buildA; rw [Try.underlying85]
  have hz : zeroB Try.prog 85 = some (.agg #[.slice none 0 0, .int .i64 0]) := by kernel_rfl
  rw [hz]
  simp only [fillA, placeOf, hv]
  simp [szSl, szInt, plainV, plain1, cells_agg, setAt]

theorem new_any {lib : Prims} (hl : lib.at 34 = none) (base : Nat) (s : ASt) (x : Value) (l : List UInt8) (hx : Low base s 1 x l.length (ofBytes l)) (hb : base ≤ s.next) :
    Runs Try.prog lib 34 [x] s fun v s' => v = cptr s.next ∧ CurIs base s' s.next l 0 ∧ Stay s.next s s' ∧ s'.next = s.next + 1 := by
  refine Runs.enter 11 Try.func34 rfl hl rfl rfl ?_
  intro f hn hf
  have h0 : f.get 0 = x := hf 0
  clear hf
  obtain ⟨v', hv, hsee⟩ := hx.sees.full Try.underlying27 szU8 .i64 .i64
  simp only [allW, allR, oneOf, evalAll, partsA, optA, Nat.reduceLT, Nat.reduceLeDiff, Nat.reduceEqDiff, Nat.reduceAdd, ↓reduceIte, hn, h0, hx.sees.lenA Try.underlying27, hv, curZero (hsee _ hx.sees).cell1]
  refine wstep_newPtr ?_
  intro s1 ht hst hnx
  simp only [allW, allR, wfn_ret, wfn_normal, oneOf, evalAll, partsA, optA, Nat.reduceLT, Nat.reduceLeDiff, Nat.reduceEqDiff, Nat.reduceAdd, ↓reduceIte, hn, Try.results34, List.length_cons, List.length_nil]
  exact ⟨⟨v', ht, fun s' k => hsee s' (hx s' ((hst.weaken hb).trans k)), hb, by omega⟩, hst, hnx⟩

theorem pos_any {lib : Prims} (hl : lib.at 50 = none) (base : Nat) (s : ASt) (i : Nat) (l : List UInt8) (p : Nat) (hc : CurIs base s i l p) :
    Runs Try.prog lib 50 [cptr i] s fun v s' => v = .int .i64 p ∧ s' = s := by
  obtain ⟨b, ht, hbl, hi, hp⟩ := hc
  refine Runs.enter 9 Try.func50 rfl hl rfl rfl ?_
  intro f hn hf
  have h0 : f.get 0 = cptr i := hf 0
  clear hf
  have l1 := ht.load (P := Try.prog) agInt (off := 1) (c := 3) rfl (by simp)
  simp only [allW, allR, wfn_ret, wfn_normal, oneOf, evalAll, partsA, optA, Nat.reduceLT, Nat.reduceLeDiff, Nat.reduceEqDiff, Nat.reduceAdd, ↓reduceIte, hn, h0, eql_pnil Try.underlying53, cfld1, l1, Try.results50]
theorem len_any {lib : Prims} (hl : lib.at 35 = none) (base : Nat) (s : ASt) (i : Nat) (l : List UInt8) (p : Nat) (hc : CurIs base s i l p) :
    Runs Try.prog lib 35 [cptr i] s fun v s' => v = .int .i64 l.length ∧ s' = s := by
  obtain ⟨b, ht, hbl, hi, hp⟩ := hc
  refine Runs.enter 10 Try.func35 rfl hl rfl rfl ?_
  intro f hn hf
  have h0 : f.get 0 = cptr i := hf 0
  clear hf
  have l0 := ht.load (P := Try.prog) agSl (off := 0) (c := 3) rfl (by simp)
  simp only [allW, allR, wfn_ret, wfn_normal, oneOf, evalAll, partsA, optA, Nat.reduceLT, Nat.reduceLeDiff, Nat.reduceEqDiff, Nat.reduceAdd, ↓reduceIte, hn, h0, eql_pnil Try.underlying53, cfld0, l0, hbl.sees.lenA Try.underlying27, Try.results35]
theorem left_any {lib : Prims} (hl : lib.at 46 = none) (hl1 : lib.at 35 = none) (hl2 : lib.at 50 = none) (base : Nat) (s : ASt) (i : Nat) (l : List UInt8) (p : Nat) (hc : CurIs base s i l p) (hlen : l.length ≤ 4294967296) :
    Runs Try.prog lib 46 [cptr i] s fun v s' => v = .int .i64 (l.length - p : Nat) ∧ s' = s := by
  refine Runs.enter 8 Try.func46 rfl hl rfl rfl ?_
  intro f hn hf
  have h0 : f.get 0 = cptr i := hf 0
  clear hf
  have hp : p ≤ l.length := hc.choose_spec.2.2.2
  simp only [allW, allR, oneOf, evalAll, partsA, optA, Nat.reduceLT, Nat.reduceLeDiff, Nat.reduceEqDiff, Nat.reduceAdd, ↓reduceIte, hn, h0]
  refine (len_any hl1 base s i l p hc).mono ?_
  rintro _ s ⟨rfl, rfl⟩
  simp only [allW, allR, oneOf, evalAll, partsA, optA, Nat.reduceLT, Nat.reduceLeDiff, Nat.reduceEqDiff, Nat.reduceAdd, ↓reduceIte, hn, h0]
  refine (pos_any hl2 base s i l p hc).mono ?_
  rintro _ s ⟨rfl, rfl⟩
  have e : (l.length : Int) - p = ((l.length - p : Nat) : Int) := by omega
  simp (config := { maxSteps := 1000000, implicitDefEqProofs := false }) (disch := omega) only [allW, allR, wfn_ret, wfn_normal, oneOf, evalAll, partsA, optA, Nat.reduceLT, Nat.reduceLeDiff, Nat.reduceEqDiff, Nat.reduceAdd, ↓reduceIte, hn, h0, wrapI, e, Try.results46]
/-- The byte at a place, or -1. -/
def byteAt (l : List UInt8) (k : Int) : Int := if 0 ≤ k ∧ k < l.length then ((l.getD k.toNat 0).toNat : Int) else -1
theorem cpeek_any {lib : Prims} (hl : lib.at 51 = none) (hl0 : lib.at 46 = none) (hl1 : lib.at 35 = none) (hl2 : lib.at 50 = none) (base : Nat) (s : ASt) (i : Nat) (l : List UInt8) (p : Nat) (k : Int) (hc : CurIs base s i l p) (hlen : l.length ≤ 4294967296) :
    Runs Try.prog lib 51 [cptr i, .int .i64 k] s fun v s' => v = .int .i64 (byteAt l (p + k)) ∧ s' = s := by
  refine Runs.enter 29 Try.func51 rfl hl rfl rfl ?_
  intro f hn hf
  have h0 : f.get 0 = cptr i := hf 0
  have h1 : f.get 1 = .int .i64 k := hf 1
  clear hf
  have hp : p ≤ l.length := hc.choose_spec.2.2.2
  simp only [allW, allR, oneOf, evalAll, partsA, optA, Nat.reduceLT, Nat.reduceLeDiff, Nat.reduceEqDiff, Nat.reduceAdd, ↓reduceIte, hn, h0, h1]
  refine (left_any hl0 hl1 hl2 base s i l p hc hlen).mono ?_
  rintro _ s ⟨rfl, rfl⟩
  by_cases c1 : ((l.length - p : Nat) : Int) ≤ k
  · have hb : byteAt l (p + k) = -1 := by unfold byteAt; rw [if_neg (by omega)]
    simp (config := { maxSteps := 1000000, implicitDefEqProofs := false }) (disch := omega) only [allW, allR, wfn_ret, wfn_normal, oneOf, evalAll, partsA, optA, Nat.reduceLT, Nat.reduceLeDiff, Nat.reduceEqDiff, Nat.reduceAdd, ↓reduceIte, hn, h0, h1, c1, hb, Try.results51]
  · simp (config := { maxSteps := 1000000, implicitDefEqProofs := false }) (disch := omega) only [allW, allR, oneOf, evalAll, partsA, optA, Nat.reduceLT, Nat.reduceLeDiff, Nat.reduceEqDiff, Nat.reduceAdd, ↓reduceIte, hn, h0, h1, c1]
    refine (pos_any hl2 base s i l p hc).mono ?_
    rintro _ s ⟨rfl, rfl⟩
    by_cases c2 : k < 0 - (p : Int)
    · have hb : byteAt l (p + k) = -1 := by unfold byteAt; rw [if_neg (by omega)]
      simp (config := { maxSteps := 1000000, implicitDefEqProofs := false }) (disch := omega) only [allW, allR, wfn_ret, wfn_normal, oneOf, evalAll, partsA, optA, Nat.reduceLT, Nat.reduceLeDiff, Nat.reduceEqDiff, Nat.reduceAdd, ↓reduceIte, hn, h0, h1, wrapI, c1, c2, hb, Try.results51]
    · have hb : byteAt l (p + k) = ((l.getD ((p : Int) + k).toNat 0).toNat : Int) := by unfold byteAt; rw [if_pos (by omega)]
      obtain ⟨b, ht, hbl, hi, _⟩ := hc
      have l0 := ht.load (P := Try.prog) agSl (off := 0) (c := 3) rfl (by simp)
      have l1 := ht.load (P := Try.prog) agInt (off := 1) (c := 3) rfl (by simp)
      have hb8 := (l.getD ((p : Int) + k).toNat 0).toNat_lt
      simp (config := { maxSteps := 1000000, implicitDefEqProofs := false }) (disch := omega) only [allW, allR, wfn_ret, wfn_normal, oneOf, evalAll, partsA, optA, Nat.reduceLT, Nat.reduceLeDiff, Nat.reduceEqDiff, Nat.reduceAdd, ↓reduceIte, hn, h0, h1, wrapI, c1, c2, hb, cfld0, cfld1, l0, l1, hbl.sees.indexAddr Try.underlying27 szU8, hbl.sees.load1 agU8, ofBytes_getD, hbl.sees.self, conv_int Try.underlying5 Try.underlying3, Try.underlying3, Try.results51]
theorem next_b {lib : Prims} (hl : lib.at 48 = none) (hlp : lib.at 51 = none) (hl0 : lib.at 46 = none) (hl1 : lib.at 35 = none) (hl2 : lib.at 50 = none) (base : Nat) (s : ASt) (i : Nat) (b : Value) (l : List UInt8) (p : Nat) (hc : CurB base s i b l p) (hb : base ≤ s.next) (hlen : l.length ≤ 4294967296) :
    Runs Try.prog lib 48 [cptr i] s fun v s' => v = .int .i64 (byteAt l p) ∧ CurB base s' i b l (min (p + 1) l.length) ∧ Turns (cptr i) s s' := by
  refine Runs.enter 16 Try.func48 rfl hl rfl rfl ?_
  intro f hn hf
  have h0 : f.get 0 = cptr i := hf 0
  clear hf
  have hp : p ≤ l.length := hc.2.2.2
  simp only [allW, allR, oneOf, evalAll, partsA, optA, Nat.reduceLT, Nat.reduceLeDiff, Nat.reduceEqDiff, Nat.reduceAdd, ↓reduceIte, hn, h0]
  refine (cpeek_any hlp hl0 hl1 hl2 base s i l p 0 ⟨b, hc⟩ hlen).mono ?_
  rintro _ s ⟨rfl, rfl⟩
  rw [Int.add_zero]
  by_cases c : p < l.length
  · have hv : 0 ≤ byteAt l p := by unfold byteAt; rw [if_pos (by omega)]; omega
    obtain ⟨ht, hbl, hi, _⟩ := hc
    have l1 := ht.load (P := Try.prog) agInt (off := 1) (c := 3) rfl (by simp)
    simp (config := { maxSteps := 1000000, implicitDefEqProofs := false }) (disch := omega) only [allW, allR, oneOf, evalAll, partsA, optA, Nat.reduceLT, Nat.reduceLeDiff, Nat.reduceEqDiff, Nat.reduceAdd, ↓reduceIte, hn, h0, hv, cfld1, l1, wrapI]
    refine wstep_store szInt ht rfl (by simp) rfl ?_
    intro s1 ht1 hn1 hst1
    simp (config := { maxSteps := 1000000, implicitDefEqProofs := false }) (disch := omega) only [allW, allR, wfn_ret, wfn_normal, oneOf, evalAll, partsA, optA, Nat.reduceLT, Nat.reduceLeDiff, Nat.reduceEqDiff, Nat.reduceAdd, ↓reduceIte, hn, h0, Try.results48]
    refine ⟨⟨?_, hbl.stay (Stay.ofPut hn1 hst1 hi), hi, by omega⟩, Turns.ofPut hn1 hst1⟩
    rw [Nat.min_eq_left (by omega)]; exact ht1
  · have hv : ¬ 0 ≤ byteAt l p := by unfold byteAt; rw [if_neg (by omega)]; omega
    obtain rfl : p = l.length := by omega
    simp (config := { maxSteps := 1000000, implicitDefEqProofs := false }) (disch := omega) only [allW, allR, wfn_ret, wfn_normal, oneOf, evalAll, partsA, optA, Nat.reduceLT, Nat.reduceLeDiff, Nat.reduceEqDiff, Nat.reduceAdd, ↓reduceIte, hn, h0, hv, Try.results48]
    rw [Nat.min_eq_right (by omega)]
    exact ⟨hc, Nat.le_refl _, fun _ _ _ => rfl⟩
theorem next_any {lib : Prims} (hl : lib.at 48 = none) (hlp : lib.at 51 = none) (hl0 : lib.at 46 = none) (hl1 : lib.at 35 = none) (hl2 : lib.at 50 = none) (base : Nat) (s : ASt) (i : Nat) (l : List UInt8) (p : Nat) (hc : CurIs base s i l p) (hb : base ≤ s.next) (hlen : l.length ≤ 4294967296) :
    Runs Try.prog lib 48 [cptr i] s fun v s' => v = .int .i64 (byteAt l p) ∧ CurIs base s' i l (min (p + 1) l.length) ∧ Turns (cptr i) s s' := by
  obtain ⟨b, hc⟩ := hc
  refine (next_b hl hlp hl0 hl1 hl2 base s i b l p hc hb hlen).mono ?_
  rintro v s' ⟨h1, h2, h3⟩
  exact ⟨h1, ⟨b, h2⟩, h3⟩
end Go.Proofs.Ytpdkppimlcbhlaa
