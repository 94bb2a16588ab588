/-
  Bits that are read: the program's; what turns.
-/
import Derived.Test.YtnclklboogdoiaaCur
import Derived.Test.YtnclklboogdoiaaPeek
import Derived.Test.YtnclklboogdoiaaBitsP
import Derived.Test.YtnclklboogdoiaaLoose
import Derived.Test.YtnclklboogdoiaaRowP
set_option linter.unusedSimpArgs false
set_option linter.unusedVariables false
set_option maxRecDepth 100000
namespace Go.Cl.Bt
structure BTo (jx ic : Nat) (s s' : ASt) : Prop where
  next : s.next ≤ s'.next
  get : ∀ i, i < s.next → i ≠ jx → i ≠ ic → s'.heap.get i = s.heap.get i
theorem BTo.refl (jx ic : Nat) (s : ASt) : BTo jx ic s s := ⟨Nat.le_refl _, fun _ _ _ _ => rfl⟩
theorem BTo.trans {jx ic : Nat} {s s' s'' : ASt} (h : BTo jx ic s s') (k : BTo jx ic s' s'') : BTo jx ic s s'' := ⟨Nat.le_trans h.next k.next, fun i hi h1 h2 => (k.get i (Nat.lt_of_lt_of_le hi h.next) h1 h2).trans (h.get i hi h1 h2)⟩
theorem BTo.put {jx ic : Nat} {s s' : ASt} (h1 : s'.next = s.next) (h2 : ∀ j, j ≠ jx → s'.heap.get j = s.heap.get j) : BTo jx ic s s' := ⟨by omega, fun i _ h _ => h2 i h⟩
theorem BTo.stay {jx ic base : Nat} {s s' : ASt} (h : BTo jx ic s s') (h1 : base ≤ jx) (h2 : base ≤ ic) (hb : base ≤ s.next) : Stay base s s' := ⟨h.next, fun i hi => h.get i (by omega) (by omega) (by omega)⟩
end Go.Cl.Bt
namespace Go.Proofs.Ytnclklboogdoiaa
open Go.Cl Go.Cl.Sto Go.Cl.Bt Go.Cl.Rw
theorem BTo.turns {jx ic : Nat} {s s' : ASt} (h : Turns (cptr ic) s s') : BTo jx ic s s' := ⟨h.next, fun i hi _ h2 => h.get i hi (fun e => h2 (by injection e with e; exact e.symm))⟩
theorem bagCur : isAggB Try.prog 32 = some false := by kernel_rfl
theorem bszCur : sizeB Try.prog 32 = some 1 := by kernel_rfl
theorem bfld0 (i o c : Nat) : fieldAddrA Try.prog 34 (.pointer (some ⟨i, o, some c⟩)) 0 = some (.pointer (some ⟨i, o + 0, some c⟩)) := by
  unfold fieldAddrA; rw [Try.underlying34]; simp [bszCur]
theorem bfld1 (i o c : Nat) : fieldAddrA Try.prog 34 (.pointer (some ⟨i, o, some c⟩)) 1 = some (.pointer (some ⟨i, o + 1, some c⟩)) := by
  unfold fieldAddrA; rw [Try.underlying34]; simp [szInt]
theorem bfld2 (i o c : Nat) : fieldAddrA Try.prog 34 (.pointer (some ⟨i, o, some c⟩)) 2 = some (.pointer (some ⟨i, o + 2, some c⟩)) := by
  unfold fieldAddrA; rw [Try.underlying34]; simp [szInt]
abbrev xptr (j : Nat) : Value := .pointer (some ⟨j, 0, some 4⟩)
theorem bNew (i : Nat) : buildA Try.prog 34 [(0, cptr i)] = some (.agg #[cptr i, .int .i64 0, .int .i64 0]) := by
  unfold buildA; rw [Try.underlying34]
  have hz : zeroB Try.prog 34 = some (.agg #[.pointer none, .int .i64 0, .int .i64 0]) := by kernel_rfl
  rw [hz]
  have c1 : (cptr i).cells.toList = [cptr i] := rfl
  simp only [fillA, placeOf, c1]
  simp [bszCur, szInt, plainV, plain1, cells_agg, setAt]
structure BtAt (base : Nat) (s : ASt) (jx ic : Nat) (b : List UInt8) (a p now left : Nat) : Prop where
  c : CurIs base s ic b p
  t : Thing s jx [cptr ic, .int .i64 now, .int .i64 left]
  e : a + left = 8 * p
  l8 : left ≤ 8
  r : 0 < left → now = rest b p left
  now : now < 256
  lx : base ≤ jx
  lc : base ≤ ic
  ne : jx ≠ ic
def BitIs (base : Nat) (s : ASt) (jx ic : Nat) (b : List UInt8) (a : Nat) : Prop := ∃ p now left, BtAt base s jx ic b a p now left ∧ left ≤ 7
theorem open_any {lib : Prims} (hl : lib.at 11 = none) (hln : lib.at 28 = none) (base : Nat) (s : ASt) (x : Value) (b : List UInt8) (hx : Low base s 1 x b.length (ofBytes b)) (hb : base ≤ s.next) :
    Runs Try.prog lib 11 [x] s fun v s' => ∃ jx ic, v = xptr jx ∧ BitIs base s' jx ic b 0 ∧ Stay s.next s s' := by
  refine Runs.enter 7 Try.func11 rfl hl rfl rfl ?_
  intro f hn hf
  have h0 : f.get 0 = x := hf 0
  clear hf
  simp (config := { maxSteps := 1000000, implicitDefEqProofs := false }) (disch := omega) only [allW, allR, evalAll, Nat.reduceLT, Nat.reduceEqDiff, ↓reduceIte, hn, h0]
  refine (new_any hln base s x b hx hb).mono ?_
  rintro _ s1 ⟨rfl, hc, hst, hnx⟩
  simp (config := { maxSteps := 1000000, implicitDefEqProofs := false }) (disch := omega) only [allW, partsA, Nat.reduceLT, ↓reduceIte, hn, bNew]
  refine wstep_newPtr ?_
  intro s2 ht hst2 hn2
  simp (config := { maxSteps := 1000000, implicitDefEqProofs := false }) (disch := omega) only [allW, wfn_ret, oneOf, Nat.reduceLT, Nat.reduceAdd, ↓reduceIte, hn, List.length_cons, List.length_nil, Try.results11]
  exact ⟨s1.next, s.next, rfl, ⟨0, 0, 0, ⟨hc.keeps (by omega) hst2, ht, rfl, by omega, fun h => by omega, by omega, by omega, by omega, by omega⟩, by omega⟩, hst.trans (hst2.weaken (by omega))⟩
theorem align_any {lib : Prims} (hl : lib.at 14 = none) (base : Nat) (s : ASt) (jx ic : Nat) (b : List UInt8) (a : Nat) (h : BitIs base s jx ic b a) (hb : base ≤ s.next) :
    Runs Try.prog lib 14 [xptr jx] s fun _ s' => BitIs base s' jx ic b (8 * ((a + 7) / 8)) ∧ BTo jx ic s s' := by
  obtain ⟨p, now, left, h, hl7⟩ := h
  have he := h.e
  refine Runs.enter 7 Try.func14 rfl hl rfl rfl ?_
  intro f hn hf
  have h0 : f.get 0 = xptr jx := hf 0
  clear hf
  simp (config := { maxSteps := 1000000, implicitDefEqProofs := false }) (disch := omega) only [allW, Nat.reduceLT, Nat.reduceEqDiff, ↓reduceIte, hn, h0, neq_pnil Try.underlying25, bfld2]
  refine wstep_store szInt h.t rfl (by simp) rfl ?_
  intro t2 ht2 hn2 hs2
  simp (config := { maxSteps := 1000000, implicitDefEqProofs := false }) (disch := omega) only [allW, wfn_normal, Try.results14]
  have hst : BTo jx ic s t2 := BTo.put hn2 hs2
  have ha : 8 * ((a + 7) / 8) = 8 * p := by omega
  exact ⟨⟨p, now, 0, ⟨h.c.turns hb (fresh_cptr h.lx) (Turns.ofPut hn2 hs2) (cptr_ne h.ne), ht2, by omega, by omega, fun h => by omega, h.now, h.lx, h.lc, h.ne⟩, by omega⟩, hst⟩
def takes (b : List UInt8) (a : Nat) (n : Int) : Prop := 0 ≤ n ∧ n ≤ 16 ∧ n ≤ 8 * (b.length : Int) - a
instance (b : List UInt8) (a : Nat) (n : Int) : Decidable (takes b a n) := by unfold takes; infer_instance
def tookIs (b : List UInt8) (a : Nat) (n : Int) : Int := if takes b a n then (bitsN b a n.toNat : Nat) else -1
def Took (base : Nat) (s : ASt) (jx ic : Nat) (b : List UInt8) (a : Nat) (n : Int) (v : Value) (s' : ASt) : Prop :=
  v = .int .i64 (tookIs b a n) ∧ BitIs base s' jx ic b (if takes b a n then a + n.toNat else a) ∧ BTo jx ic s s'
set_option maxRecDepth 100000 in
set_option maxHeartbeats 8000000 in
theorem take_anyT {lib : Prims} (hl : lib.at 13 = none) (hln : lib.at 15 = none) (hlp : lib.at 29 = none) (hl0 : lib.at 18 = none) (hl1 : lib.at 30 = none) (hl2 : lib.at 17 = none)
    (base : Nat) (s : ASt) (jx ic : Nat) (b : List UInt8) (a : Nat) (n : Int) (h : BitIs base s jx ic b a) (hb : base ≤ s.next) (hlen : b.length ≤ 1000000) :
    Runs Try.prog lib 13 [xptr jx, .int .i64 n] s (Took base s jx ic b a n) := by
  obtain ⟨p, now, left, h, hl7⟩ := id h
  have he := h.e
  have hjl := h.t.lt
  have hpl : p ≤ b.length := h.c.choose_spec.2.2.2
  have g0 := h.t.load (P := Try.prog) bagCur (off := 0) (c := 4) rfl (by simp)
  have g2 := h.t.load (P := Try.prog) agInt (off := 2) (c := 4) rfl (by simp)
  refine Runs.enter 93 Try.func13 rfl hl rfl rfl ?_
  intro f hn hf
  have h0 : f.get 0 = xptr jx := hf 0
  have h1 : f.get 1 = .int .i64 n := hf 1
  clear hf
  have no : ¬ takes b a n → Took base s jx ic b a n (.int .i64 (-1)) s := fun hno => ⟨by unfold tookIs; rw [if_neg hno], by rw [if_neg hno]; exact ⟨p, now, left, h, hl7⟩, BTo.refl _ _ _⟩
  simp (config := { maxSteps := 1000000, implicitDefEqProofs := false }) (disch := omega) only [allW, Nat.reduceLT, ↓reduceIte, hn]
  refine Drawn.looseK 0 (by kernel_rfl) (by kernel_rfl) ?_
  by_cases c1 : n < 0
  · simp (config := { maxSteps := 1000000, implicitDefEqProofs := false }) (disch := omega) only [allW, allR, allS, Nat.reduceLT, Nat.reduceEqDiff, ↓reduceIte, undef, hn, h0, h1, eql_pnil Try.underlying25, eql_pnil Try.underlying32, bfld0, g0, lowV_ptr, spare_zero, eq_true c1]
    simp (config := { maxSteps := 1000000, implicitDefEqProofs := false }) (disch := omega) only [allW, wfn_ret, oneOf, Nat.reduceLT, ↓reduceIte, hn, Try.results13]
    exact no (fun q => by have := q.1; omega)
  by_cases c2 : 16 < n
  · simp (config := { maxSteps := 1000000, implicitDefEqProofs := false }) (disch := omega) only [allW, allR, allS, Nat.reduceLT, Nat.reduceEqDiff, ↓reduceIte, undef, hn, h0, h1, eql_pnil Try.underlying25, eql_pnil Try.underlying32, bfld0, g0, lowV_ptr, spare_zero, eq_false c1, eq_true c2]
    simp (config := { maxSteps := 1000000, implicitDefEqProofs := false }) (disch := omega) only [allW, wfn_ret, oneOf, Nat.reduceLT, ↓reduceIte, hn, Try.results13]
    exact no (fun q => by have := q.2.1; omega)
  obtain ⟨m, rfl⟩ : ∃ m : Nat, n = m := ⟨n.toNat, by omega⟩
  have hyes : (m : Int) ≤ 8 * (b.length : Int) - a → takes b a m := fun q => ⟨by omega, by omega, q⟩
  by_cases c3 : left < m
  · have c3' : (left : Int) < (m : Int) := by omega
    have e1 : (m : Int) - (left : Int) + 7 = ((m - left + 7 : Nat) : Int) := by omega
    simp (config := { maxSteps := 1000000, implicitDefEqProofs := false }) (disch := omega) only [allW, allR, allS, evalAll, Nat.reduceLT, Nat.reduceEqDiff, ↓reduceIte, undef, hn, h0, h1, eql_pnil Try.underlying25, eql_pnil Try.underlying32, bfld0, bfld2, g0, g2, lowV_ptr, spare_zero, eq_false c1, eq_false c2, eq_true c3', wrapI, e1, bin_quo, quo8]
    refine (left_any hl0 hl1 hl2 base s ic b p h.c (by omega)).mono ?_
    rintro _ s1 ⟨rfl, hs1⟩
    subst hs1
    refine ⟨Stay.refl _ _, ?_⟩
    by_cases c4 : b.length - p < (m - left + 7) / 8
    · have c4' : ((b.length - p : Nat) : Int) < (((m - left + 7) / 8 : Nat) : Int) := by omega
      simp (config := { maxSteps := 1000000, implicitDefEqProofs := false }) (disch := omega) only [allW, allR, allS, Nat.reduceLT, Nat.reduceEqDiff, ↓reduceIte, hn, eq_true c4']
      simp (config := { maxSteps := 1000000, implicitDefEqProofs := false }) (disch := omega) only [allW, wfn_ret, oneOf, Nat.reduceLT, ↓reduceIte, hn, Try.results13]
      exact no (fun q => by have := q.2.2; omega)
    · have c4' : ¬ ((b.length - p : Nat) : Int) < (((m - left + 7) / 8 : Nat) : Int) := by omega
      have hfit : (m : Int) ≤ 8 * (b.length : Int) - a := by omega
      simp (config := { maxSteps := 1000000, implicitDefEqProofs := false }) (disch := omega) only [allW, allR, allS, Nat.reduceLT, Nat.reduceEqDiff, ↓reduceIte, hn, h1, eq_false c4']
      refine Comes.loopAt (fun q f s' => ∃ (i p now left : Nat), q = m - i ∧ i ≤ m ∧ BtAt base s' jx ic b (a + i) p now left ∧ left ≤ 7 ∧ BTo jx ic s1 s' ∧ f.n = 93 ∧ f.get 0 = xptr jx ∧ f.get 5 = .int .i64 (bitsN b a i : Nat) ∧ f.get 48 = .int .i64 m ∧ f.get 49 = .int .i64 i)
        ⟨0, p, now, left, rfl, by omega, h, hl7, BTo.refl _ _ _, by simp only [n_put, hn], by simp only [get_put, ↓reduceIte, Nat.reduceEqDiff, h0], by simp only [get_put, ↓reduceIte, Nat.reduceEqDiff]; rfl, by simp only [get_put, ↓reduceIte, Nat.reduceEqDiff], by simp only [get_put, ↓reduceIte]; rfl⟩ ?_
      clear hn h0 h1 f g0 g2 h he hl7 hpl c3 c3' no
      rintro q f s2 ⟨i, p, nw, lf, rfl, hi, h, hl7, hst, hn, h0, h5, h48, h49⟩
      have hb1 := Nat.le_trans hb hst.next
      have he := h.e
      have hpl : p ≤ b.length := h.c.choose_spec.2.2.2
      by_cases him : i < m
      · have him' : (i : Int) < m := by omega
        have g0 := h.t.load (P := Try.prog) bagCur (off := 0) (c := 4) rfl (by simp)
        have g2 := h.t.load (P := Try.prog) agInt (off := 2) (c := 4) rfl (by simp)
        by_cases hz : lf = 0
        · have hz' : (lf : Int) = 0 := by omega
          have hplt : p < b.length := by omega
          simp (config := { maxSteps := 1000000, implicitDefEqProofs := false }) (disch := omega) only [allW, allR, evalAll, Nat.reduceLT, Nat.reduceEqDiff, ↓reduceIte, hn, h0, h48, h49, eq_true him', bfld0, bfld2, g0, g2, eq_true hz']
          refine (next_any hln hlp hl0 hl1 hl2 base s2 ic b p h.c hb1 (by omega)).mono ?_
          rintro _ s3 ⟨rfl, hc3, ht3⟩
          have hby : byteAt b p = ((b.getD p 0).toNat : Int) := by unfold byteAt; rw [if_pos (by omega), Int.toNat_natCast]
          have htx := h.t.turns ht3 (cptr_ne (fun e => h.ne e.symm))
          have hst3 := hst.trans (BTo.turns (jx := jx) ht3)
          rw [Nat.min_eq_left (by omega)] at hc3
          simp (config := { maxSteps := 1000000, implicitDefEqProofs := false }) (disch := omega) only [allW, Nat.reduceLT, Nat.reduceEqDiff, ↓reduceIte, hn, hby, bfld1]
          refine wstep_store szInt htx rfl (by simp) rfl ?_
          intro t1 ht1 hn1 hs1
          simp (config := { maxSteps := 1000000, implicitDefEqProofs := false }) (disch := omega) only [allW, Nat.reduceLT, Nat.reduceEqDiff, ↓reduceIte, hn, bfld2]
          refine wstep_store szInt ht1 rfl (by simp) rfl ?_
          intro t2 ht2 hn2 hs2
          have hb3 := Nat.le_trans hb hst3.next
          have hc4 := hc3.turns hb3 (fresh_cptr h.lx) (Turns.ofPut hn1 hs1) (cptr_ne h.ne)
          have hc5 := hc4.turns (by omega) (fresh_cptr h.lx) (Turns.ofPut hn2 hs2) (cptr_ne h.ne)
          have hst5 := hst3.trans ((BTo.put (ic := ic) hn1 hs1).trans (BTo.put hn2 hs2))
          have h8 : BtAt base t2 jx ic b (a + i) (p + 1) (b.getD p 0).toNat 8 := ⟨hc5, ht2, by omega, by omega, fun _ => (rest_full b p).symm, (b.getD p 0).toNat_lt, h.lx, h.lc, h.ne⟩
          simp (config := { maxSteps := 1000000, implicitDefEqProofs := false }) (disch := omega) only [allW, Nat.reduceLT, Nat.reduceEqDiff, ↓reduceIte, hn, h0, h5]
          clear hc3 ht3 htx hst3 ht1 hn1 hs1 ht2 hn2 hs2 hb3 hc4 hc5 h g0 g2
          have g1 := (h8).t.load (P := Try.prog) agInt (off := 1) (c := 4) rfl (by simp)
          have hle := (h8).e
          have hl8 := (h8).l8
          have hrest := (h8).r (by omega)
          have hbt := rest_bit (b := b) (a := a + i) (by omega) hl8 hle
          rw [← hrest] at hbt
          have hv := bitsN_lt b a i
          have hb2 := bit_lt b (a + i)
          have hi32 : i < 32 := by omega
          have hrec : bitsN b a i + bit b (a + i) * 2 ^ i = bitsN b a (i + 1) := rfl
          have hor := orI hv hb2 hi32
          rw [hrec] at hor
          have hsh := shlI Try.prog 3 .i64 hb2 hi32
          have hnow := (h8).now
          have han := and1n ((b.getD p 0).toNat) (by omega)
          rw [hbt] at han
          simp (config := { maxSteps := 1000000, implicitDefEqProofs := false }) (disch := omega) only [allW, allR, Nat.reduceLT, Nat.reduceEqDiff, ↓reduceIte, hn, h0, bfld1, g1, bin_and, han, hsh, bin_or, hor, shr1]
          refine wstep_store szInt (h8).t rfl (by simp) rfl ?_
          intro t1 ht1 hn1 hs1
          have g2 := ht1.load (P := Try.prog) agInt (off := 2) (c := 4) rfl (by simp)
          have e1 : ((8 : Nat) : Int) - 1 = ((8 - 1 : Nat) : Int) := by omega
          simp (config := { maxSteps := 1000000, implicitDefEqProofs := false }) (disch := omega) only [allW, allR, Nat.reduceLT, Nat.reduceEqDiff, ↓reduceIte, hn, h0, bfld2, g2, e1, wrapI]
          refine wstep_store szInt ht1 rfl (by simp) rfl ?_
          intro t2 ht2 hn2 hs2
          simp (config := { maxSteps := 1000000, implicitDefEqProofs := false }) (disch := omega) only [allW, Nat.reduceLT, Nat.reduceEqDiff, ↓reduceIte, hn, h49, wrapI]
          have hb0 := Nat.le_trans hb (hst5).next
          have hc1 := (h8).c.turns hb0 (fresh_cptr (h8).lx) (Turns.ofPut hn1 hs1) (cptr_ne (h8).ne)
          have hc2 := hc1.turns (by omega) (fresh_cptr (h8).lx) (Turns.ofPut hn2 hs2) (cptr_ne (h8).ne)
          have hst2 := (hst5).trans ((BTo.put (ic := ic) hn1 hs1).trans (BTo.put hn2 hs2))
          refine wround_next (m - (i + 1)) (by omega) ⟨i + 1, _, (b.getD p 0).toNat / 2, 8 - 1, rfl, by omega, ⟨hc2, ht2, by omega, by omega, fun hlf => by rw [hrest]; exact rest_half (by omega) hl8, by omega, (h8).lx, (h8).lc, (h8).ne⟩, by omega, hst2, by simp only [n_put, hn], by simp only [get_put, ↓reduceIte, Nat.reduceEqDiff, h0], by simp only [get_put, ↓reduceIte, Nat.reduceEqDiff], by simp only [get_put, ↓reduceIte, Nat.reduceEqDiff, h48], by simp only [get_put, ↓reduceIte]; rfl⟩
        · have hz' : ¬ (lf : Int) = 0 := by omega
          simp (config := { maxSteps := 1000000, implicitDefEqProofs := false }) (disch := omega) only [allW, allR, Nat.reduceLT, Nat.reduceEqDiff, ↓reduceIte, hn, h0, h48, h49, h5, eq_true him', bfld2, g2, eq_false hz']
          have g1 := (h).t.load (P := Try.prog) agInt (off := 1) (c := 4) rfl (by simp)
          have hle := (h).e
          have hl8 := (h).l8
          have hrest := (h).r (by omega)
          have hbt := rest_bit (b := b) (a := a + i) (by omega) hl8 hle
          rw [← hrest] at hbt
          have hv := bitsN_lt b a i
          have hb2 := bit_lt b (a + i)
          have hi32 : i < 32 := by omega
          have hrec : bitsN b a i + bit b (a + i) * 2 ^ i = bitsN b a (i + 1) := rfl
          have hor := orI hv hb2 hi32
          rw [hrec] at hor
          have hsh := shlI Try.prog 3 .i64 hb2 hi32
          have hnow := (h).now
          have han := and1n (nw) (by omega)
          rw [hbt] at han
          simp (config := { maxSteps := 1000000, implicitDefEqProofs := false }) (disch := omega) only [allW, allR, Nat.reduceLT, Nat.reduceEqDiff, ↓reduceIte, hn, h0, bfld1, g1, bin_and, han, hsh, bin_or, hor, shr1]
          refine wstep_store szInt (h).t rfl (by simp) rfl ?_
          intro t1 ht1 hn1 hs1
          have g2 := ht1.load (P := Try.prog) agInt (off := 2) (c := 4) rfl (by simp)
          have e1 : ((lf : Nat) : Int) - 1 = ((lf - 1 : Nat) : Int) := by omega
          simp (config := { maxSteps := 1000000, implicitDefEqProofs := false }) (disch := omega) only [allW, allR, Nat.reduceLT, Nat.reduceEqDiff, ↓reduceIte, hn, h0, bfld2, g2, e1, wrapI]
          refine wstep_store szInt ht1 rfl (by simp) rfl ?_
          intro t2 ht2 hn2 hs2
          simp (config := { maxSteps := 1000000, implicitDefEqProofs := false }) (disch := omega) only [allW, Nat.reduceLT, Nat.reduceEqDiff, ↓reduceIte, hn, h49, wrapI]
          have hb0 := Nat.le_trans hb (hst).next
          have hc1 := (h).c.turns hb0 (fresh_cptr (h).lx) (Turns.ofPut hn1 hs1) (cptr_ne (h).ne)
          have hc2 := hc1.turns (by omega) (fresh_cptr (h).lx) (Turns.ofPut hn2 hs2) (cptr_ne (h).ne)
          have hst2 := (hst).trans ((BTo.put (ic := ic) hn1 hs1).trans (BTo.put hn2 hs2))
          refine wround_next (m - (i + 1)) (by omega) ⟨i + 1, _, nw / 2, lf - 1, rfl, by omega, ⟨hc2, ht2, by omega, by omega, fun hlf => by rw [hrest]; exact rest_half (by omega) hl8, by omega, (h).lx, (h).lc, (h).ne⟩, by omega, hst2, by simp only [n_put, hn], by simp only [get_put, ↓reduceIte, Nat.reduceEqDiff, h0], by simp only [get_put, ↓reduceIte, Nat.reduceEqDiff], by simp only [get_put, ↓reduceIte, Nat.reduceEqDiff, h48], by simp only [get_put, ↓reduceIte]; rfl⟩
      · obtain rfl : i = m := by omega
        have him' : ¬ (i : Int) < i := by omega
        simp (config := { maxSteps := 1000000, implicitDefEqProofs := false }) (disch := omega) only [allW, wfn_ret, oneOf, Nat.reduceLT, Nat.reduceEqDiff, ↓reduceIte, hn, h48, h49, h5, eq_false him', Try.results13]
        refine ⟨by unfold tookIs; rw [if_pos (hyes hfit), Int.toNat_natCast], ?_, hst⟩
        rw [if_pos (hyes hfit), Int.toNat_natCast]
        exact ⟨p, nw, lf, h, hl7⟩
  · have c3' : ¬ (left : Int) < (m : Int) := by omega
    have hfit : (m : Int) ≤ 8 * (b.length : Int) - a := by omega
    simp (config := { maxSteps := 1000000, implicitDefEqProofs := false }) (disch := omega) only [allW, allR, allS, Nat.reduceLT, Nat.reduceEqDiff, ↓reduceIte, undef, hn, h0, h1, eql_pnil Try.underlying25, eql_pnil Try.underlying32, bfld0, bfld2, g0, g2, lowV_ptr, spare_zero, eq_false c1, eq_false c2, eq_false c3']
    refine Comes.loopAt (fun q f s' => ∃ (i p now left : Nat), q = m - i ∧ i ≤ m ∧ BtAt base s' jx ic b (a + i) p now left ∧ left ≤ 7 ∧ BTo jx ic s s' ∧ f.n = 93 ∧ f.get 0 = xptr jx ∧ f.get 5 = .int .i64 (bitsN b a i : Nat) ∧ f.get 48 = .int .i64 m ∧ f.get 49 = .int .i64 i)
      ⟨0, p, now, left, rfl, by omega, h, hl7, BTo.refl _ _ _, by simp only [n_put, hn], by simp only [get_put, ↓reduceIte, Nat.reduceEqDiff, h0], by simp only [get_put, ↓reduceIte, Nat.reduceEqDiff]; rfl, by simp only [get_put, ↓reduceIte, Nat.reduceEqDiff], by simp only [get_put, ↓reduceIte]; rfl⟩ ?_
    clear hn h0 h1 f g0 g2 h he hl7 hpl c3 c3' no
    rintro q f s2 ⟨i, p, nw, lf, rfl, hi, h, hl7, hst, hn, h0, h5, h48, h49⟩
    have hb1 := Nat.le_trans hb hst.next
    have he := h.e
    have hpl : p ≤ b.length := h.c.choose_spec.2.2.2
    by_cases him : i < m
    · have him' : (i : Int) < m := by omega
      have g0 := h.t.load (P := Try.prog) bagCur (off := 0) (c := 4) rfl (by simp)
      have g2 := h.t.load (P := Try.prog) agInt (off := 2) (c := 4) rfl (by simp)
      by_cases hz : lf = 0
      · have hz' : (lf : Int) = 0 := by omega
        have hplt : p < b.length := by omega
        simp (config := { maxSteps := 1000000, implicitDefEqProofs := false }) (disch := omega) only [allW, allR, evalAll, Nat.reduceLT, Nat.reduceEqDiff, ↓reduceIte, hn, h0, h48, h49, eq_true him', bfld0, bfld2, g0, g2, eq_true hz']
        refine (next_any hln hlp hl0 hl1 hl2 base s2 ic b p h.c hb1 (by omega)).mono ?_
        rintro _ s3 ⟨rfl, hc3, ht3⟩
        have hby : byteAt b p = ((b.getD p 0).toNat : Int) := by unfold byteAt; rw [if_pos (by omega), Int.toNat_natCast]
        have htx := h.t.turns ht3 (cptr_ne (fun e => h.ne e.symm))
        have hst3 := hst.trans (BTo.turns (jx := jx) ht3)
        rw [Nat.min_eq_left (by omega)] at hc3
        simp (config := { maxSteps := 1000000, implicitDefEqProofs := false }) (disch := omega) only [allW, Nat.reduceLT, Nat.reduceEqDiff, ↓reduceIte, hn, hby, bfld1]
        refine wstep_store szInt htx rfl (by simp) rfl ?_
        intro t1 ht1 hn1 hs1
        simp (config := { maxSteps := 1000000, implicitDefEqProofs := false }) (disch := omega) only [allW, Nat.reduceLT, Nat.reduceEqDiff, ↓reduceIte, hn, bfld2]
        refine wstep_store szInt ht1 rfl (by simp) rfl ?_
        intro t2 ht2 hn2 hs2
        have hb3 := Nat.le_trans hb hst3.next
        have hc4 := hc3.turns hb3 (fresh_cptr h.lx) (Turns.ofPut hn1 hs1) (cptr_ne h.ne)
        have hc5 := hc4.turns (by omega) (fresh_cptr h.lx) (Turns.ofPut hn2 hs2) (cptr_ne h.ne)
        have hst5 := hst3.trans ((BTo.put (ic := ic) hn1 hs1).trans (BTo.put hn2 hs2))
        have h8 : BtAt base t2 jx ic b (a + i) (p + 1) (b.getD p 0).toNat 8 := ⟨hc5, ht2, by omega, by omega, fun _ => (rest_full b p).symm, (b.getD p 0).toNat_lt, h.lx, h.lc, h.ne⟩
        simp (config := { maxSteps := 1000000, implicitDefEqProofs := false }) (disch := omega) only [allW, Nat.reduceLT, Nat.reduceEqDiff, ↓reduceIte, hn, h0, h5]
        clear hc3 ht3 htx hst3 ht1 hn1 hs1 ht2 hn2 hs2 hb3 hc4 hc5 h g0 g2
        have g1 := (h8).t.load (P := Try.prog) agInt (off := 1) (c := 4) rfl (by simp)
        have hle := (h8).e
        have hl8 := (h8).l8
        have hrest := (h8).r (by omega)
        have hbt := rest_bit (b := b) (a := a + i) (by omega) hl8 hle
        rw [← hrest] at hbt
        have hv := bitsN_lt b a i
        have hb2 := bit_lt b (a + i)
        have hi32 : i < 32 := by omega
        have hrec : bitsN b a i + bit b (a + i) * 2 ^ i = bitsN b a (i + 1) := rfl
        have hor := orI hv hb2 hi32
        rw [hrec] at hor
        have hsh := shlI Try.prog 3 .i64 hb2 hi32
        have hnow := (h8).now
        have han := and1n ((b.getD p 0).toNat) (by omega)
        rw [hbt] at han
        simp (config := { maxSteps := 1000000, implicitDefEqProofs := false }) (disch := omega) only [allW, allR, Nat.reduceLT, Nat.reduceEqDiff, ↓reduceIte, hn, h0, bfld1, g1, bin_and, han, hsh, bin_or, hor, shr1]
        refine wstep_store szInt (h8).t rfl (by simp) rfl ?_
        intro t1 ht1 hn1 hs1
        have g2 := ht1.load (P := Try.prog) agInt (off := 2) (c := 4) rfl (by simp)
        have e1 : ((8 : Nat) : Int) - 1 = ((8 - 1 : Nat) : Int) := by omega
        simp (config := { maxSteps := 1000000, implicitDefEqProofs := false }) (disch := omega) only [allW, allR, Nat.reduceLT, Nat.reduceEqDiff, ↓reduceIte, hn, h0, bfld2, g2, e1, wrapI]
        refine wstep_store szInt ht1 rfl (by simp) rfl ?_
        intro t2 ht2 hn2 hs2
        simp (config := { maxSteps := 1000000, implicitDefEqProofs := false }) (disch := omega) only [allW, Nat.reduceLT, Nat.reduceEqDiff, ↓reduceIte, hn, h49, wrapI]
        have hb0 := Nat.le_trans hb (hst5).next
        have hc1 := (h8).c.turns hb0 (fresh_cptr (h8).lx) (Turns.ofPut hn1 hs1) (cptr_ne (h8).ne)
        have hc2 := hc1.turns (by omega) (fresh_cptr (h8).lx) (Turns.ofPut hn2 hs2) (cptr_ne (h8).ne)
        have hst2 := (hst5).trans ((BTo.put (ic := ic) hn1 hs1).trans (BTo.put hn2 hs2))
        refine wround_next (m - (i + 1)) (by omega) ⟨i + 1, _, (b.getD p 0).toNat / 2, 8 - 1, rfl, by omega, ⟨hc2, ht2, by omega, by omega, fun hlf => by rw [hrest]; exact rest_half (by omega) hl8, by omega, (h8).lx, (h8).lc, (h8).ne⟩, by omega, hst2, by simp only [n_put, hn], by simp only [get_put, ↓reduceIte, Nat.reduceEqDiff, h0], by simp only [get_put, ↓reduceIte, Nat.reduceEqDiff], by simp only [get_put, ↓reduceIte, Nat.reduceEqDiff, h48], by simp only [get_put, ↓reduceIte]; rfl⟩
      · have hz' : ¬ (lf : Int) = 0 := by omega
        simp (config := { maxSteps := 1000000, implicitDefEqProofs := false }) (disch := omega) only [allW, allR, Nat.reduceLT, Nat.reduceEqDiff, ↓reduceIte, hn, h0, h48, h49, h5, eq_true him', bfld2, g2, eq_false hz']
        have g1 := (h).t.load (P := Try.prog) agInt (off := 1) (c := 4) rfl (by simp)
        have hle := (h).e
        have hl8 := (h).l8
        have hrest := (h).r (by omega)
        have hbt := rest_bit (b := b) (a := a + i) (by omega) hl8 hle
        rw [← hrest] at hbt
        have hv := bitsN_lt b a i
        have hb2 := bit_lt b (a + i)
        have hi32 : i < 32 := by omega
        have hrec : bitsN b a i + bit b (a + i) * 2 ^ i = bitsN b a (i + 1) := rfl
        have hor := orI hv hb2 hi32
        rw [hrec] at hor
        have hsh := shlI Try.prog 3 .i64 hb2 hi32
        have hnow := (h).now
        have han := and1n (nw) (by omega)
        rw [hbt] at han
        simp (config := { maxSteps := 1000000, implicitDefEqProofs := false }) (disch := omega) only [allW, allR, Nat.reduceLT, Nat.reduceEqDiff, ↓reduceIte, hn, h0, bfld1, g1, bin_and, han, hsh, bin_or, hor, shr1]
        refine wstep_store szInt (h).t rfl (by simp) rfl ?_
        intro t1 ht1 hn1 hs1
        have g2 := ht1.load (P := Try.prog) agInt (off := 2) (c := 4) rfl (by simp)
        have e1 : ((lf : Nat) : Int) - 1 = ((lf - 1 : Nat) : Int) := by omega
        simp (config := { maxSteps := 1000000, implicitDefEqProofs := false }) (disch := omega) only [allW, allR, Nat.reduceLT, Nat.reduceEqDiff, ↓reduceIte, hn, h0, bfld2, g2, e1, wrapI]
        refine wstep_store szInt ht1 rfl (by simp) rfl ?_
        intro t2 ht2 hn2 hs2
        simp (config := { maxSteps := 1000000, implicitDefEqProofs := false }) (disch := omega) only [allW, Nat.reduceLT, Nat.reduceEqDiff, ↓reduceIte, hn, h49, wrapI]
        have hb0 := Nat.le_trans hb (hst).next
        have hc1 := (h).c.turns hb0 (fresh_cptr (h).lx) (Turns.ofPut hn1 hs1) (cptr_ne (h).ne)
        have hc2 := hc1.turns (by omega) (fresh_cptr (h).lx) (Turns.ofPut hn2 hs2) (cptr_ne (h).ne)
        have hst2 := (hst).trans ((BTo.put (ic := ic) hn1 hs1).trans (BTo.put hn2 hs2))
        refine wround_next (m - (i + 1)) (by omega) ⟨i + 1, _, nw / 2, lf - 1, rfl, by omega, ⟨hc2, ht2, by omega, by omega, fun hlf => by rw [hrest]; exact rest_half (by omega) hl8, by omega, (h).lx, (h).lc, (h).ne⟩, by omega, hst2, by simp only [n_put, hn], by simp only [get_put, ↓reduceIte, Nat.reduceEqDiff, h0], by simp only [get_put, ↓reduceIte, Nat.reduceEqDiff], by simp only [get_put, ↓reduceIte, Nat.reduceEqDiff, h48], by simp only [get_put, ↓reduceIte]; rfl⟩
    · obtain rfl : i = m := by omega
      have him' : ¬ (i : Int) < i := by omega
      simp (config := { maxSteps := 1000000, implicitDefEqProofs := false }) (disch := omega) only [allW, wfn_ret, oneOf, Nat.reduceLT, Nat.reduceEqDiff, ↓reduceIte, hn, h48, h49, h5, eq_false him', Try.results13]
      refine ⟨by unfold tookIs; rw [if_pos (hyes hfit), Int.toNat_natCast], ?_, hst⟩
      rw [if_pos (hyes hfit), Int.toNat_natCast]
      exact ⟨p, nw, lf, h, hl7⟩
end Go.Proofs.Ytnclklboogdoiaa
