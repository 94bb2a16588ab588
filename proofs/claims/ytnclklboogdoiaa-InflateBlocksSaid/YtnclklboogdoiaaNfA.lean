/-
  Inflate, the reference: bits, symbols, tables, whatever they are.
-/
import Derived.Test.YtnclklboogdoiaaFixD
import Derived.Test.YtnclklboogdoiaaNfC
set_option linter.unusedSimpArgs false
set_option linter.unusedVariables false
set_option maxRecDepth 100000
namespace Go.Proofs.Ytnclklboogdoiaa
open Go.Cl Go.Cl.Rw Go.Cl.Sto Go.Cl.Fx Go.Cl.Nf
/-- A reader that failed. -/
structure BdAt (base : Nat) (s : ASt) (jf jb e : Nat) (bv pv o m : Value) : Prop where
  b : Thing s jb [bv, pv, .int .i64 (e : Nat)]
  f : Thing s jf [bptr jb, o, m]
  pos : 0 < e
  ne : jb ≠ jf
  lb : base ≤ jb
  lf : base ≤ jf
def Bd (base : Nat) (s : ASt) (jf jb e : Nat) : Prop := ∃ bv pv o m, BdAt base s jf jb e bv pv o m
set_option maxHeartbeats 4000000 in
theorem fail_any {lib : Prims} (hl : lib.at 37 = none) (s : ASt) (jb : Nat) (bv pv : Value) (e : Nat) (h : Thing s jb [bv, pv, .int .i64 0]) :
    Runs Try.prog lib 37 [bptr jb, .int .i64 (e : Nat)] s fun _ s' => Thing s' jb [bv, pv, .int .i64 (e : Nat)] ∧ s'.next = s.next ∧ ∀ i, i ≠ jb → s'.heap.get i = s.heap.get i := by
  refine Runs.enter 13 Try.func37 rfl hl rfl rfl ?_
  intro f hn hf
  have h0 : f.get 0 = bptr jb := hf 0
  have h1 : f.get 1 = .int .i64 (e : Nat) := hf 1
  clear hf
  have l2 := h.load (P := Try.prog) agInt (off := 2) (c := 4) rfl (by simp)
  simp (config := { maxSteps := 1000000, implicitDefEqProofs := false }) (disch := omega) only [allW, allR, Nat.reduceLT, Nat.reduceEqDiff, ↓reduceIte, hn, h0, h1, tfld2, l2]
  refine wstep_store szInt h rfl (by simp) rfl ?_
  intro s1 h1' hn1 hs1
  simp (config := { maxSteps := 1000000, implicitDefEqProofs := false }) (disch := omega) only [allW, wfn_normal, Try.results37]
  exact ⟨h1', hn1, hs1⟩
theorem Fl.bad {base : Nat} {s s' : ASt} {jf jb : Nat} {D P : List UInt8} {p : Nat} {M : Int} {bv o : Value} (h : Fl base s jf jb D p P M bv o) {e : Nat} {pv : Value} (he : 0 < e) (hb : Thing s' jb [bv, pv, .int .i64 (e : Nat)]) (hn : s'.next = s.next) (hs : ∀ i, i ≠ jb → s'.heap.get i = s.heap.get i) : Bd base s' jf jb e ∧ FTo jf jb o s o s' :=
  ⟨⟨_, _, _, _, ⟨hb, h.f.turns (Turns.ofPut (i := jb) (o := 0) (c := none) hn hs) (fun e => h.ne (by injection e)), he, h.ne, h.lb, h.lf⟩⟩, ⟨by omega, fun i _ _ h2 _ => hs i h2, .inl rfl⟩⟩
set_option maxHeartbeats 4000000 in
theorem takeS_any {lib : Prims} (hl : lib.at 32 = none) (hfa : lib.at 37 = none) (base : Nat) (s : ASt) (jf jb : Nat) (D P : List UInt8) (p n : Nat) (M : Int) (bv o : Value) (h : Fl base s jf jb D p P M bv o) (hn16 : n ≤ 16) (hD : ¬ p + n ≤ 8 * D.length) (hpD : p ≤ 8 * D.length) (hDl : D.length ≤ 1000000000) :
    Runs Try.prog lib 32 [bptr jb, .int .i64 n] s fun v s' => v = .int .i64 0 ∧ Bd base s' jf jb 2 ∧ FTo jf jb o s o s' := by
  refine Runs.enter 72 Try.func32 rfl hl rfl rfl ?_
  intro f hn hf
  have h0 : f.get 0 = bptr jb := hf 0
  have h1 : f.get 1 = .int .i64 n := hf 1
  clear hf
  have l0 := h.b.load (P := Try.prog) agSl (off := 0) (c := 4) rfl (by simp)
  have l1 := h.b.load (P := Try.prog) agInt (off := 1) (c := 4) rfl (by simp)
  have l2 := h.b.load (P := Try.prog) agInt (off := 2) (c := 4) rfl (by simp)
  have c1 : (8 * (D.length : Int) - (p : Int) < n) := by omega
  simp (config := { maxSteps := 1000000, implicitDefEqProofs := false }) (disch := omega) only [allW, allR, evalAll, Nat.reduceLT, Nat.reduceEqDiff, ↓reduceIte, hn, h0, h1, tfld0, tfld1, tfld2, l0, l1, l2, h.low.sees.lenA Try.underlying22, h.low.sees.self, wrapI, eq_true c1]
  refine (fail_any hfa s jb bv _ 2 h.b).mono ?_
  rintro _ s1 ⟨hb1, hn1, hs1⟩
  obtain ⟨hB, hto⟩ := h.bad (by decide) hb1 hn1 hs1
  have l2 := hb1.load (P := Try.prog) agInt (off := 2) (c := 4) rfl (by simp)
  have c0 : ¬ ((2 : Nat) : Int) = 0 := by decide
  simp (config := { maxSteps := 1000000, implicitDefEqProofs := false }) (disch := omega) only [allW, allR, wfn_ret, oneOf, Nat.reduceLT, Nat.reduceEqDiff, ↓reduceIte, undef, hn, h0, tfld2, l2, eq_false c0, Try.results32]
  exact ⟨hB, hto⟩
set_option maxHeartbeats 4000000 in
theorem takeB_any {lib : Prims} (hl : lib.at 32 = none) (base : Nat) (s : ASt) (jf jb e : Nat) (n : Nat) (h : Bd base s jf jb e) :
    Runs Try.prog lib 32 [bptr jb, .int .i64 n] s fun v s' => v = .int .i64 0 ∧ s' = s := by
  obtain ⟨bv, pv, o, m, h⟩ := h
  refine Runs.enter 72 Try.func32 rfl hl rfl rfl ?_
  intro f hn hf
  have h0 : f.get 0 = bptr jb := hf 0
  have h1 : f.get 1 = .int .i64 n := hf 1
  clear hf
  have l2 := h.b.load (P := Try.prog) agInt (off := 2) (c := 4) rfl (by simp)
  have hp := h.pos
  have c0 : ¬ (e : Int) = 0 := by omega
  simp (config := { maxSteps := 1000000, implicitDefEqProofs := false }) (disch := omega) only [allW, allR, wfn_ret, oneOf, Nat.reduceLT, Nat.reduceEqDiff, ↓reduceIte, undef, hn, h0, tfld2, l2, eq_false c0, Try.results32]
set_option maxHeartbeats 4000000 in
theorem fputL_any {lib : Prims} (hl : lib.at 57 = none) (hfa : lib.at 37 = none) (base : Nat) (s : ASt) (jf jb : Nat) (D P : List UInt8) (p : Nat) (M : Int) (c : UInt8) (bv o : Value) (h : Fl base s jf jb D p P M bv o) (hM : M ≤ (P.length : Int)) :
    Runs Try.prog lib 57 [bptr jf, .int .u8 c.toNat] s fun _ s' => Bd base s' jf jb 7 ∧ FTo jf jb o s o s' := by
  refine Runs.enter 47 Try.func57 rfl hl rfl rfl ?_
  intro f hn hf
  have h0 : f.get 0 = bptr jf := hf 0
  have h1 : f.get 1 = .int .u8 c.toNat := hf 1
  clear hf
  have l2 := h.b.load (P := Try.prog) agInt (off := 2) (c := 4) rfl (by simp)
  have w0 := h.f.load (P := Try.prog) agBitsP (off := 0) (c := 4) rfl (by simp)
  have w1 := h.f.load (P := Try.prog) agSl (off := 1) (c := 4) rfl (by simp)
  have w2 := h.f.load (P := Try.prog) agInt (off := 2) (c := 4) rfl (by simp)
  simp (config := { maxSteps := 1000000, implicitDefEqProofs := false }) (disch := omega) only [allW, allR, evalAll, Nat.reduceLT, Nat.reduceEqDiff, ↓reduceIte, hn, h0, tfld2, wfld0, wfld1, wfld2, l2, w0, w1, w2, h.own.sees.lenA Try.underlying22, h.own.self, eq_true hM]
  refine (fail_any hfa s jb bv _ 7 h.b).mono ?_
  rintro _ s1 ⟨hb1, hn1, hs1⟩
  obtain ⟨hB, hto⟩ := h.bad (by decide) hb1 hn1 hs1
  have hf1 := h.f.turns (Turns.ofPut (i := jb) (o := 0) (c := none) hn1 hs1) (fun e => h.ne (by injection e))
  have w0 := hf1.load (P := Try.prog) agBitsP (off := 0) (c := 4) rfl (by simp)
  have l2 := hb1.load (P := Try.prog) agInt (off := 2) (c := 4) rfl (by simp)
  have c0 : ¬ ((7 : Nat) : Int) = 0 := by decide
  simp (config := { maxSteps := 1000000, implicitDefEqProofs := false }) (disch := omega) only [allW, allR, wfn_normal, Nat.reduceLT, Nat.reduceEqDiff, ↓reduceIte, undef, hn, h0, wfld0, w0, tfld2, l2, eq_false c0, Try.results57]
  exact ⟨hB, hto⟩
set_option maxHeartbeats 4000000 in
theorem fputB_any {lib : Prims} (hl : lib.at 57 = none) (base : Nat) (s : ASt) (jf jb e : Nat) (c : Value) (h : Bd base s jf jb e) :
    Runs Try.prog lib 57 [bptr jf, c] s fun _ s' => s' = s := by
  obtain ⟨bv, pv, o, m, h⟩ := h
  refine Runs.enter 47 Try.func57 rfl hl rfl rfl ?_
  intro f hn hf
  have h0 : f.get 0 = bptr jf := hf 0
  have h1 : f.get 1 = c := hf 1
  clear hf
  have l2 := h.b.load (P := Try.prog) agInt (off := 2) (c := 4) rfl (by simp)
  have w0 := h.f.load (P := Try.prog) agBitsP (off := 0) (c := 4) rfl (by simp)
  have hp := h.pos
  have c0 : ¬ (e : Int) = 0 := by omega
  simp (config := { maxSteps := 1000000, implicitDefEqProofs := false }) (disch := omega) only [allW, allR, wfn_normal, Nat.reduceLT, Nat.reduceEqDiff, ↓reduceIte, undef, hn, h0, tfld2, wfld0, l2, w0, eq_false c0, Try.results57]
/-- A table, apart from the reader. -/
def Tab (jf jb : Nat) (o : Value) (s : ASt) (a : Value) (C : List Nat) : Prop := Sees s 1 a C.length (natsV C) ∧ ∀ i, idOf a = some i → i < s.next ∧ i ≠ jf ∧ i ≠ jb ∧ idOf o ≠ some i
theorem Tab.to {jf jb : Nat} {o o' a : Value} {s s' : ASt} {C : List Nat} (h : Tab jf jb o s a C) (k : FTo jf jb o s o' s') : Tab jf jb o' s' a C := by
  obtain ⟨h1, h2⟩ := h
  refine ⟨?_, fun i hi => ⟨Nat.lt_of_lt_of_le (h2 i hi).1 k.next, (h2 i hi).2.1, (h2 i hi).2.2.1, ?_⟩⟩
  · generalize natsV C = L at h1
    generalize C.length = n at h1
    cases h1 with
    | nil => exact .nil
    | bare i off => exact .bare i off
    | of i off n c b l hi hb hz hl hc hlen hoff ht =>
      have := h2 i rfl
      refine .of i off _ c b _ (Nat.lt_of_lt_of_le hi k.next) ?_ hz hl hc hlen hoff ht
      simp only [ASt.blk?, k.get i hi this.2.1 this.2.2.1 this.2.2.2]; exact hb
  · rcases k.id with e | ⟨q, e, hq⟩
    · rw [e]; exact (h2 i hi).2.2.2
    · rw [e]; intro e2; injection e2 with e2; have := (h2 i hi).1; omega
/-- What comes of a symbol. -/
def SymR (base jf jb : Nat) (D P : List UInt8) (M : Int) (bv o : Value) (s : ASt) (v : Value) (s' : ASt) : Except Nat (Nat × Nat) → Prop
  | .ok (x, q) => v = .int .i64 (x : Nat) ∧ Fl base s' jf jb D q P M bv o ∧ FTo jf jb o s o s'
  | .error e => v = .int .i64 0 ∧ Bd base s' jf jb e ∧ FTo jf jb o s o s'
set_option maxHeartbeats 4000000 in
theorem symN_any {lib : Prims} (hl : lib.at 58 = none) (hlt : lib.at 32 = none) (hfa : lib.at 37 = none) (base : Nat) (s : ASt) (jf jb : Nat) (D P : List UInt8) (p : Nat) (M : Int) (bv o : Value) (h : Fl base s jf jb D p P M bv o) (hpD : p ≤ 8 * D.length) (hDl : D.length ≤ 1000000000)
    (ta tc : Value) (C K : List Nat) (hA : Tab jf jb o s ta C) (hK : Tab jf jb o s tc K) (hKO : KOk C K) (hCl : C.length ≤ 1000) :
    Runs Try.prog lib 58 [bptr jb, ta, tc] s fun v s' => SymR base jf jb D P M bv o s v s' (sym D C p) := by
  obtain ⟨hKl, hKc⟩ := hKO
  refine Runs.enter 47 Try.func58 rfl hl rfl rfl ?_
  intro f hn hf
  have h0 : f.get 0 = bptr jb := hf 0
  have h1 : f.get 1 = ta := hf 1
  have h2 : f.get 2 = tc := hf 2
  clear hf
  simp (config := { maxSteps := 1000000, implicitDefEqProofs := false }) (disch := omega) only [allW, Nat.reduceLT, ↓reduceIte, hn]
  refine Comes.loopOut (fun z f t => ∃ k : Nat, z = 15 - k ∧ k ≤ 15 ∧ p + k ≤ 8 * D.length ∧ symF D C p (15 - k) k = sym D C p ∧ Fl base t jf jb D (p + k) P M bv o ∧ FTo jf jb o s o t ∧ Tab jf jb o t ta C ∧ Tab jf jb o t tc K ∧ f.n = 47 ∧ f.get 0 = bptr jb ∧ f.get 1 = ta ∧ f.get 2 = tc ∧ f.get 7 = .int .i64 (hi D p k : Nat) ∧ f.get 8 = .int .i64 ((k : Int) + 1))
    (fun z f t => (z = .ret ∧ f.n = 47 ∧ SymR base jf jb D P M bv o s (f.get 6) t (sym D C p)) ∨ (z = .exit 0 ∧ sym D C p = .error 4 ∧ Fl base t jf jb D (p + 15) P M bv o ∧ FTo jf jb o s o t ∧ f.n = 47 ∧ f.get 0 = bptr jb))
    ⟨0, rfl, by omega, by omega, rfl, h, FTo.refl _ _ _ _, hA, hK, by simp only [n_put, hn], by simp only [get_put, ↓reduceIte, Nat.reduceEqDiff, h0], by simp only [get_put, ↓reduceIte, Nat.reduceEqDiff, h1], by simp only [get_put, ↓reduceIte, Nat.reduceEqDiff, h2], by simp only [get_put, ↓reduceIte, Nat.reduceEqDiff]; rfl, by simp only [get_put, ↓reduceIte]; rfl⟩ ?_ ?_
  · clear hn h0 h1 h2 f h hA hK
    rintro Q hQ z f t ⟨k, rfl, hk, hkD, hsy, hF, hto, hA, hK, hn, h0, h1, h2, h7, h8⟩
    by_cases hk15 : k < 15
    rotate_left
    · obtain rfl : k = 15 := by omega
      have d1 : ¬ ((15 : Nat) : Int) + 1 ≤ 15 := by omega
      simp (config := { maxSteps := 1000000, implicitDefEqProofs := false }) (disch := omega) only [allW, Nat.reduceLT, ↓reduceIte, hn, h8, eq_false d1]
      exact hQ _ _ _ (.inr ⟨rfl, hsy.symm, hF, hto, by simp only [n_put, hn], by simp only [get_put, ↓reduceIte, Nat.reduceEqDiff, h0]⟩)
    have d1 : (k : Int) + 1 ≤ 15 := by omega
    have hp15 : 2 ^ k ≤ 2 ^ 15 := Nat.pow_le_pow_right (by omega) (by omega)
    have hp2 : (2 : Nat) ^ 15 = 32768 := by decide
    have hhl := hi_lt D p k
    have hsh := shlT Try.prog 3 .u64 (x := hi D p k) (by omega)
    rw [show 15 - k = (15 - (k + 1)) + 1 by omega, symF] at hsy
    simp (config := { maxSteps := 1000000, implicitDefEqProofs := false }) (disch := omega) only [allW, allR, evalAll, Nat.reduceLT, Nat.reduceEqDiff, ↓reduceIte, hn, h0, h7, h8, eq_true d1, hsh]
    by_cases hroom : p + (k + 1) ≤ 8 * D.length
    rotate_left
    · rw [if_neg hroom] at hsy
      refine (takeS_any hlt hfa base t jf jb D P (p + k) 1 M bv o hF (by omega) (by omega) hkD hDl).mono ?_
      rintro _ t1 ⟨rfl, hB1, to1⟩
      obtain ⟨bv', pv', o', m', hB⟩ := id hB1
      have l2 := hB.b.load (P := Try.prog) agInt (off := 2) (c := 4) rfl (by simp)
      have c0 : ¬ ((2 : Nat) : Int) = 0 := by decide
      simp (config := { maxSteps := 1000000, implicitDefEqProofs := false }) (disch := omega) only [allW, allR, Nat.reduceLT, Nat.reduceEqDiff, ↓reduceIte, hn, h0, bin_or, tfld2, l2, eq_false c0]
      exact hQ _ _ _ (.inl ⟨rfl, by simp only [n_put, hn], by rw [← hsy]; exact ⟨by simp only [get_put, ↓reduceIte], hB1, hto.trans to1⟩⟩)
    rw [if_pos hroom] at hsy
    refine (takeT_any hlt base t jf jb D P (p + k) 1 M bv o hF (by omega) (by omega) hDl).mono ?_
    rintro _ t1 ⟨rfl, hF1, to1⟩
    rw [bitsN_one]
    have hor := orTwo (x := hi D p k) (b := bit D (p + k)) (by omega) (bit_lt _ _)
    have ehi : 2 * hi D p k + bit D (p + k) = hi D p (k + 1) := rfl
    rw [ehi] at hor
    have hA1 := hA.to to1
    have hK1 := hK.to to1
    have hK2 : Sees t1 1 tc C.length (natsV K) := by rw [← hKl]; exact hK1.1
    have to1 := hto.trans to1
    have l2 := hF1.b.load (P := Try.prog) agInt (off := 2) (c := 4) rfl (by simp)
    simp (config := { maxSteps := 1000000, implicitDefEqProofs := false }) (disch := omega) only [allW, allR, Nat.reduceLT, Nat.reduceEqDiff, ↓reduceIte, hn, h0, bin_or, hor, tfld2, l2]
    refine Comes.loopOut (fun z f t' => ∃ i : Nat, z = C.length - i ∧ i ≤ C.length ∧ (∀ j, j < i → C.getD j 0 = k + 1 → K.getD j 0 ≠ hi D p (k + 1)) ∧ t' = t1 ∧ f.n = 47 ∧ f.get 0 = bptr jb ∧ f.get 1 = ta ∧ f.get 2 = tc ∧ f.get 7 = .int .i64 (hi D p (k + 1) : Nat) ∧ f.get 8 = .int .i64 ((k : Int) + 1) ∧ f.get 9 = .int .i64 (i : Nat))
      (fun z f t' => (z = .ret ∧ symAt D C p (k + 1) ∧ t' = t1 ∧ f.n = 47 ∧ f.get 6 = .int .i64 (nth D C p (k + 1) : Nat)) ∨ (z = .exit 2 ∧ ¬ symAt D C p (k + 1) ∧ t' = t1 ∧ f.n = 47 ∧ f.get 0 = bptr jb ∧ f.get 1 = ta ∧ f.get 2 = tc ∧ f.get 7 = .int .i64 (hi D p (k + 1) : Nat) ∧ f.get 8 = .int .i64 ((k : Int) + 1)))
      ⟨0, rfl, by omega, fun j hj => absurd hj (Nat.not_lt_zero j), rfl, by simp only [n_put, hn], by simp only [get_put, ↓reduceIte, Nat.reduceEqDiff, h0], by simp only [get_put, ↓reduceIte, Nat.reduceEqDiff, h1], by simp only [get_put, ↓reduceIte, Nat.reduceEqDiff, h2], by simp only [get_put, ↓reduceIte, Nat.reduceEqDiff], by simp only [get_put, ↓reduceIte, Nat.reduceEqDiff, h8], by simp only [get_put, ↓reduceIte]; rfl⟩ ?_ ?_
    · clear hn h0 h1 h2 h7 h8 f
      rintro Q2 hQ2 z f t' ⟨i, rfl, hi', hiq, rfl, hn, h0, h1, h2, h7, h8, h9⟩
      by_cases hic : i < C.length
      rotate_left
      · obtain rfl : i = C.length := by omega
        have d2 : ¬ ((C.length : Nat) : Int) < ((C.length : Nat) : Int) := by omega
        have hno : ¬ symAt D C p (k + 1) := fun hat => by
          obtain ⟨k1, k2, k3⟩ := nth_at hat
          have k4 := hKc _ k1 (by omega) (by omega)
          rw [k2] at k4
          exact hiq _ k1 k2 (by omega)
        simp (config := { maxSteps := 1000000, implicitDefEqProofs := false }) (disch := omega) only [allW, allR, evalAll, Nat.reduceLT, Nat.reduceEqDiff, ↓reduceIte, hn, h1, h9, hA1.1.lenA uCodeF, eq_false d2]
        exact hQ2 _ _ _ (.inr ⟨rfl, hno, rfl, by simp only [n_put, hn], by simp only [get_put, ↓reduceIte, Nat.reduceEqDiff, h0], by simp only [get_put, ↓reduceIte, Nat.reduceEqDiff, h1], by simp only [get_put, ↓reduceIte, Nat.reduceEqDiff, h2], by simp only [get_put, ↓reduceIte, Nat.reduceEqDiff, h7], by simp only [get_put, ↓reduceIte, Nat.reduceEqDiff, h8]⟩)
      have d2 : (i : Int) < (C.length : Int) := by omega
      have hi1 := hA1.1.indexAddr (P := Try.prog) (k := .i64) (x := (i : Int)) uCodeF szInt (by omega) (by omega)
      have hi2 := hK2.indexAddr (P := Try.prog) (k := .i64) (x := (i : Int)) uIntsF szInt (by omega) (by omega)
      rw [Int.toNat_natCast] at hi1 hi2
      have k1 := hA1.1.load1 (P := Try.prog) agIntF hic
      have k2 := hK2.load1 (P := Try.prog) agIntF hic
      rw [natsV_getD hic] at k1
      rw [natsV_getD (by rw [hKl]; exact hic)] at k2
      by_cases e1 : C.getD i 0 = k + 1
      · have d3 : ((C.getD i 0 : Nat) : Int) = (k : Int) + 1 := by omega
        by_cases e2 : K.getD i 0 = hi D p (k + 1)
        · have d4 : ((K.getD i 0 : Nat) : Int) = ((hi D p (k + 1) : Nat) : Int) := by omega
          have k4 := hKc i hic (by omega) (by omega)
          rw [e1] at k4
          obtain ⟨a1, a2⟩ := nth_only (D := D) (p := p) hic e1 (by omega)
          simp (config := { maxSteps := 1000000, implicitDefEqProofs := false }) (disch := omega) only [allW, allR, evalAll, Nat.reduceLT, Nat.reduceEqDiff, ↓reduceIte, hn, h1, h2, h7, h8, h9, hA1.1.lenA uCodeF, eq_true d2, hi1, hi2, k1, k2, eq_true d3, eq_true d4]
          exact hQ2 _ _ _ (.inl ⟨rfl, a1, rfl, by simp only [n_put, hn], by simp only [get_put, ↓reduceIte]; rw [a2]⟩)
        · have d4 : ¬ ((K.getD i 0 : Nat) : Int) = ((hi D p (k + 1) : Nat) : Int) := by omega
          simp (config := { maxSteps := 1000000, implicitDefEqProofs := false }) (disch := omega) only [allW, allR, evalAll, Nat.reduceLT, Nat.reduceEqDiff, ↓reduceIte, hn, h1, h2, h7, h8, h9, hA1.1.lenA uCodeF, eq_true d2, hi1, hi2, k1, k2, eq_true d3, eq_false d4, wrapI]
          exact wround_next (C.length - (i + 1)) (by omega) ⟨i + 1, rfl, by omega, fun j hj e => by
            by_cases e3 : j = i
            · subst e3; exact e2
            · exact hiq j (by omega) e, rfl, by simp only [n_put, hn], by simp only [get_put, ↓reduceIte, Nat.reduceEqDiff, h0], by simp only [get_put, ↓reduceIte, Nat.reduceEqDiff, h1], by simp only [get_put, ↓reduceIte, Nat.reduceEqDiff, h2], by simp only [get_put, ↓reduceIte, Nat.reduceEqDiff, h7], by simp only [get_put, ↓reduceIte, Nat.reduceEqDiff, h8], by simp only [get_put, ↓reduceIte]; rfl⟩
      · have d3 : ¬ ((C.getD i 0 : Nat) : Int) = (k : Int) + 1 := by omega
        simp (config := { maxSteps := 1000000, implicitDefEqProofs := false }) (disch := omega) only [allW, allR, evalAll, Nat.reduceLT, Nat.reduceEqDiff, ↓reduceIte, undef, hn, h1, h8, h9, hA1.1.lenA uCodeF, eq_true d2, hi1, k1, eq_false d3, wrapI]
        exact wround_next (C.length - (i + 1)) (by omega) ⟨i + 1, rfl, by omega, fun j hj e => by
          by_cases e3 : j = i
          · subst e3; exact absurd e e1
          · exact hiq j (by omega) e, rfl, by simp only [n_put, hn], by simp only [get_put, ↓reduceIte, Nat.reduceEqDiff, h0], by simp only [get_put, ↓reduceIte, Nat.reduceEqDiff, h1], by simp only [get_put, ↓reduceIte, Nat.reduceEqDiff, h2], by simp only [get_put, ↓reduceIte, Nat.reduceEqDiff, h7], by simp only [get_put, ↓reduceIte, Nat.reduceEqDiff, h8], by simp only [get_put, ↓reduceIte]; rfl⟩
    clear hn h0 h1 h2 h7 h8 f
    rintro z f t' (⟨rfl, e, rfl, hn, h6⟩ | ⟨rfl, e, rfl, hn, h0, h1, h2, h7, h8⟩)
    · rw [if_pos e] at hsy
      simp (config := { maxSteps := 1000000, implicitDefEqProofs := false }) (disch := omega) only [allW]
      exact hQ _ _ _ (.inl ⟨rfl, by simp only [hn], by rw [← hsy]; exact ⟨by simp only [h6], hF1, to1⟩⟩)
    · rw [if_neg e] at hsy
      simp (config := { maxSteps := 1000000, implicitDefEqProofs := false }) (disch := omega) only [allW, Nat.reduceLT, ↓reduceIte, hn, h8, wrapI]
      exact wround_next (15 - (k + 1)) (by omega) ⟨k + 1, rfl, by omega, by omega, hsy, hF1, to1, hA1, hK1, by simp only [n_put, hn], by simp only [get_put, ↓reduceIte, Nat.reduceEqDiff, h0], by simp only [get_put, ↓reduceIte, Nat.reduceEqDiff, h1], by simp only [get_put, ↓reduceIte, Nat.reduceEqDiff, h2], by simp only [get_put, ↓reduceIte, Nat.reduceEqDiff, h7], by simp only [get_put, ↓reduceIte]; rfl⟩
  clear hn h0 h1 h2 f
  rintro z f t (⟨rfl, hn, hR⟩ | ⟨rfl, hsy, hF, hto, hn, h0⟩)
  · simp (config := { maxSteps := 1000000, implicitDefEqProofs := false }) (disch := omega) only [allW, wfn_ret, oneOf, Nat.reduceLT, ↓reduceIte, hn, Try.results58]
    exact hR
  · simp (config := { maxSteps := 1000000, implicitDefEqProofs := false }) (disch := omega) only [allW, allR, evalAll, Nat.reduceLT, ↓reduceIte, hn, h0]
    refine (fail_any hfa t jb bv _ 4 hF.b).mono ?_
    rintro _ s1 ⟨hb1, hn1, hs1⟩
    obtain ⟨hB, hto1⟩ := hF.bad (by decide) hb1 hn1 hs1
    simp (config := { maxSteps := 1000000, implicitDefEqProofs := false }) (disch := omega) only [allW, wfn_ret, oneOf, Nat.reduceLT, ↓reduceIte, hn, Try.results58]
    rw [hsy]
    exact ⟨rfl, hB, hto.trans hto1⟩
set_option maxHeartbeats 4000000 in
theorem symB_any {lib : Prims} (hl : lib.at 58 = none) (hlt : lib.at 32 = none) (base : Nat) (s : ASt) (jf jb e : Nat) (ta tc : Value) (h : Bd base s jf jb e) :
    Runs Try.prog lib 58 [bptr jb, ta, tc] s fun v s' => v = .int .i64 0 ∧ s' = s := by
  obtain ⟨bv, pv, o, m, hB⟩ := id h
  refine Runs.enter 47 Try.func58 rfl hl rfl rfl ?_
  intro f hn hf
  have h0 : f.get 0 = bptr jb := hf 0
  have h1 : f.get 1 = ta := hf 1
  have h2 : f.get 2 = tc := hf 2
  clear hf
  have hp := hB.pos
  have c0 : ¬ (e : Int) = 0 := by omega
  have hsh := shlT Try.prog 3 .u64 (x := 0) (by omega)
  have hsh : binA Try.prog .shl 3 (.int .i64 0) (.int .u64 1) = some (.int .i64 0) := hsh
  have d1 : (1 : Int) ≤ 15 := by decide
  simp (config := { maxSteps := 1000000, implicitDefEqProofs := false }) (disch := omega) only [allW, Nat.reduceLT, ↓reduceIte, hn]
  refine Comes.loopOut (fun z f t => z = 0 ∧ t = s ∧ f.n = 47 ∧ f.get 0 = bptr jb ∧ f.get 7 = .int .i64 0 ∧ f.get 8 = .int .i64 1)
    (fun z f t => z = .ret ∧ t = s ∧ f.n = 47 ∧ f.get 6 = .int .i64 0) ⟨rfl, rfl, by simp only [n_put, hn], by simp only [get_put, ↓reduceIte, Nat.reduceEqDiff, h0], by simp only [get_put, ↓reduceIte, Nat.reduceEqDiff], by simp only [get_put, ↓reduceIte]⟩ ?_ ?_
  · clear hn h0 h1 h2 f
    rintro Q hQ z f _ ⟨rfl, rfl, hn, h0, h7, h8⟩
    simp (config := { maxSteps := 1000000, implicitDefEqProofs := false }) (disch := omega) only [allW, allR, evalAll, Nat.reduceLT, Nat.reduceEqDiff, ↓reduceIte, hn, h0, h7, h8, eq_true d1, hsh]
    refine (takeB_any hlt base _ jf jb e 1 h).mono ?_
    rintro _ t1 ⟨rfl, rfl⟩
    have l2 := hB.b.load (P := Try.prog) agInt (off := 2) (c := 4) rfl (by simp)
    simp (config := { maxSteps := 1000000, implicitDefEqProofs := false }) (disch := omega) only [allW, allR, Nat.reduceLT, Nat.reduceEqDiff, ↓reduceIte, hn, h0, bin_or, tfld2, l2, eq_false c0]
    exact hQ _ _ _ ⟨rfl, rfl, by simp only [n_put, hn], by simp only [get_put, ↓reduceIte]⟩
  clear hn h0 h1 h2 f
  rintro z f t ⟨rfl, rfl, hn, h6⟩
  simp (config := { maxSteps := 1000000, implicitDefEqProofs := false }) (disch := omega) only [allW, wfn_ret, oneOf, Nat.reduceLT, ↓reduceIte, hn, h6, Try.results58]
/-! Taking, whether it failed or not. -/
/-- A reader, failed or not, of which nothing comes. -/
def RdO (base jf jb : Nat) (D P : List UInt8) (M : Int) (bv o : Value) (t : ASt) : Except Nat Nat → Prop
  | .ok p => Fl base t jf jb D p P M bv o ∧ p ≤ 8 * D.length
  | .error e => Bd base t jf jb e
theorem RdO.keeps {base jf jb : Nat} {D P : List UInt8} {M : Int} {bv o : Value} {t t' : ASt} {x : Except Nat Nat} (h : RdO base jf jb D P M bv o t x) (k : Stay t.next t t') (hb : base ≤ t.next) : RdO base jf jb D P M bv o t' x := by
  cases x with
  | ok p => exact ⟨⟨h.1.b.keeps k, h.1.f.keeps k, h.1.low.stay (k.weaken hb), h.1.own.keeps k, h.1.fresh, h.1.nb, h.1.nf, h.1.ne, h.1.lb, h.1.lf⟩, h.2⟩
  | error e =>
    obtain ⟨bv', pv, o', m', h⟩ := h
    exact ⟨bv', pv, o', m', ⟨h.b.keeps k, h.f.keeps k, h.pos, h.ne, h.lb, h.lf⟩⟩
/-- One block alone turned. -/
def JTo (j : Nat) (t t' : ASt) : Prop := t'.next = t.next ∧ ∀ i, i ≠ j → t'.heap.get i = t.heap.get i
theorem JTo.refl (j : Nat) (t : ASt) : JTo j t t := ⟨rfl, fun _ _ => rfl⟩
theorem JTo.trans {j : Nat} {t t' t'' : ASt} (h : JTo j t t') (k : JTo j t' t'') : JTo j t t'' := ⟨k.1.trans h.1, fun i hi => (k.2 i hi).trans (h.2 i hi)⟩
theorem JTo.fto {jf jb : Nat} {o : Value} {t t' : ASt} (h : JTo jb t t') : FTo jf jb o t o t' := ⟨by rw [h.1]; exact Nat.le_refl _, fun i _ _ h2 _ => h.2 i h2, .inl rfl⟩
theorem RdO.l2 {base jf jb : Nat} {D P : List UInt8} {M : Int} {bv o : Value} {t : ASt} {x : Except Nat Nat} (h : RdO base jf jb D P M bv o t x) : loadA Try.prog t 3 (.pointer (some ⟨jb, 2, some 4⟩)) = some (.int .i64 (badV x : Nat)) := by
  cases x with
  | ok p => exact h.1.b.load (P := Try.prog) agInt (off := 2) (c := 4) rfl (by simp)
  | error e =>
    obtain ⟨bv', pv, o', m', h⟩ := h
    exact h.b.load (P := Try.prog) agInt (off := 2) (c := 4) rfl (by simp)
theorem RdO.w0 {base jf jb : Nat} {D P : List UInt8} {M : Int} {bv o : Value} {t : ASt} {x : Except Nat Nat} (h : RdO base jf jb D P M bv o t x) : loadA Try.prog t 58 (.pointer (some ⟨jf, 0, some 4⟩)) = some (bptr jb) := by
  cases x with
  | ok p => exact h.1.f.load (P := Try.prog) agBitsP (off := 0) (c := 4) rfl (by simp)
  | error e =>
    obtain ⟨bv', pv, o', m', h⟩ := h
    exact h.f.load (P := Try.prog) agBitsP (off := 0) (c := 4) rfl (by simp)
theorem RdO.bad {base jf jb : Nat} {D P : List UInt8} {M : Int} {bv o : Value} {t : ASt} {x : Except Nat Nat} (h : RdO base jf jb D P M bv o t x) : badV x = 0 ↔ ∃ p, x = .ok p := by
  cases x with
  | ok p => exact ⟨fun _ => ⟨p, rfl⟩, fun _ => rfl⟩
  | error e =>
    obtain ⟨bv', pv, o', m', h⟩ := h
    have := h.pos
    exact ⟨fun e => by simp only [badV] at e; omega, fun ⟨p, e⟩ => by cases e⟩
set_option maxHeartbeats 4000000 in
theorem takeX_any {lib : Prims} (hl : lib.at 32 = none) (hfa : lib.at 37 = none) (base : Nat) (s : ASt) (jf jb : Nat) (D P : List UInt8) (x : Except Nat Nat) (n : Nat) (M : Int) (bv o : Value) (h : RdO base jf jb D P M bv o s x) (hn16 : n ≤ 16) (hDl : D.length ≤ 1000000000) :
    Runs Try.prog lib 32 [bptr jb, .int .i64 n] s fun v s' => v = .int .i64 (takeV D x n : Nat) ∧ RdO base jf jb D P M bv o s' (takeS D x n) ∧ JTo jb s s' := by
  have hRd := h
  refine Runs.enter 72 Try.func32 rfl hl rfl rfl ?_
  intro f hn hf
  have h0 : f.get 0 = bptr jb := hf 0
  have h1 : f.get 1 = .int .i64 n := hf 1
  clear hf
  cases x with
  | error e =>
    obtain ⟨bv', pv, o', m', h⟩ := h
    have l2 := h.b.load (P := Try.prog) agInt (off := 2) (c := 4) rfl (by simp)
    have hp := h.pos
    have c0 : ¬ (e : Int) = 0 := by omega
    simp (config := { maxSteps := 1000000, implicitDefEqProofs := false }) (disch := omega) only [allW, allR, wfn_ret, oneOf, Nat.reduceLT, Nat.reduceEqDiff, ↓reduceIte, undef, hn, h0, tfld2, l2, eq_false c0, Try.results32]
    exact ⟨rfl, hRd, JTo.refl _ _⟩
  | ok p =>
  obtain ⟨h, hpD⟩ := h
  have l0 := h.b.load (P := Try.prog) agSl (off := 0) (c := 4) rfl (by simp)
  have l1 := h.b.load (P := Try.prog) agInt (off := 1) (c := 4) rfl (by simp)
  have l2 := h.b.load (P := Try.prog) agInt (off := 2) (c := 4) rfl (by simp)
  by_cases hD : p + n ≤ 8 * D.length
  rotate_left
  · have c1 : (8 * (D.length : Int) - (p : Int) < n) := by omega
    simp (config := { maxSteps := 1000000, implicitDefEqProofs := false }) (disch := omega) only [allW, allR, evalAll, Nat.reduceLT, Nat.reduceEqDiff, ↓reduceIte, hn, h0, h1, tfld0, tfld1, tfld2, l0, l1, l2, h.low.sees.lenA Try.underlying22, h.low.sees.self, wrapI, eq_true c1]
    refine (fail_any hfa s jb bv _ 2 h.b).mono ?_
    rintro _ s1 ⟨hb1, hn1, hs1⟩
    have hf1 := h.f.turns (Turns.ofPut (i := jb) (o := 0) (c := none) hn1 hs1) (fun e => h.ne (by injection e))
    have l2 := hb1.load (P := Try.prog) agInt (off := 2) (c := 4) rfl (by simp)
    have c0 : ¬ ((2 : Nat) : Int) = 0 := by decide
    simp (config := { maxSteps := 1000000, implicitDefEqProofs := false }) (disch := omega) only [allW, allR, wfn_ret, oneOf, Nat.reduceLT, Nat.reduceEqDiff, ↓reduceIte, undef, hn, h0, tfld2, l2, eq_false c0, Try.results32]
    refine ⟨by simp only [takeV]; rw [if_neg hD]; rfl, ?_, ⟨hn1, hs1⟩⟩
    simp only [takeS]; rw [if_neg hD]
    exact ⟨bv, _, _, _, ⟨hb1, hf1, by decide, h.ne, h.lb, h.lf⟩⟩
  have eV : takeV D (.ok p) n = bitsN D p n := by simp only [takeV]; rw [if_pos hD]
  have eS : takeS D (.ok p) n = .ok (p + n) := by simp only [takeS]; rw [if_pos hD]
  rw [eV, eS]
  have c1 : ¬ (8 * (D.length : Int) - (p : Int) < n) := by omega
  simp (config := { maxSteps := 1000000, implicitDefEqProofs := false }) (disch := omega) only [allW, allR, evalAll, Nat.reduceLT, Nat.reduceEqDiff, ↓reduceIte, hn, h0, h1, tfld0, tfld1, tfld2, l0, l1, l2, h.low.sees.lenA Try.underlying22, h.low.sees.self, wrapI, eq_false c1]
  refine Comes.loopAt (fun q f s' => ∃ (i : Nat), q = n - i ∧ i ≤ n ∧ Fl base s' jf jb D (p + i) P M bv o ∧ JTo jb s s' ∧ f.n = 72 ∧ f.get 0 = bptr jb ∧ f.get 1 = .int .i64 n ∧ f.get 5 = .int .i64 (bitsN D p i : Nat) ∧ f.get 6 = .int .i64 i)
    ⟨0, rfl, by omega, h, JTo.refl _ _, by simp only [n_put, hn], by simp only [get_put, ↓reduceIte, Nat.reduceEqDiff, h0], by simp only [get_put, ↓reduceIte, Nat.reduceEqDiff, h1], by simp only [get_put, ↓reduceIte, Nat.reduceEqDiff]; rfl, by simp only [get_put, ↓reduceIte]; rfl⟩ ?_
  clear hn h0 h1 f l0 l1 l2
  rintro q f s1 ⟨i, rfl, hi, h, hst, hn, h0, h1, h5, h6⟩
  by_cases hin : i < n
  · have hin' : (i : Int) < n := by omega
    have l0 := h.b.load (P := Try.prog) agSl (off := 0) (c := 4) rfl (by simp)
    have l1 := h.b.load (P := Try.prog) agInt (off := 1) (c := 4) rfl (by simp)
    have hm8 : (p + i) % 8 < 8 := Nat.mod_lt _ (by omega)
    have hlt : (p + i) / 8 < D.length := by omega
    have k1 := h.low.sees.load1 (P := Try.prog) agU8 hlt
    rw [ofBytes_getD hlt] at k1
    have hq : (D.getD ((p + i) / 8) 0).toNat / 2 ^ ((p + i) % 8) < 256 := Nat.lt_of_le_of_lt (Nat.div_le_self _ _) (D.getD ((p + i) / 8) 0).toNat_lt
    have hbit : (D.getD ((p + i) / 8) 0).toNat / 2 ^ ((p + i) % 8) % 2 = bit D (p + i) := rfl
    have hb2 := bit_lt D (p + i)
    have hv := bitsN_lt D p i
    have hrec : bitsN D p i + bit D (p + i) * 2 ^ i = bitsN D p (i + 1) := rfl
    have hi32 : i < 32 := by omega
    have hor := orI hv hb2 hi32
    rw [hrec] at hor
    have hidx := h.low.sees.indexAddr (k := .i64) (x := (((p + i) / 8 : Nat) : Int)) Try.underlying22 szU8 (by omega) (by omega)
    rw [Int.toNat_natCast] at hidx
    have hself := h.low.sees.self
    have hsh := shlI Try.prog 3 .u64 hb2 hi32
    simp (config := { maxSteps := 1000000, implicitDefEqProofs := false }) (disch := omega) only [allW, allR, Nat.reduceLT, Nat.reduceEqDiff, ↓reduceIte, hn, h0, h1, h5, h6, eq_true hin', tfld0, tfld1, l0, l1, hself, bin_quo, quo8, bin_rem, rem8, wrapI, hidx, k1, conv_int Try.underlying3 Try.underlying29, wrapu64x, shrB, bin_and, andB, hbit, conv_int Try.underlying5 Try.underlying3, hsh, bin_or, hor, Try.underlying3, Try.underlying29]
    refine wstep_store szInt h.b rfl (by simp) rfl ?_
    intro t2 hb3 hn2 hs2
    simp (config := { maxSteps := 1000000, implicitDefEqProofs := false }) (disch := omega) only [allW, Nat.reduceLT, Nat.reduceEqDiff, ↓reduceIte, hn, h6, wrapI]
    refine wround_next (n - (i + 1)) (by omega) ⟨i + 1, rfl, by omega, h.at (p' := p + (i + 1)) hb3 hn2 hs2, hst.trans ⟨hn2, hs2⟩, by simp only [n_put, hn], by simp only [get_put, ↓reduceIte, Nat.reduceEqDiff, h0], by simp only [get_put, ↓reduceIte, Nat.reduceEqDiff, h1], by simp only [get_put, ↓reduceIte, Nat.reduceEqDiff], by simp only [get_put, ↓reduceIte]; rfl⟩
  · obtain rfl : i = n := by omega
    have hin' : ¬ (i : Int) < i := by omega
    simp (config := { maxSteps := 1000000, implicitDefEqProofs := false }) (disch := omega) only [allW, wfn_ret, oneOf, Nat.reduceLT, Nat.reduceEqDiff, ↓reduceIte, hn, h1, h5, h6, eq_false hin', Try.results32]
    exact ⟨⟨h, hD⟩, hst⟩
set_option maxHeartbeats 4000000 in
theorem failX_any {lib : Prims} (hl : lib.at 37 = none) (base : Nat) (s : ASt) (jf jb : Nat) (D P : List UInt8) (p e : Nat) (M : Int) (bv o : Value) (h : RdO base jf jb D P M bv o s (.ok p)) (he : 0 < e) :
    Runs Try.prog lib 37 [bptr jb, .int .i64 (e : Nat)] s fun _ s' => RdO base jf jb D P M bv o s' (.error e) ∧ JTo jb s s' := by
  obtain ⟨h, -⟩ := h
  refine (fail_any hl s jb bv _ e h.b).mono ?_
  rintro _ s1 ⟨hb1, hn1, hs1⟩
  have hf1 := h.f.turns (Turns.ofPut (i := jb) (o := 0) (c := none) hn1 hs1) (fun e => h.ne (by injection e))
  exact ⟨⟨bv, _, _, _, ⟨hb1, hf1, he, h.ne, h.lb, h.lf⟩⟩, ⟨hn1, hs1⟩⟩
set_option maxHeartbeats 4000000 in
theorem may_any {lib : Prims} (hl : lib.at 61 = none) (s : ASt) (x : Value) (C : List Nat) (hx : Sees s 1 x C.length (natsV C)) (hlen : C.length ≤ 1000) (h15 : Le15 C) :
    Runs Try.prog lib 61 [x] s fun v s' => v = .bool (decide (mayC C)) ∧ s' = s := by
  refine Runs.enter 38 Try.func61 rfl hl rfl rfl ?_
  intro f hn hf
  have h0 : f.get 0 = x := hf 0
  clear hf
  simp (config := { maxSteps := 1000000, implicitDefEqProofs := false }) (disch := omega) only [allW, Nat.reduceLT, ↓reduceIte, hn]
  refine Comes.loopAt (fun z f t => ∃ i : Nat, z = C.length - i ∧ i ≤ C.length ∧ t = s ∧ f.n = 38 ∧ f.get 0 = x ∧ f.get 3 = .int .i64 (sumC (C.take i) : Nat) ∧ f.get 4 = .int .i64 (manyC (C.take i) : Nat) ∧ f.get 5 = .int .i64 (i : Nat))
    ⟨0, rfl, by omega, rfl, by simp only [n_put, hn], by simp only [get_put, ↓reduceIte, Nat.reduceEqDiff, h0], by simp only [get_put, ↓reduceIte, Nat.reduceEqDiff]; rfl, by simp only [get_put, ↓reduceIte, Nat.reduceEqDiff]; rfl, by simp only [get_put, ↓reduceIte]; rfl⟩ ?_
  clear hn h0 f
  rintro z f t ⟨i, rfl, hi, rfl, hn, h0, h3, h4, h5⟩
  by_cases hic : i < C.length
  · have d2 : (i : Int) < (C.length : Int) := by omega
    have hi1 := hx.indexAddr (P := Try.prog) (k := .i64) (x := (i : Int)) uCodeF szInt (by omega) (by omega)
    rw [Int.toNat_natCast] at hi1
    have k1 := hx.load1 (P := Try.prog) agIntF hic
    rw [natsV_getD hic] at k1
    have hs := sumC_next hic
    have hm := manyC_next hic
    have hc15 := h15 i
    have hsl := sumC_le (C.take i)
    have hml := manyC_le (C.take i)
    have htl : (C.take i).length = i := by rw [List.length_take]; omega
    by_cases e1 : 0 < C.getD i 0
    · have d3 : ((C.getD i 0 : Nat) : Int) > 0 := by omega
      rw [if_pos e1] at hs hm
      have e2 : (15 : Int) - ((C.getD i 0 : Nat) : Int) = ((15 - C.getD i 0 : Nat) : Int) := by omega
      have hsh := shlI Try.prog 3 .u64 (b := 1) (by decide) (k := 15 - C.getD i 0) (by omega)
      rw [Nat.one_mul] at hsh
      have hsh : binA Try.prog .shl 3 (.int .i64 1) (.int .u64 ((15 - C.getD i 0 : Nat) : Int)) = some (.int .i64 ((2 ^ (15 - C.getD i 0) : Nat) : Int)) := hsh
      have hpw : 2 ^ (15 - C.getD i 0) ≤ 2 ^ 15 := Nat.pow_le_pow_right (by omega) (by omega)
      have hp2 : (2 : Nat) ^ 15 = 32768 := by decide
      generalize 2 ^ (15 - C.getD i 0) = W at hs hsh hpw
      have e3 : ((sumC (C.take i) : Nat) : Int) + ((W : Nat) : Int) = ((sumC (C.take (i + 1)) : Nat) : Int) := by omega
      have e4 : ((manyC (C.take i) : Nat) : Int) + 1 = ((manyC (C.take (i + 1)) : Nat) : Int) := by omega
      simp (config := { maxSteps := 1000000, implicitDefEqProofs := false }) (disch := omega) only [allW, evalAll, Nat.reduceLT, Nat.reduceEqDiff, ↓reduceIte, hn, h0, h3, h4, h5, hx.lenA uCodeF, eq_true d2, hi1, k1, eq_true d3, e2, wrapI, conv_int Try.underlying3 Try.underlying29, wrapu64x, hsh, e3, e4]
      exact wround_next (C.length - (i + 1)) (by omega) ⟨i + 1, rfl, by omega, rfl, by simp only [n_put, hn], by simp only [get_put, ↓reduceIte, Nat.reduceEqDiff, h0], by simp only [get_put, ↓reduceIte, Nat.reduceEqDiff], by simp only [get_put, ↓reduceIte, Nat.reduceEqDiff], by simp only [get_put, ↓reduceIte]; rfl⟩
    · have d3 : ¬ ((C.getD i 0 : Nat) : Int) > 0 := by omega
      rw [if_neg e1] at hs hm
      simp (config := { maxSteps := 1000000, implicitDefEqProofs := false }) (disch := omega) only [allW, evalAll, Nat.reduceLT, Nat.reduceEqDiff, ↓reduceIte, hn, h0, h5, hx.lenA uCodeF, eq_true d2, hi1, k1, eq_false d3, wrapI]
      exact wround_next (C.length - (i + 1)) (by omega) ⟨i + 1, rfl, by omega, rfl, by simp only [n_put, hn], by simp only [get_put, ↓reduceIte, Nat.reduceEqDiff, h0], by simp only [get_put, ↓reduceIte, Nat.reduceEqDiff, h3]; rw [hs, Nat.add_zero], by simp only [get_put, ↓reduceIte, Nat.reduceEqDiff, h4]; rw [hm, Nat.add_zero], by simp only [get_put, ↓reduceIte]; rfl⟩
  · obtain rfl : i = C.length := by omega
    have d2 : ¬ ((C.length : Nat) : Int) < ((C.length : Nat) : Int) := by omega
    rw [List.take_length] at h3 h4
    by_cases c1 : sumC C ≤ 32768
    · have d3 : ((sumC C : Nat) : Int) ≤ 32768 := by omega
      by_cases c2 : sumC C = 32768
      · have d4 : ((sumC C : Nat) : Int) = 32768 := by omega
        have hm : mayC C := .inl c2
        simp (config := { maxSteps := 1000000, implicitDefEqProofs := false }) (disch := omega) only [allW, allR, wfn_ret, oneOf, evalAll, Nat.reduceLT, Nat.reduceEqDiff, ↓reduceIte, undef, hn, h0, h3, h5, hx.lenA uCodeF, eq_false d2, eq_true d3, eq_true d4, eq_true hm, Try.results61]
      · have d4 : ¬ ((sumC C : Nat) : Int) = 32768 := by omega
        have hm : (((manyC C : Nat) : Int) ≤ 1) = mayC C := propext ⟨fun h => .inr ⟨by omega, by omega⟩, fun h => by rcases h with h | h <;> omega⟩
        simp (config := { maxSteps := 1000000, implicitDefEqProofs := false }) (disch := omega) only [allW, allR, wfn_ret, oneOf, evalAll, Nat.reduceLT, Nat.reduceEqDiff, ↓reduceIte, hn, h0, h3, h4, h5, hx.lenA uCodeF, eq_false d2, eq_true d3, eq_false d4, Try.results61]
        simp only [hm]
    · have d3 : ¬ ((sumC C : Nat) : Int) ≤ 32768 := by omega
      have hm : ¬ mayC C := fun h => by rcases h with h | h <;> omega
      simp (config := { maxSteps := 1000000, implicitDefEqProofs := false }) (disch := omega) only [allW, allR, wfn_ret, oneOf, evalAll, Nat.reduceLT, Nat.reduceEqDiff, ↓reduceIte, undef, hn, h0, h3, h5, hx.lenA uCodeF, eq_false d2, eq_false d3, eq_false hm, Try.results61]
end Go.Proofs.Ytnclklboogdoiaa
