/-
  Inflate, the reference: bits, symbols, tables, whatever they are.
-/
import Derived.Test.YtnclklboogdoiaaFixD
import Derived.Test.YtnclklboogdoiaaNfC
import Derived.Test.YtnclklboogdoiaaFixE
set_option linter.unusedSimpArgs false
set_option linter.unusedVariables false
set_option maxRecDepth 100000
namespace Go.Proofs.Ytnclklboogdoiaa
open Go.Cl Go.Cl.Rw Go.Cl.Sto Go.Cl.Fx Go.Cl.Nf
structure BdAt (base : Nat) (s : ASt) (jf jb e : Nat) (bv pv o m : Value) : Prop where
  b : Thing s jb [bv, pv, .int .i64 (e : Nat)]
  f : Thing s jf [bptr jb, o, m]
  pos : 0 < e
  ne : jb ≠ jf
  lb : base ≤ jb
  lf : base ≤ jf
def Bd (base : Nat) (s : ASt) (jf jb e : Nat) : Prop := ∃ bv pv o m, BdAt base s jf jb e bv pv o m
set_option maxHeartbeats 4000000 in
theorem fail_any {lib : Prims} (hl : lib.at 37 = none) (s : ASt) (jb : Nat) (bv pv : Value) (e : Nat) (h : Thing s jb [bv, pv, .int .i64 0]) :
    Runs Try.prog lib 37 [bptr jb, .int .i64 (e : Nat)] s fun _ s' => Thing s' jb [bv, pv, .int .i64 (e : Nat)] ∧ s'.next = s.next ∧ ∀ i, i ≠ jb → s'.heap.get i = s.heap.get i := by
  refine Runs.enter 13 Try.func37 rfl hl rfl rfl ?_
  intro f hn hf
  have h0 : f.get 0 = bptr jb := hf 0
  have h1 : f.get 1 = .int .i64 (e : Nat) := hf 1
  clear hf
  have l2 := h.load (P := Try.prog) agInt (off := 2) (c := 4) rfl (by simp)
  simp (config := { maxSteps := 1000000, implicitDefEqProofs := false }) (disch := omega) only [allW, allR, Nat.reduceLT, Nat.reduceEqDiff, ↓reduceIte, hn, h0, h1, tfld2, l2]
  refine wstep_store szInt h rfl (by simp) rfl ?_
  intro s1 h1' hn1 hs1
  simp (config := { maxSteps := 1000000, implicitDefEqProofs := false }) (disch := omega) only [allW, wfn_normal, Try.results37]
  exact ⟨h1', hn1, hs1⟩
theorem Fl.bad {base : Nat} {s s' : ASt} {jf jb : Nat} {D P : List UInt8} {p : Nat} {M : Int} {bv o : Value} (h : Fl base s jf jb D p P M bv o) {e : Nat} {pv : Value} (he : 0 < e) (hb : Thing s' jb [bv, pv, .int .i64 (e : Nat)]) (hn : s'.next = s.next) (hs : ∀ i, i ≠ jb → s'.heap.get i = s.heap.get i) : Bd base s' jf jb e ∧ FTo jf jb o s o s' :=
  ⟨⟨_, _, _, _, ⟨hb, h.f.turns (Turns.ofPut (i := jb) (o := 0) (c := none) hn hs) (fun e => h.ne (by injection e)), he, h.ne, h.lb, h.lf⟩⟩, ⟨by omega, fun i _ _ h2 _ => hs i h2, .inl rfl⟩⟩
set_option maxHeartbeats 4000000 in
theorem takeS_any {lib : Prims} (hl : lib.at 32 = none) (hfa : lib.at 37 = none) (base : Nat) (s : ASt) (jf jb : Nat) (D P : List UInt8) (p n : Nat) (M : Int) (bv o : Value) (h : Fl base s jf jb D p P M bv o) (hn16 : n ≤ 16) (hD : ¬ p + n ≤ 8 * D.length) (hpD : p ≤ 8 * D.length) (hDl : D.length ≤ 1000000000) :
    Runs Try.prog lib 32 [bptr jb, .int .i64 n] s fun v s' => v = .int .i64 0 ∧ Bd base s' jf jb 2 ∧ FTo jf jb o s o s' := by
  refine Runs.enter 72 Try.func32 rfl hl rfl rfl ?_
  intro f hn hf
  have h0 : f.get 0 = bptr jb := hf 0
  have h1 : f.get 1 = .int .i64 n := hf 1
  clear hf
  have l0 := h.b.load (P := Try.prog) agSl (off := 0) (c := 4) rfl (by simp)
  have l1 := h.b.load (P := Try.prog) agInt (off := 1) (c := 4) rfl (by simp)
  have l2 := h.b.load (P := Try.prog) agInt (off := 2) (c := 4) rfl (by simp)
  have c1 : (8 * (D.length : Int) - (p : Int) < n) := by omega
  simp (config := { maxSteps := 1000000, implicitDefEqProofs := false }) (disch := omega) only [allW, allR, evalAll, Nat.reduceLT, Nat.reduceEqDiff, ↓reduceIte, hn, h0, h1, tfld0, tfld1, tfld2, l0, l1, l2, h.low.sees.lenA Try.underlying22, h.low.sees.self, wrapI, eq_true c1]
  refine (fail_any hfa s jb bv _ 2 h.b).mono ?_
  rintro _ s1 ⟨hb1, hn1, hs1⟩
  obtain ⟨hB, hto⟩ := h.bad (by decide) hb1 hn1 hs1
  have l2 := hb1.load (P := Try.prog) agInt (off := 2) (c := 4) rfl (by simp)
  have c0 : ¬ ((2 : Nat) : Int) = 0 := by decide
  simp (config := { maxSteps := 1000000, implicitDefEqProofs := false }) (disch := omega) only [allW, allR, wfn_ret, oneOf, Nat.reduceLT, Nat.reduceEqDiff, ↓reduceIte, undef, hn, h0, tfld2, l2, eq_false c0, Try.results32]
  exact ⟨hB, hto⟩
set_option maxHeartbeats 4000000 in
theorem takeB_any {lib : Prims} (hl : lib.at 32 = none) (base : Nat) (s : ASt) (jf jb e : Nat) (n : Nat) (h : Bd base s jf jb e) :
    Runs Try.prog lib 32 [bptr jb, .int .i64 n] s fun v s' => v = .int .i64 0 ∧ s' = s := by
  obtain ⟨bv, pv, o, m, h⟩ := h
  refine Runs.enter 72 Try.func32 rfl hl rfl rfl ?_
  intro f hn hf
  have h0 : f.get 0 = bptr jb := hf 0
  have h1 : f.get 1 = .int .i64 n := hf 1
  clear hf
  have l2 := h.b.load (P := Try.prog) agInt (off := 2) (c := 4) rfl (by simp)
  have hp := h.pos
  have c0 : ¬ (e : Int) = 0 := by omega
  simp (config := { maxSteps := 1000000, implicitDefEqProofs := false }) (disch := omega) only [allW, allR, wfn_ret, oneOf, Nat.reduceLT, Nat.reduceEqDiff, ↓reduceIte, undef, hn, h0, tfld2, l2, eq_false c0, Try.results32]
set_option maxHeartbeats 4000000 in
theorem fputL_any {lib : Prims} (hl : lib.at 57 = none) (hfa : lib.at 37 = none) (base : Nat) (s : ASt) (jf jb : Nat) (D P : List UInt8) (p : Nat) (M : Int) (c : UInt8) (bv o : Value) (h : Fl base s jf jb D p P M bv o) (hM : M ≤ (P.length : Int)) :
    Runs Try.prog lib 57 [bptr jf, .int .u8 c.toNat] s fun _ s' => Bd base s' jf jb 7 ∧ FTo jf jb o s o s' := by
  refine Runs.enter 47 Try.func57 rfl hl rfl rfl ?_
  intro f hn hf
  have h0 : f.get 0 = bptr jf := hf 0
  have h1 : f.get 1 = .int .u8 c.toNat := hf 1
  clear hf
  have l2 := h.b.load (P := Try.prog) agInt (off := 2) (c := 4) rfl (by simp)
  have w0 := h.f.load (P := Try.prog) agBitsP (off := 0) (c := 4) rfl (by simp)
  have w1 := h.f.load (P := Try.prog) agSl (off := 1) (c := 4) rfl (by simp)
  have w2 := h.f.load (P := Try.prog) agInt (off := 2) (c := 4) rfl (by simp)
  simp (config := { maxSteps := 1000000, implicitDefEqProofs := false }) (disch := omega) only [allW, allR, evalAll, Nat.reduceLT, Nat.reduceEqDiff, ↓reduceIte, hn, h0, tfld2, wfld0, wfld1, wfld2, l2, w0, w1, w2, h.own.sees.lenA Try.underlying22, h.own.self, eq_true hM]
  refine (fail_any hfa s jb bv _ 7 h.b).mono ?_
  rintro _ s1 ⟨hb1, hn1, hs1⟩
  obtain ⟨hB, hto⟩ := h.bad (by decide) hb1 hn1 hs1
  have hf1 := h.f.turns (Turns.ofPut (i := jb) (o := 0) (c := none) hn1 hs1) (fun e => h.ne (by injection e))
  have w0 := hf1.load (P := Try.prog) agBitsP (off := 0) (c := 4) rfl (by simp)
  have l2 := hb1.load (P := Try.prog) agInt (off := 2) (c := 4) rfl (by simp)
  have c0 : ¬ ((7 : Nat) : Int) = 0 := by decide
  simp (config := { maxSteps := 1000000, implicitDefEqProofs := false }) (disch := omega) only [allW, allR, wfn_normal, Nat.reduceLT, Nat.reduceEqDiff, ↓reduceIte, undef, hn, h0, wfld0, w0, tfld2, l2, eq_false c0, Try.results57]
  exact ⟨hB, hto⟩
set_option maxHeartbeats 4000000 in
theorem fputB_any {lib : Prims} (hl : lib.at 57 = none) (base : Nat) (s : ASt) (jf jb e : Nat) (c : Value) (h : Bd base s jf jb e) :
    Runs Try.prog lib 57 [bptr jf, c] s fun _ s' => s' = s := by
  obtain ⟨bv, pv, o, m, h⟩ := h
  refine Runs.enter 47 Try.func57 rfl hl rfl rfl ?_
  intro f hn hf
  have h0 : f.get 0 = bptr jf := hf 0
  have h1 : f.get 1 = c := hf 1
  clear hf
  have l2 := h.b.load (P := Try.prog) agInt (off := 2) (c := 4) rfl (by simp)
  have w0 := h.f.load (P := Try.prog) agBitsP (off := 0) (c := 4) rfl (by simp)
  have hp := h.pos
  have c0 : ¬ (e : Int) = 0 := by omega
  simp (config := { maxSteps := 1000000, implicitDefEqProofs := false }) (disch := omega) only [allW, allR, wfn_normal, Nat.reduceLT, Nat.reduceEqDiff, ↓reduceIte, undef, hn, h0, tfld2, wfld0, l2, w0, eq_false c0, Try.results57]
def Tab (jf jb : Nat) (o : Value) (s : ASt) (a : Value) (C : List Nat) : Prop := Sees s 1 a C.length (natsV C) ∧ ∀ i, idOf a = some i → i < s.next ∧ i ≠ jf ∧ i ≠ jb ∧ idOf o ≠ some i
theorem Tab.to {jf jb : Nat} {o o' a : Value} {s s' : ASt} {C : List Nat} (h : Tab jf jb o s a C) (k : FTo jf jb o s o' s') : Tab jf jb o' s' a C := by
  obtain ⟨h1, h2⟩ := h
  refine ⟨?_, fun i hi => ⟨Nat.lt_of_lt_of_le (h2 i hi).1 k.next, (h2 i hi).2.1, (h2 i hi).2.2.1, ?_⟩⟩
  · generalize natsV C = L at h1
    generalize C.length = n at h1
    cases h1 with
    | nil => exact .nil
    | bare i off => exact .bare i off
    | of i off n c b l hi hb hz hl hc hlen hoff ht =>
      have := h2 i rfl
      refine .of i off _ c b _ (Nat.lt_of_lt_of_le hi k.next) ?_ hz hl hc hlen hoff ht
      simp only [ASt.blk?, k.get i hi this.2.1 this.2.2.1 this.2.2.2]; exact hb
  · rcases k.id with e | ⟨q, e, hq⟩
    · rw [e]; exact (h2 i hi).2.2.2
    · rw [e]; intro e2; injection e2 with e2; have := (h2 i hi).1; omega
def SymR (base jf jb : Nat) (D P : List UInt8) (M : Int) (bv o : Value) (s : ASt) (v : Value) (s' : ASt) : Except Nat (Nat × Nat) → Prop
  | .ok (x, q) => v = .int .i64 (x : Nat) ∧ Fl base s' jf jb D q P M bv o ∧ FTo jf jb o s o s'
  | .error e => v = .int .i64 0 ∧ Bd base s' jf jb e ∧ FTo jf jb o s o s'
set_option maxHeartbeats 4000000 in
theorem symN_any {lib : Prims} (hl : lib.at 58 = none) (hlt : lib.at 32 = none) (hfa : lib.at 37 = none) (base : Nat) (s : ASt) (jf jb : Nat) (D P : List UInt8) (p : Nat) (M : Int) (bv o : Value) (h : Fl base s jf jb D p P M bv o) (hpD : p ≤ 8 * D.length) (hDl : D.length ≤ 1000000000)
    (ta tc : Value) (C K : List Nat) (hA : Tab jf jb o s ta C) (hK : Tab jf jb o s tc K) (hKO : KOk C K) (hCl : C.length ≤ 1000) :
    Runs Try.prog lib 58 [bptr jb, ta, tc] s fun v s' => SymR base jf jb D P M bv o s v s' (sym D C p) := by
  obtain ⟨hKl, hKc⟩ := hKO
  refine Runs.enter 47 Try.func58 rfl hl rfl rfl ?_
  intro f hn hf
  have h0 : f.get 0 = bptr jb := hf 0
  have h1 : f.get 1 = ta := hf 1
  have h2 : f.get 2 = tc := hf 2
  clear hf
  simp (config := { maxSteps := 1000000, implicitDefEqProofs := false }) (disch := omega) only [allW, Nat.reduceLT, ↓reduceIte, hn]
  refine Comes.loopOut (fun z f t => ∃ k : Nat, z = 15 - k ∧ k ≤ 15 ∧ p + k ≤ 8 * D.length ∧ symF D C p (15 - k) k = sym D C p ∧ Fl base t jf jb D (p + k) P M bv o ∧ FTo jf jb o s o t ∧ Tab jf jb o t ta C ∧ Tab jf jb o t tc K ∧ f.n = 47 ∧ f.get 0 = bptr jb ∧ f.get 1 = ta ∧ f.get 2 = tc ∧ f.get 7 = .int .i64 (hi D p k : Nat) ∧ f.get 8 = .int .i64 ((k : Int) + 1))
    (fun z f t => (z = .ret ∧ f.n = 47 ∧ SymR base jf jb D P M bv o s (f.get 6) t (sym D C p)) ∨ (z = .exit 0 ∧ sym D C p = .error 4 ∧ Fl base t jf jb D (p + 15) P M bv o ∧ FTo jf jb o s o t ∧ f.n = 47 ∧ f.get 0 = bptr jb))
    ⟨0, rfl, by omega, by omega, rfl, h, FTo.refl _ _ _ _, hA, hK, by simp only [n_put, hn], by simp only [get_put, ↓reduceIte, Nat.reduceEqDiff, h0], by simp only [get_put, ↓reduceIte, Nat.reduceEqDiff, h1], by simp only [get_put, ↓reduceIte, Nat.reduceEqDiff, h2], by simp only [get_put, ↓reduceIte, Nat.reduceEqDiff]; rfl, by simp only [get_put, ↓reduceIte]; rfl⟩ ?_ ?_
  · clear hn h0 h1 h2 f h hA hK
    rintro Q hQ z f t ⟨k, rfl, hk, hkD, hsy, hF, hto, hA, hK, hn, h0, h1, h2, h7, h8⟩
    by_cases hk15 : k < 15
    rotate_left
    · obtain rfl : k = 15 := by omega
      have d1 : ¬ ((15 : Nat) : Int) + 1 ≤ 15 := by omega
      simp (config := { maxSteps := 1000000, implicitDefEqProofs := false }) (disch := omega) only [allW, Nat.reduceLT, ↓reduceIte, hn, h8, eq_false d1]
      exact hQ _ _ _ (.inr ⟨rfl, hsy.symm, hF, hto, by simp only [n_put, hn], by simp only [get_put, ↓reduceIte, Nat.reduceEqDiff, h0]⟩)
    have d1 : (k : Int) + 1 ≤ 15 := by omega
    have hp15 : 2 ^ k ≤ 2 ^ 15 := Nat.pow_le_pow_right (by omega) (by omega)
    have hp2 : (2 : Nat) ^ 15 = 32768 := by decide
    have hhl := hi_lt D p k
    have hsh := shlT Try.prog 3 .u64 (x := hi D p k) (by omega)
    rw [show 15 - k = (15 - (k + 1)) + 1 by omega, symF] at hsy
    simp (config := { maxSteps := 1000000, implicitDefEqProofs := false }) (disch := omega) only [allW, allR, evalAll, Nat.reduceLT, Nat.reduceEqDiff, ↓reduceIte, hn, h0, h7, h8, eq_true d1, hsh]
    by_cases hroom : p + (k + 1) ≤ 8 * D.length
    rotate_left
    · rw [if_neg hroom] at hsy
      refine (takeS_any hlt hfa base t jf jb D P (p + k) 1 M bv o hF (by omega) (by omega) hkD hDl).mono ?_
      rintro _ t1 ⟨rfl, hB1, to1⟩
      obtain ⟨bv', pv', o', m', hB⟩ := id hB1
      have l2 := hB.b.load (P := Try.prog) agInt (off := 2) (c := 4) rfl (by simp)
      have c0 : ¬ ((2 : Nat) : Int) = 0 := by decide
      simp (config := { maxSteps := 1000000, implicitDefEqProofs := false }) (disch := omega) only [allW, allR, Nat.reduceLT, Nat.reduceEqDiff, ↓reduceIte, hn, h0, bin_or, tfld2, l2, eq_false c0]
      exact hQ _ _ _ (.inl ⟨rfl, by simp only [n_put, hn], by rw [← hsy]; exact ⟨by simp only [get_put, ↓reduceIte], hB1, hto.trans to1⟩⟩)
    rw [if_pos hroom] at hsy
    refine (takeT_any hlt base t jf jb D P (p + k) 1 M bv o hF (by omega) (by omega) hDl).mono ?_
    rintro _ t1 ⟨rfl, hF1, to1⟩
    rw [bitsN_one]
    have hor := orTwo (x := hi D p k) (b := bit D (p + k)) (by omega) (bit_lt _ _)
    have ehi : 2 * hi D p k + bit D (p + k) = hi D p (k + 1) := rfl
    rw [ehi] at hor
    have hA1 := hA.to to1
    have hK1 := hK.to to1
    have hK2 : Sees t1 1 tc C.length (natsV K) := by rw [← hKl]; exact hK1.1
    have to1 := hto.trans to1
    have l2 := hF1.b.load (P := Try.prog) agInt (off := 2) (c := 4) rfl (by simp)
    simp (config := { maxSteps := 1000000, implicitDefEqProofs := false }) (disch := omega) only [allW, allR, Nat.reduceLT, Nat.reduceEqDiff, ↓reduceIte, hn, h0, bin_or, hor, tfld2, l2]
    refine Comes.loopOut (fun z f t' => ∃ i : Nat, z = C.length - i ∧ i ≤ C.length ∧ (∀ j, j < i → C.getD j 0 = k + 1 → K.getD j 0 ≠ hi D p (k + 1)) ∧ t' = t1 ∧ f.n = 47 ∧ f.get 0 = bptr jb ∧ f.get 1 = ta ∧ f.get 2 = tc ∧ f.get 7 = .int .i64 (hi D p (k + 1) : Nat) ∧ f.get 8 = .int .i64 ((k : Int) + 1) ∧ f.get 9 = .int .i64 (i : Nat))
      (fun z f t' => (z = .ret ∧ symAt D C p (k + 1) ∧ t' = t1 ∧ f.n = 47 ∧ f.get 6 = .int .i64 (nth D C p (k + 1) : Nat)) ∨ (z = .exit 2 ∧ ¬ symAt D C p (k + 1) ∧ t' = t1 ∧ f.n = 47 ∧ f.get 0 = bptr jb ∧ f.get 1 = ta ∧ f.get 2 = tc ∧ f.get 7 = .int .i64 (hi D p (k + 1) : Nat) ∧ f.get 8 = .int .i64 ((k : Int) + 1)))
      ⟨0, rfl, by omega, fun j hj => absurd hj (Nat.not_lt_zero j), rfl, by simp only [n_put, hn], by simp only [get_put, ↓reduceIte, Nat.reduceEqDiff, h0], by simp only [get_put, ↓reduceIte, Nat.reduceEqDiff, h1], by simp only [get_put, ↓reduceIte, Nat.reduceEqDiff, h2], by simp only [get_put, ↓reduceIte, Nat.reduceEqDiff], by simp only [get_put, ↓reduceIte, Nat.reduceEqDiff, h8], by simp only [get_put, ↓reduceIte]; rfl⟩ ?_ ?_
    · clear hn h0 h1 h2 h7 h8 f
      rintro Q2 hQ2 z f t' ⟨i, rfl, hi', hiq, rfl, hn, h0, h1, h2, h7, h8, h9⟩
      by_cases hic : i < C.length
      rotate_left
      · obtain rfl : i = C.length := by omega
        have d2 : ¬ ((C.length : Nat) : Int) < ((C.length : Nat) : Int) := by omega
        have hno : ¬ symAt D C p (k + 1) := fun hat => by
          obtain ⟨k1, k2, k3⟩ := nth_at hat
          have k4 := hKc _ k1 (by omega) (by omega)
          rw [k2] at k4
          exact hiq _ k1 k2 (by omega)
        simp (config := { maxSteps := 1000000, implicitDefEqProofs := false }) (disch := omega) only [allW, allR, evalAll, Nat.reduceLT, Nat.reduceEqDiff, ↓reduceIte, hn, h1, h9, hA1.1.lenA uCodeF, eq_false d2]
        exact hQ2 _ _ _ (.inr ⟨rfl, hno, rfl, by simp only [n_put, hn], by simp only [get_put, ↓reduceIte, Nat.reduceEqDiff, h0], by simp only [get_put, ↓reduceIte, Nat.reduceEqDiff, h1], by simp only [get_put, ↓reduceIte, Nat.reduceEqDiff, h2], by simp only [get_put, ↓reduceIte, Nat.reduceEqDiff, h7], by simp only [get_put, ↓reduceIte, Nat.reduceEqDiff, h8]⟩)
      have d2 : (i : Int) < (C.length : Int) := by omega
      have hi1 := hA1.1.indexAddr (P := Try.prog) (k := .i64) (x := (i : Int)) uCodeF szInt (by omega) (by omega)
      have hi2 := hK2.indexAddr (P := Try.prog) (k := .i64) (x := (i : Int)) uIntsF szInt (by omega) (by omega)
      rw [Int.toNat_natCast] at hi1 hi2
      have k1 := hA1.1.load1 (P := Try.prog) agIntF hic
      have k2 := hK2.load1 (P := Try.prog) agIntF hic
      rw [natsV_getD hic] at k1
      rw [natsV_getD (by rw [hKl]; exact hic)] at k2
      by_cases e1 : C.getD i 0 = k + 1
      · have d3 : ((C.getD i 0 : Nat) : Int) = (k : Int) + 1 := by omega
        by_cases e2 : K.getD i 0 = hi D p (k + 1)
        · have d4 : ((K.getD i 0 : Nat) : Int) = ((hi D p (k + 1) : Nat) : Int) := by omega
          have k4 := hKc i hic (by omega) (by omega)
          rw [e1] at k4
          obtain ⟨a1, a2⟩ := nth_only (D := D) (p := p) hic e1 (by omega)
          simp (config := { maxSteps := 1000000, implicitDefEqProofs := false }) (disch := omega) only [allW, allR, evalAll, Nat.reduceLT, Nat.reduceEqDiff, ↓reduceIte, hn, h1, h2, h7, h8, h9, hA1.1.lenA uCodeF, eq_true d2, hi1, hi2, k1, k2, eq_true d3, eq_true d4]
          exact hQ2 _ _ _ (.inl ⟨rfl, a1, rfl, by simp only [n_put, hn], by simp only [get_put, ↓reduceIte]; rw [a2]⟩)
        · have d4 : ¬ ((K.getD i 0 : Nat) : Int) = ((hi D p (k + 1) : Nat) : Int) := by omega
          simp (config := { maxSteps := 1000000, implicitDefEqProofs := false }) (disch := omega) only [allW, allR, evalAll, Nat.reduceLT, Nat.reduceEqDiff, ↓reduceIte, hn, h1, h2, h7, h8, h9, hA1.1.lenA uCodeF, eq_true d2, hi1, hi2, k1, k2, eq_true d3, eq_false d4, wrapI]
          exact wround_next (C.length - (i + 1)) (by omega) ⟨i + 1, rfl, by omega, fun j hj e => by
            by_cases e3 : j = i
            · subst e3; exact e2
            · exact hiq j (by omega) e, rfl, by simp only [n_put, hn], by simp only [get_put, ↓reduceIte, Nat.reduceEqDiff, h0], by simp only [get_put, ↓reduceIte, Nat.reduceEqDiff, h1], by simp only [get_put, ↓reduceIte, Nat.reduceEqDiff, h2], by simp only [get_put, ↓reduceIte, Nat.reduceEqDiff, h7], by simp only [get_put, ↓reduceIte, Nat.reduceEqDiff, h8], by simp only [get_put, ↓reduceIte]; rfl⟩
      · have d3 : ¬ ((C.getD i 0 : Nat) : Int) = (k : Int) + 1 := by omega
        simp (config := { maxSteps := 1000000, implicitDefEqProofs := false }) (disch := omega) only [allW, allR, evalAll, Nat.reduceLT, Nat.reduceEqDiff, ↓reduceIte, undef, hn, h1, h8, h9, hA1.1.lenA uCodeF, eq_true d2, hi1, k1, eq_false d3, wrapI]
        exact wround_next (C.length - (i + 1)) (by omega) ⟨i + 1, rfl, by omega, fun j hj e => by
          by_cases e3 : j = i
          · subst e3; exact absurd e e1
          · exact hiq j (by omega) e, rfl, by simp only [n_put, hn], by simp only [get_put, ↓reduceIte, Nat.reduceEqDiff, h0], by simp only [get_put, ↓reduceIte, Nat.reduceEqDiff, h1], by simp only [get_put, ↓reduceIte, Nat.reduceEqDiff, h2], by simp only [get_put, ↓reduceIte, Nat.reduceEqDiff, h7], by simp only [get_put, ↓reduceIte, Nat.reduceEqDiff, h8], by simp only [get_put, ↓reduceIte]; rfl⟩
    clear hn h0 h1 h2 h7 h8 f
    rintro z f t' (⟨rfl, e, rfl, hn, h6⟩ | ⟨rfl, e, rfl, hn, h0, h1, h2, h7, h8⟩)
    · rw [if_pos e] at hsy
      simp (config := { maxSteps := 1000000, implicitDefEqProofs := false }) (disch := omega) only [allW]
      exact hQ _ _ _ (.inl ⟨rfl, by simp only [hn], by rw [← hsy]; exact ⟨by simp only [h6], hF1, to1⟩⟩)
    · rw [if_neg e] at hsy
      simp (config := { maxSteps := 1000000, implicitDefEqProofs := false }) (disch := omega) only [allW, Nat.reduceLT, ↓reduceIte, hn, h8, wrapI]
      exact wround_next (15 - (k + 1)) (by omega) ⟨k + 1, rfl, by omega, by omega, hsy, hF1, to1, hA1, hK1, by simp only [n_put, hn], by simp only [get_put, ↓reduceIte, Nat.reduceEqDiff, h0], by simp only [get_put, ↓reduceIte, Nat.reduceEqDiff, h1], by simp only [get_put, ↓reduceIte, Nat.reduceEqDiff, h2], by simp only [get_put, ↓reduceIte, Nat.reduceEqDiff, h7], by simp only [get_put, ↓reduceIte]; rfl⟩
  clear hn h0 h1 h2 f
  rintro z f t (⟨rfl, hn, hR⟩ | ⟨rfl, hsy, hF, hto, hn, h0⟩)
  · simp (config := { maxSteps := 1000000, implicitDefEqProofs := false }) (disch := omega) only [allW, wfn_ret, oneOf, Nat.reduceLT, ↓reduceIte, hn, Try.results58]
    exact hR
  · simp (config := { maxSteps := 1000000, implicitDefEqProofs := false }) (disch := omega) only [allW, allR, evalAll, Nat.reduceLT, ↓reduceIte, hn, h0]
    refine (fail_any hfa t jb bv _ 4 hF.b).mono ?_
    rintro _ s1 ⟨hb1, hn1, hs1⟩
    obtain ⟨hB, hto1⟩ := hF.bad (by decide) hb1 hn1 hs1
    simp (config := { maxSteps := 1000000, implicitDefEqProofs := false }) (disch := omega) only [allW, wfn_ret, oneOf, Nat.reduceLT, ↓reduceIte, hn, Try.results58]
    rw [hsy]
    exact ⟨rfl, hB, hto.trans hto1⟩
set_option maxHeartbeats 4000000 in
theorem symB_any {lib : Prims} (hl : lib.at 58 = none) (hlt : lib.at 32 = none) (base : Nat) (s : ASt) (jf jb e : Nat) (ta tc : Value) (h : Bd base s jf jb e) :
    Runs Try.prog lib 58 [bptr jb, ta, tc] s fun v s' => v = .int .i64 0 ∧ s' = s := by
  obtain ⟨bv, pv, o, m, hB⟩ := id h
  refine Runs.enter 47 Try.func58 rfl hl rfl rfl ?_
  intro f hn hf
  have h0 : f.get 0 = bptr jb := hf 0
  have h1 : f.get 1 = ta := hf 1
  have h2 : f.get 2 = tc := hf 2
  clear hf
  have hp := hB.pos
  have c0 : ¬ (e : Int) = 0 := by omega
  have hsh := shlT Try.prog 3 .u64 (x := 0) (by omega)
  have hsh : binA Try.prog .shl 3 (.int .i64 0) (.int .u64 1) = some (.int .i64 0) := hsh
  have d1 : (1 : Int) ≤ 15 := by decide
  simp (config := { maxSteps := 1000000, implicitDefEqProofs := false }) (disch := omega) only [allW, Nat.reduceLT, ↓reduceIte, hn]
  refine Comes.loopOut (fun z f t => z = 0 ∧ t = s ∧ f.n = 47 ∧ f.get 0 = bptr jb ∧ f.get 7 = .int .i64 0 ∧ f.get 8 = .int .i64 1)
    (fun z f t => z = .ret ∧ t = s ∧ f.n = 47 ∧ f.get 6 = .int .i64 0) ⟨rfl, rfl, by simp only [n_put, hn], by simp only [get_put, ↓reduceIte, Nat.reduceEqDiff, h0], by simp only [get_put, ↓reduceIte, Nat.reduceEqDiff], by simp only [get_put, ↓reduceIte]⟩ ?_ ?_
  · clear hn h0 h1 h2 f
    rintro Q hQ z f _ ⟨rfl, rfl, hn, h0, h7, h8⟩
    simp (config := { maxSteps := 1000000, implicitDefEqProofs := false }) (disch := omega) only [allW, allR, evalAll, Nat.reduceLT, Nat.reduceEqDiff, ↓reduceIte, hn, h0, h7, h8, eq_true d1, hsh]
    refine (takeB_any hlt base _ jf jb e 1 h).mono ?_
    rintro _ t1 ⟨rfl, rfl⟩
    have l2 := hB.b.load (P := Try.prog) agInt (off := 2) (c := 4) rfl (by simp)
    simp (config := { maxSteps := 1000000, implicitDefEqProofs := false }) (disch := omega) only [allW, allR, Nat.reduceLT, Nat.reduceEqDiff, ↓reduceIte, hn, h0, bin_or, tfld2, l2, eq_false c0]
    exact hQ _ _ _ ⟨rfl, rfl, by simp only [n_put, hn], by simp only [get_put, ↓reduceIte]⟩
  clear hn h0 h1 h2 f
  rintro z f t ⟨rfl, rfl, hn, h6⟩
  simp (config := { maxSteps := 1000000, implicitDefEqProofs := false }) (disch := omega) only [allW, wfn_ret, oneOf, Nat.reduceLT, ↓reduceIte, hn, h6, Try.results58]
def RdO (base jf jb : Nat) (D P : List UInt8) (M : Int) (bv o : Value) (t : ASt) : Except Nat Nat → Prop
  | .ok p => Fl base t jf jb D p P M bv o ∧ p ≤ 8 * D.length
  | .error e => Bd base t jf jb e
theorem RdO.keeps {base jf jb : Nat} {D P : List UInt8} {M : Int} {bv o : Value} {t t' : ASt} {x : Except Nat Nat} (h : RdO base jf jb D P M bv o t x) (k : Stay t.next t t') (hb : base ≤ t.next) : RdO base jf jb D P M bv o t' x := by
  cases x with
  | ok p => exact ⟨⟨h.1.b.keeps k, h.1.f.keeps k, h.1.low.stay (k.weaken hb), h.1.own.keeps k, h.1.fresh, h.1.nb, h.1.nf, h.1.ne, h.1.lb, h.1.lf⟩, h.2⟩
  | error e =>
    obtain ⟨bv', pv, o', m', h⟩ := h
    exact ⟨bv', pv, o', m', ⟨h.b.keeps k, h.f.keeps k, h.pos, h.ne, h.lb, h.lf⟩⟩
def JTo (j : Nat) (t t' : ASt) : Prop := t'.next = t.next ∧ ∀ i, i ≠ j → t'.heap.get i = t.heap.get i
theorem JTo.refl (j : Nat) (t : ASt) : JTo j t t := ⟨rfl, fun _ _ => rfl⟩
theorem JTo.trans {j : Nat} {t t' t'' : ASt} (h : JTo j t t') (k : JTo j t' t'') : JTo j t t'' := ⟨k.1.trans h.1, fun i hi => (k.2 i hi).trans (h.2 i hi)⟩
theorem JTo.fto {jf jb : Nat} {o : Value} {t t' : ASt} (h : JTo jb t t') : FTo jf jb o t o t' := ⟨by rw [h.1]; exact Nat.le_refl _, fun i _ _ h2 _ => h.2 i h2, .inl rfl⟩
theorem RdO.l2 {base jf jb : Nat} {D P : List UInt8} {M : Int} {bv o : Value} {t : ASt} {x : Except Nat Nat} (h : RdO base jf jb D P M bv o t x) : loadA Try.prog t 3 (.pointer (some ⟨jb, 2, some 4⟩)) = some (.int .i64 (badV x : Nat)) := by
  cases x with
  | ok p => exact h.1.b.load (P := Try.prog) agInt (off := 2) (c := 4) rfl (by simp)
  | error e =>
    obtain ⟨bv', pv, o', m', h⟩ := h
    exact h.b.load (P := Try.prog) agInt (off := 2) (c := 4) rfl (by simp)
theorem RdO.w0 {base jf jb : Nat} {D P : List UInt8} {M : Int} {bv o : Value} {t : ASt} {x : Except Nat Nat} (h : RdO base jf jb D P M bv o t x) : loadA Try.prog t 58 (.pointer (some ⟨jf, 0, some 4⟩)) = some (bptr jb) := by
  cases x with
  | ok p => exact h.1.f.load (P := Try.prog) agBitsP (off := 0) (c := 4) rfl (by simp)
  | error e =>
    obtain ⟨bv', pv, o', m', h⟩ := h
    exact h.f.load (P := Try.prog) agBitsP (off := 0) (c := 4) rfl (by simp)
theorem RdO.bad {base jf jb : Nat} {D P : List UInt8} {M : Int} {bv o : Value} {t : ASt} {x : Except Nat Nat} (h : RdO base jf jb D P M bv o t x) : badV x = 0 ↔ ∃ p, x = .ok p := by
  cases x with
  | ok p => exact ⟨fun _ => ⟨p, rfl⟩, fun _ => rfl⟩
  | error e =>
    obtain ⟨bv', pv, o', m', h⟩ := h
    have := h.pos
    exact ⟨fun e => by simp only [badV] at e; omega, fun ⟨p, e⟩ => by cases e⟩
set_option maxHeartbeats 4000000 in
theorem takeX_any {lib : Prims} (hl : lib.at 32 = none) (hfa : lib.at 37 = none) (base : Nat) (s : ASt) (jf jb : Nat) (D P : List UInt8) (x : Except Nat Nat) (n : Nat) (M : Int) (bv o : Value) (h : RdO base jf jb D P M bv o s x) (hn16 : n ≤ 16) (hDl : D.length ≤ 1000000000) :
    Runs Try.prog lib 32 [bptr jb, .int .i64 n] s fun v s' => v = .int .i64 (takeV D x n : Nat) ∧ RdO base jf jb D P M bv o s' (takeS D x n) ∧ JTo jb s s' := by
  have hRd := h
  refine Runs.enter 72 Try.func32 rfl hl rfl rfl ?_
  intro f hn hf
  have h0 : f.get 0 = bptr jb := hf 0
  have h1 : f.get 1 = .int .i64 n := hf 1
  clear hf
  cases x with
  | error e =>
    obtain ⟨bv', pv, o', m', h⟩ := h
    have l2 := h.b.load (P := Try.prog) agInt (off := 2) (c := 4) rfl (by simp)
    have hp := h.pos
    have c0 : ¬ (e : Int) = 0 := by omega
    simp (config := { maxSteps := 1000000, implicitDefEqProofs := false }) (disch := omega) only [allW, allR, wfn_ret, oneOf, Nat.reduceLT, Nat.reduceEqDiff, ↓reduceIte, undef, hn, h0, tfld2, l2, eq_false c0, Try.results32]
    exact ⟨rfl, hRd, JTo.refl _ _⟩
  | ok p =>
  obtain ⟨h, hpD⟩ := h
  have l0 := h.b.load (P := Try.prog) agSl (off := 0) (c := 4) rfl (by simp)
  have l1 := h.b.load (P := Try.prog) agInt (off := 1) (c := 4) rfl (by simp)
  have l2 := h.b.load (P := Try.prog) agInt (off := 2) (c := 4) rfl (by simp)
  by_cases hD : p + n ≤ 8 * D.length
  rotate_left
  · have c1 : (8 * (D.length : Int) - (p : Int) < n) := by omega
    simp (config := { maxSteps := 1000000, implicitDefEqProofs := false }) (disch := omega) only [allW, allR, evalAll, Nat.reduceLT, Nat.reduceEqDiff, ↓reduceIte, hn, h0, h1, tfld0, tfld1, tfld2, l0, l1, l2, h.low.sees.lenA Try.underlying22, h.low.sees.self, wrapI, eq_true c1]
    refine (fail_any hfa s jb bv _ 2 h.b).mono ?_
    rintro _ s1 ⟨hb1, hn1, hs1⟩
    have hf1 := h.f.turns (Turns.ofPut (i := jb) (o := 0) (c := none) hn1 hs1) (fun e => h.ne (by injection e))
    have l2 := hb1.load (P := Try.prog) agInt (off := 2) (c := 4) rfl (by simp)
    have c0 : ¬ ((2 : Nat) : Int) = 0 := by decide
    simp (config := { maxSteps := 1000000, implicitDefEqProofs := false }) (disch := omega) only [allW, allR, wfn_ret, oneOf, Nat.reduceLT, Nat.reduceEqDiff, ↓reduceIte, undef, hn, h0, tfld2, l2, eq_false c0, Try.results32]
    refine ⟨by simp only [takeV]; rw [if_neg hD]; rfl, ?_, ⟨hn1, hs1⟩⟩
    simp only [takeS]; rw [if_neg hD]
    exact ⟨bv, _, _, _, ⟨hb1, hf1, by decide, h.ne, h.lb, h.lf⟩⟩
  have eV : takeV D (.ok p) n = bitsN D p n := by simp only [takeV]; rw [if_pos hD]
  have eS : takeS D (.ok p) n = .ok (p + n) := by simp only [takeS]; rw [if_pos hD]
  rw [eV, eS]
  have c1 : ¬ (8 * (D.length : Int) - (p : Int) < n) := by omega
  simp (config := { maxSteps := 1000000, implicitDefEqProofs := false }) (disch := omega) only [allW, allR, evalAll, Nat.reduceLT, Nat.reduceEqDiff, ↓reduceIte, hn, h0, h1, tfld0, tfld1, tfld2, l0, l1, l2, h.low.sees.lenA Try.underlying22, h.low.sees.self, wrapI, eq_false c1]
  refine Comes.loopAt (fun q f s' => ∃ (i : Nat), q = n - i ∧ i ≤ n ∧ Fl base s' jf jb D (p + i) P M bv o ∧ JTo jb s s' ∧ f.n = 72 ∧ f.get 0 = bptr jb ∧ f.get 1 = .int .i64 n ∧ f.get 5 = .int .i64 (bitsN D p i : Nat) ∧ f.get 6 = .int .i64 i)
    ⟨0, rfl, by omega, h, JTo.refl _ _, by simp only [n_put, hn], by simp only [get_put, ↓reduceIte, Nat.reduceEqDiff, h0], by simp only [get_put, ↓reduceIte, Nat.reduceEqDiff, h1], by simp only [get_put, ↓reduceIte, Nat.reduceEqDiff]; rfl, by simp only [get_put, ↓reduceIte]; rfl⟩ ?_
  clear hn h0 h1 f l0 l1 l2
  rintro q f s1 ⟨i, rfl, hi, h, hst, hn, h0, h1, h5, h6⟩
  by_cases hin : i < n
  · have hin' : (i : Int) < n := by omega
    have l0 := h.b.load (P := Try.prog) agSl (off := 0) (c := 4) rfl (by simp)
    have l1 := h.b.load (P := Try.prog) agInt (off := 1) (c := 4) rfl (by simp)
    have hm8 : (p + i) % 8 < 8 := Nat.mod_lt _ (by omega)
    have hlt : (p + i) / 8 < D.length := by omega
    have k1 := h.low.sees.load1 (P := Try.prog) agU8 hlt
    rw [ofBytes_getD hlt] at k1
    have hq : (D.getD ((p + i) / 8) 0).toNat / 2 ^ ((p + i) % 8) < 256 := Nat.lt_of_le_of_lt (Nat.div_le_self _ _) (D.getD ((p + i) / 8) 0).toNat_lt
    have hbit : (D.getD ((p + i) / 8) 0).toNat / 2 ^ ((p + i) % 8) % 2 = bit D (p + i) := rfl
    have hb2 := bit_lt D (p + i)
    have hv := bitsN_lt D p i
    have hrec : bitsN D p i + bit D (p + i) * 2 ^ i = bitsN D p (i + 1) := rfl
    have hi32 : i < 32 := by omega
    have hor := orI hv hb2 hi32
    rw [hrec] at hor
    have hidx := h.low.sees.indexAddr (k := .i64) (x := (((p + i) / 8 : Nat) : Int)) Try.underlying22 szU8 (by omega) (by omega)
    rw [Int.toNat_natCast] at hidx
    have hself := h.low.sees.self
    have hsh := shlI Try.prog 3 .u64 hb2 hi32
    simp (config := { maxSteps := 1000000, implicitDefEqProofs := false }) (disch := omega) only [allW, allR, Nat.reduceLT, Nat.reduceEqDiff, ↓reduceIte, hn, h0, h1, h5, h6, eq_true hin', tfld0, tfld1, l0, l1, hself, bin_quo, quo8, bin_rem, rem8, wrapI, hidx, k1, conv_int Try.underlying3 Try.underlying29, wrapu64x, shrB, bin_and, andB, hbit, conv_int Try.underlying5 Try.underlying3, hsh, bin_or, hor, Try.underlying3, Try.underlying29]
    refine wstep_store szInt h.b rfl (by simp) rfl ?_
    intro t2 hb3 hn2 hs2
    simp (config := { maxSteps := 1000000, implicitDefEqProofs := false }) (disch := omega) only [allW, Nat.reduceLT, Nat.reduceEqDiff, ↓reduceIte, hn, h6, wrapI]
    refine wround_next (n - (i + 1)) (by omega) ⟨i + 1, rfl, by omega, h.at (p' := p + (i + 1)) hb3 hn2 hs2, hst.trans ⟨hn2, hs2⟩, by simp only [n_put, hn], by simp only [get_put, ↓reduceIte, Nat.reduceEqDiff, h0], by simp only [get_put, ↓reduceIte, Nat.reduceEqDiff, h1], by simp only [get_put, ↓reduceIte, Nat.reduceEqDiff], by simp only [get_put, ↓reduceIte]; rfl⟩
  · obtain rfl : i = n := by omega
    have hin' : ¬ (i : Int) < i := by omega
    simp (config := { maxSteps := 1000000, implicitDefEqProofs := false }) (disch := omega) only [allW, wfn_ret, oneOf, Nat.reduceLT, Nat.reduceEqDiff, ↓reduceIte, hn, h1, h5, h6, eq_false hin', Try.results32]
    exact ⟨⟨h, hD⟩, hst⟩
set_option maxHeartbeats 4000000 in
theorem failX_any {lib : Prims} (hl : lib.at 37 = none) (base : Nat) (s : ASt) (jf jb : Nat) (D P : List UInt8) (p e : Nat) (M : Int) (bv o : Value) (h : RdO base jf jb D P M bv o s (.ok p)) (he : 0 < e) :
    Runs Try.prog lib 37 [bptr jb, .int .i64 (e : Nat)] s fun _ s' => RdO base jf jb D P M bv o s' (.error e) ∧ JTo jb s s' := by
  obtain ⟨h, -⟩ := h
  refine (fail_any hl s jb bv _ e h.b).mono ?_
  rintro _ s1 ⟨hb1, hn1, hs1⟩
  have hf1 := h.f.turns (Turns.ofPut (i := jb) (o := 0) (c := none) hn1 hs1) (fun e => h.ne (by injection e))
  exact ⟨⟨bv, _, _, _, ⟨hb1, hf1, he, h.ne, h.lb, h.lf⟩⟩, ⟨hn1, hs1⟩⟩
set_option maxHeartbeats 4000000 in
theorem may_any {lib : Prims} (hl : lib.at 61 = none) (s : ASt) (x : Value) (C : List Nat) (hx : Sees s 1 x C.length (natsV C)) (hlen : C.length ≤ 1000) (h15 : Le15 C) :
    Runs Try.prog lib 61 [x] s fun v s' => v = .bool (decide (mayC C)) ∧ s' = s := by
  refine Runs.enter 38 Try.func61 rfl hl rfl rfl ?_
  intro f hn hf
  have h0 : f.get 0 = x := hf 0
  clear hf
  simp (config := { maxSteps := 1000000, implicitDefEqProofs := false }) (disch := omega) only [allW, Nat.reduceLT, ↓reduceIte, hn]
  refine Comes.loopAt (fun z f t => ∃ i : Nat, z = C.length - i ∧ i ≤ C.length ∧ t = s ∧ f.n = 38 ∧ f.get 0 = x ∧ f.get 3 = .int .i64 (sumC (C.take i) : Nat) ∧ f.get 4 = .int .i64 (manyC (C.take i) : Nat) ∧ f.get 5 = .int .i64 (i : Nat))
    ⟨0, rfl, by omega, rfl, by simp only [n_put, hn], by simp only [get_put, ↓reduceIte, Nat.reduceEqDiff, h0], by simp only [get_put, ↓reduceIte, Nat.reduceEqDiff]; rfl, by simp only [get_put, ↓reduceIte, Nat.reduceEqDiff]; rfl, by simp only [get_put, ↓reduceIte]; rfl⟩ ?_
  clear hn h0 f
  rintro z f t ⟨i, rfl, hi, rfl, hn, h0, h3, h4, h5⟩
  by_cases hic : i < C.length
  · have d2 : (i : Int) < (C.length : Int) := by omega
    have hi1 := hx.indexAddr (P := Try.prog) (k := .i64) (x := (i : Int)) uCodeF szInt (by omega) (by omega)
    rw [Int.toNat_natCast] at hi1
    have k1 := hx.load1 (P := Try.prog) agIntF hic
    rw [natsV_getD hic] at k1
    have hs := sumC_next hic
    have hm := manyC_next hic
    have hc15 := h15 i
    have hsl := sumC_le (C.take i)
    have hml := manyC_le (C.take i)
    have htl : (C.take i).length = i := by rw [List.length_take]; omega
    by_cases e1 : 0 < C.getD i 0
    · have d3 : ((C.getD i 0 : Nat) : Int) > 0 := by omega
      rw [if_pos e1] at hs hm
      have e2 : (15 : Int) - ((C.getD i 0 : Nat) : Int) = ((15 - C.getD i 0 : Nat) : Int) := by omega
      have hsh := shlI Try.prog 3 .u64 (b := 1) (by decide) (k := 15 - C.getD i 0) (by omega)
      rw [Nat.one_mul] at hsh
      have hsh : binA Try.prog .shl 3 (.int .i64 1) (.int .u64 ((15 - C.getD i 0 : Nat) : Int)) = some (.int .i64 ((2 ^ (15 - C.getD i 0) : Nat) : Int)) := hsh
      have hpw : 2 ^ (15 - C.getD i 0) ≤ 2 ^ 15 := Nat.pow_le_pow_right (by omega) (by omega)
      have hp2 : (2 : Nat) ^ 15 = 32768 := by decide
      generalize 2 ^ (15 - C.getD i 0) = W at hs hsh hpw
      have e3 : ((sumC (C.take i) : Nat) : Int) + ((W : Nat) : Int) = ((sumC (C.take (i + 1)) : Nat) : Int) := by omega
      have e4 : ((manyC (C.take i) : Nat) : Int) + 1 = ((manyC (C.take (i + 1)) : Nat) : Int) := by omega
      simp (config := { maxSteps := 1000000, implicitDefEqProofs := false }) (disch := omega) only [allW, evalAll, Nat.reduceLT, Nat.reduceEqDiff, ↓reduceIte, hn, h0, h3, h4, h5, hx.lenA uCodeF, eq_true d2, hi1, k1, eq_true d3, e2, wrapI, conv_int Try.underlying3 Try.underlying29, wrapu64x, hsh, e3, e4]
      exact wround_next (C.length - (i + 1)) (by omega) ⟨i + 1, rfl, by omega, rfl, by simp only [n_put, hn], by simp only [get_put, ↓reduceIte, Nat.reduceEqDiff, h0], by simp only [get_put, ↓reduceIte, Nat.reduceEqDiff], by simp only [get_put, ↓reduceIte, Nat.reduceEqDiff], by simp only [get_put, ↓reduceIte]; rfl⟩
    · have d3 : ¬ ((C.getD i 0 : Nat) : Int) > 0 := by omega
      rw [if_neg e1] at hs hm
      simp (config := { maxSteps := 1000000, implicitDefEqProofs := false }) (disch := omega) only [allW, evalAll, Nat.reduceLT, Nat.reduceEqDiff, ↓reduceIte, hn, h0, h5, hx.lenA uCodeF, eq_true d2, hi1, k1, eq_false d3, wrapI]
      exact wround_next (C.length - (i + 1)) (by omega) ⟨i + 1, rfl, by omega, rfl, by simp only [n_put, hn], by simp only [get_put, ↓reduceIte, Nat.reduceEqDiff, h0], by simp only [get_put, ↓reduceIte, Nat.reduceEqDiff, h3]; rw [hs, Nat.add_zero], by simp only [get_put, ↓reduceIte, Nat.reduceEqDiff, h4]; rw [hm, Nat.add_zero], by simp only [get_put, ↓reduceIte]; rfl⟩
  · obtain rfl : i = C.length := by omega
    have d2 : ¬ ((C.length : Nat) : Int) < ((C.length : Nat) : Int) := by omega
    rw [List.take_length] at h3 h4
    by_cases c1 : sumC C ≤ 32768
    · have d3 : ((sumC C : Nat) : Int) ≤ 32768 := by omega
      by_cases c2 : sumC C = 32768
      · have d4 : ((sumC C : Nat) : Int) = 32768 := by omega
        have hm : mayC C := .inl c2
        simp (config := { maxSteps := 1000000, implicitDefEqProofs := false }) (disch := omega) only [allW, allR, wfn_ret, oneOf, evalAll, Nat.reduceLT, Nat.reduceEqDiff, ↓reduceIte, undef, hn, h0, h3, h5, hx.lenA uCodeF, eq_false d2, eq_true d3, eq_true d4, eq_true hm, Try.results61]
      · have d4 : ¬ ((sumC C : Nat) : Int) = 32768 := by omega
        have hm : (((manyC C : Nat) : Int) ≤ 1) = mayC C := propext ⟨fun h => .inr ⟨by omega, by omega⟩, fun h => by rcases h with h | h <;> omega⟩
        simp (config := { maxSteps := 1000000, implicitDefEqProofs := false }) (disch := omega) only [allW, allR, wfn_ret, oneOf, evalAll, Nat.reduceLT, Nat.reduceEqDiff, ↓reduceIte, hn, h0, h3, h4, h5, hx.lenA uCodeF, eq_false d2, eq_true d3, eq_false d4, Try.results61]
        simp only [hm]
    · have d3 : ¬ ((sumC C : Nat) : Int) ≤ 32768 := by omega
      have hm : ¬ mayC C := fun h => by rcases h with h | h <;> omega
      simp (config := { maxSteps := 1000000, implicitDefEqProofs := false }) (disch := omega) only [allW, allR, wfn_ret, oneOf, evalAll, Nat.reduceLT, Nat.reduceEqDiff, ↓reduceIte, undef, hn, h0, h3, h5, hx.lenA uCodeF, eq_false d2, eq_false d3, eq_false hm, Try.results61]
end Go.Proofs.Ytnclklboogdoiaa
set_option linter.unusedSimpArgs false
set_option linter.unusedVariables false
set_option maxRecDepth 100000
namespace Go.Proofs.Ytnclklboogdoiaa
open Go.Cl Go.Cl.Rw Go.Cl.Sto Go.Cl.Fx Go.Cl.Nf
def OutF (base jf jb : Nat) (D : List UInt8) (M : Int) (bv o : Value) (s s' : ASt) : Except Nat (Nat × List UInt8) → Prop
  | .ok (q, P) => ∃ o', Fl base s' jf jb D q P M bv o' ∧ FTo jf jb o s o' s'
  | .error e => Bd base s' jf jb e ∧ Stay base s s'
theorem FTo.puts {jf jb : Nat} {o : Value} {s s' : ASt} (hn : s'.next = s.next) (hs : ∀ i, i ≠ jb → s'.heap.get i = s.heap.get i) : FTo jf jb o s o s' := ⟨by omega, fun i _ _ h2 _ => hs i h2, .inl rfl⟩
set_option maxHeartbeats 8000000 in
theorem fstoredX_any {lib : Prims} (hl : lib.at 33 = none) (hlt : lib.at 32 = none) (hlp : lib.at 57 = none) (hfa : lib.at 37 = none) (base : Nat) (s : ASt) (jf jb : Nat) (D P : List UInt8) (p m : Nat) (bv o : Value) (h : Fl base s jf jb D p P (m : Nat) bv o) (hpD : p ≤ 8 * D.length) (hDl : D.length ≤ 100000000) (hPm : P.length ≤ m) (hm : m ≤ 100000000) (hb : base ≤ s.next) :
    Runs Try.prog lib 33 [bptr jf] s fun _ s' => OutF base jf jb D (m : Nat) bv o s s' (storedX D m p P) := by
  obtain ⟨a, ha⟩ : ∃ a, a = (p + 7) / 8 := ⟨_, rfl⟩
  refine Runs.enter 75 Try.func33 rfl hl rfl rfl ?_
  intro f hn' hf
  have h0 : f.get 0 = bptr jf := hf 0
  clear hf
  have l1 := h.b.load (P := Try.prog) agInt (off := 1) (c := 4) rfl (by simp)
  have w0 := h.f.load (P := Try.prog) agBitsP (off := 0) (c := 4) rfl (by simp)
  have e7 : (p : Int) + 7 = ((p + 7 : Nat) : Int) := by omega
  have e8 : (((p + 7) / 8 : Nat) : Int) * 8 = ((8 * a : Nat) : Int) := by rw [ha]; omega
  simp (config := { maxSteps := 1000000, implicitDefEqProofs := false }) (disch := omega) only [allW]
  refine Drawn.tight' (by kernel_rfl) ?_
  simp (config := { maxSteps := 1000000, implicitDefEqProofs := false }) (disch := omega) only [allW, allR, Nat.reduceLT, Nat.reduceEqDiff, ↓reduceIte, hn', h0, wfld0, tfld1, w0, l1, e7, bin_quo, quo8, wrapI, e8]
  refine vstep_store szInt h.b rfl (by simp) rfl ?_
  intro s1 hb1 hn1 hs1
  have h1 := h.at (p' := 8 * a) hb1 hn1 hs1
  have to1 : FTo jf jb o s o s1 := FTo.puts hn1 hs1
  have w0 := h1.f.load (P := Try.prog) agBitsP (off := 0) (c := 4) rfl (by simp)
  have bad : ∀ (e : Nat) (o1 : Value) (t : ASt), Bd base t jf jb e → FTo jf jb o s o1 t → storedX D m p P = .error e → OutF base jf jb D (m : Nat) bv o s t (storedX D m p P) := fun e o1 t hB hto he => by
    rw [he]; exact ⟨hB, hto.stay h.lf h.lb h.fresh hb⟩
  simp (config := { maxSteps := 1000000, implicitDefEqProofs := false }) (disch := omega) only [allW, allR, evalAll, Nat.reduceLT, Nat.reduceEqDiff, ↓reduceIte, hn', h0, wfld0, w0]
  by_cases r1 : 8 * a + 16 ≤ 8 * D.length
  rotate_left
  · have hR : storedX D m p P = .error 2 := by unfold storedX; rw [← ha, if_neg (by omega)]
    refine (takeS_any hlt hfa base s1 jf jb D P (8 * a) 16 _ bv o h1 (by omega) (by omega) (by omega) (by omega)).mono ?_
    rintro _ s2 ⟨rfl, hB, to2⟩
    obtain ⟨bv', pv', o', m', hB'⟩ := id hB
    have w0 := hB'.f.load (P := Try.prog) agBitsP (off := 0) (c := 4) rfl (by simp)
    have l2 := hB'.b.load (P := Try.prog) agInt (off := 2) (c := 4) rfl (by simp)
    have c0 : ¬ ((2 : Nat) : Int) = 0 := by decide
    simp (config := { maxSteps := 1000000, implicitDefEqProofs := false }) (disch := omega) only [allW, allR, evalAll, Nat.reduceLT, Nat.reduceEqDiff, ↓reduceIte, hn', h0, wfld0, w0]
    refine (takeB_any hlt base s2 jf jb 2 16 hB).mono ?_
    rintro _ s2 ⟨rfl, rfl⟩
    simp (config := { maxSteps := 1000000, implicitDefEqProofs := false }) (disch := omega) only [allW, allR, Nat.reduceLT, Nat.reduceEqDiff, ↓reduceIte, undef, hn', h0, wfld0, tfld2, w0, l2, eq_false c0]
    refine Comes.loopAt (fun z f t => z = 0 ∧ s2 = t ∧ f.n = 75 ∧ f.get 0 = bptr jf ∧ f.get 2 = .int .i64 0 ∧ f.get 4 = .int .i64 0) ⟨rfl, rfl, by simp only [n_put, hn'], by simp only [get_put, ↓reduceIte, Nat.reduceEqDiff, h0], by simp only [get_put, ↓reduceIte, Nat.reduceEqDiff], by simp only [get_put, ↓reduceIte]⟩ ?_
    clear hn' h0 f
    rintro z f _ ⟨rfl, rfl, hn', h0, h2, h4⟩
    simp (config := { maxSteps := 1000000, implicitDefEqProofs := false }) (disch := omega) only [allW, allR, wfn_normal, Nat.reduceLT, Nat.reduceEqDiff, ↓reduceIte, undef, hn', h2, h4, eq_false (show ¬ (0 : Int) < 0 by decide), Try.results33]
    exact bad 2 o s2 hB (to1.trans to2) hR
  refine (takeT_any hlt base s1 jf jb D P (8 * a) 16 _ bv o h1 (by omega) (by omega) (by omega)).mono ?_
  rintro _ s2 ⟨rfl, h2', to2⟩
  have to2 := to1.trans to2
  have hnl := bitsN_lt D (8 * a) 16
  obtain ⟨n, hnn⟩ : ∃ n, n = bitsN D (8 * a) 16 := ⟨_, rfl⟩
  rw [← hnn] at hnl ⊢
  have w0 := h2'.f.load (P := Try.prog) agBitsP (off := 0) (c := 4) rfl (by simp)
  simp (config := { maxSteps := 1000000, implicitDefEqProofs := false }) (disch := omega) only [allW, allR, evalAll, Nat.reduceLT, Nat.reduceEqDiff, ↓reduceIte, hn', h0, wfld0, w0]
  by_cases r2 : 8 * a + 16 + 16 ≤ 8 * D.length
  rotate_left
  · have hR : storedX D m p P = .error 2 := by unfold storedX; rw [← ha, if_neg (by omega)]
    refine (takeS_any hlt hfa base s2 jf jb D P (8 * a + 16) 16 _ bv o h2' (by omega) (by omega) (by omega) (by omega)).mono ?_
    rintro _ s3 ⟨rfl, hB, to3⟩
    obtain ⟨bv', pv', o', m', hB'⟩ := id hB
    have w0 := hB'.f.load (P := Try.prog) agBitsP (off := 0) (c := 4) rfl (by simp)
    have l2 := hB'.b.load (P := Try.prog) agInt (off := 2) (c := 4) rfl (by simp)
    have c0 : ¬ ((2 : Nat) : Int) = 0 := by decide
    simp (config := { maxSteps := 1000000, implicitDefEqProofs := false }) (disch := omega) only [allW, allR, Nat.reduceLT, Nat.reduceEqDiff, ↓reduceIte, undef, hn', h0, wfld0, tfld2, w0, l2, eq_false c0]
    refine Comes.loopAt (fun z f t => z = 0 ∧ s3 = t ∧ f.n = 75 ∧ f.get 0 = bptr jf ∧ f.get 2 = .int .i64 (n : Nat) ∧ f.get 4 = .int .i64 0) ⟨rfl, rfl, by simp only [n_put, hn'], by simp only [get_put, ↓reduceIte, Nat.reduceEqDiff, h0], by simp only [get_put, ↓reduceIte, Nat.reduceEqDiff], by simp only [get_put, ↓reduceIte]⟩ ?_
    clear hn' h0 f
    rintro z f _ ⟨rfl, rfl, hn', h0, h2, h4⟩
    by_cases cn : (0 : Int) < (n : Int)
    · simp (config := { maxSteps := 1000000, implicitDefEqProofs := false }) (disch := omega) only [allW, allR, wfn_normal, Nat.reduceLT, Nat.reduceEqDiff, ↓reduceIte, undef, hn', h0, h2, h4, eq_true cn, wfld0, tfld2, w0, l2, eq_false c0, Try.results33]
      exact bad 2 o s3 hB (to2.trans to3) hR
    · simp (config := { maxSteps := 1000000, implicitDefEqProofs := false }) (disch := omega) only [allW, allR, wfn_normal, Nat.reduceLT, Nat.reduceEqDiff, ↓reduceIte, undef, hn', h2, h4, eq_false cn, Try.results33]
      exact bad 2 o s3 hB (to2.trans to3) hR
  refine (takeT_any hlt base s2 jf jb D P (8 * a + 16) 16 _ bv o h2' (by omega) (by omega) (by omega)).mono ?_
  rintro _ s3 ⟨rfl, h3, to3⟩
  have to3 := to2.trans to3
  have hkl := bitsN_lt D (8 * a + 16) 16
  obtain ⟨k, hkk⟩ : ∃ k, k = bitsN D (8 * a + 16) 16 := ⟨_, rfl⟩
  rw [← hkk] at hkl ⊢
  have hp16 : (2 : Nat) ^ 16 = 65536 := by decide
  have hx := xor16 (m := k) (by omega)
  have w0 := h3.f.load (P := Try.prog) agBitsP (off := 0) (c := 4) rfl (by simp)
  have l2 := h3.b.load (P := Try.prog) agInt (off := 2) (c := 4) rfl (by simp)
  by_cases cx : n + k = 65535
  rotate_left
  · have cx' : ¬ (n : Int) = ((65535 - k : Nat) : Int) := by omega
    have hR : storedX D m p P = .error 4 := by unfold storedX; rw [← ha, if_pos (by omega), ← hnn, ← hkk, if_neg cx]
    simp (config := { maxSteps := 1000000, implicitDefEqProofs := false }) (disch := omega) only [allW, allR, evalAll, Nat.reduceLT, Nat.reduceEqDiff, ↓reduceIte, undef, hn', h0, wfld0, tfld2, w0, l2, bin_xor, hx, eq_false cx']
    refine (fail_any hfa s3 jb bv _ 4 h3.b).mono ?_
    rintro _ s4 ⟨hb4, hn4, hs4⟩
    obtain ⟨hB, to4⟩ := h3.bad (by decide) hb4 hn4 hs4
    obtain ⟨bv', pv', o', m', hB'⟩ := id hB
    have w0 := hB'.f.load (P := Try.prog) agBitsP (off := 0) (c := 4) rfl (by simp)
    have l2 := hB'.b.load (P := Try.prog) agInt (off := 2) (c := 4) rfl (by simp)
    have c0 : ¬ ((4 : Nat) : Int) = 0 := by decide
    simp (config := { maxSteps := 1000000, implicitDefEqProofs := false }) (disch := omega) only [allW, Nat.reduceLT, ↓reduceIte, hn']
    refine Comes.loopAt (fun z f t => z = 0 ∧ s4 = t ∧ f.n = 75 ∧ f.get 0 = bptr jf ∧ f.get 2 = .int .i64 (n : Nat) ∧ f.get 4 = .int .i64 0) ⟨rfl, rfl, by simp only [n_put, hn'], by simp only [get_put, ↓reduceIte, Nat.reduceEqDiff, h0], by simp only [get_put, ↓reduceIte, Nat.reduceEqDiff], by simp only [get_put, ↓reduceIte]⟩ ?_
    clear hn' h0 f
    rintro z f _ ⟨rfl, rfl, hn', h0, h2, h4⟩
    by_cases cn : (0 : Int) < (n : Int)
    · simp (config := { maxSteps := 1000000, implicitDefEqProofs := false }) (disch := omega) only [allW, allR, wfn_normal, Nat.reduceLT, Nat.reduceEqDiff, ↓reduceIte, undef, hn', h0, h2, h4, eq_true cn, wfld0, tfld2, w0, l2, eq_false c0, Try.results33]
      exact bad 4 o s4 hB (to3.trans to4) hR
    · simp (config := { maxSteps := 1000000, implicitDefEqProofs := false }) (disch := omega) only [allW, allR, wfn_normal, Nat.reduceLT, Nat.reduceEqDiff, ↓reduceIte, undef, hn', h2, h4, eq_false cn, Try.results33]
      exact bad 4 o s4 hB (to3.trans to4) hR
  have cx' : (n : Int) = ((65535 - k : Nat) : Int) := by omega
  have hR : storedX D m p P = stoF D m n (a + 4) P := by unfold storedX; rw [← ha, if_pos (by omega), ← hnn, ← hkk, if_pos cx]
  simp (config := { maxSteps := 1000000, implicitDefEqProofs := false }) (disch := omega) only [allW, allR, Nat.reduceLT, Nat.reduceEqDiff, ↓reduceIte, undef, hn', h0, wfld0, tfld2, w0, l2, bin_xor, hx, ← cx']
  rw [hR]
  rw [hR] at bad
  refine Comes.loopAt (fun q f t => ∃ (i : Nat), f.n = 75 ∧ f.get 0 = bptr jf ∧ f.get 2 = .int .i64 (n : Nat) ∧ f.get 4 = .int .i64 (i : Nat) ∧ ((∃ (P1 : List UInt8) (o1 : Value), q = n - i ∧ i ≤ n ∧ a + 4 + i ≤ D.length ∧ stoF D m (n - i) (a + 4 + i) P1 = stoF D m n (a + 4) P ∧ P1.length ≤ m ∧ Fl base t jf jb D (8 * (a + 4 + i)) P1 (m : Nat) bv o1 ∧ FTo jf jb o s o1 t) ∨ (q = 0 ∧ ∃ (e : Nat) (o1 : Value), Bd base t jf jb e ∧ FTo jf jb o s o1 t ∧ stoF D m n (a + 4) P = .error e)))
    ⟨0, by simp only [n_put, hn'], by simp only [get_put, ↓reduceIte, Nat.reduceEqDiff, h0], by simp only [get_put, ↓reduceIte, Nat.reduceEqDiff], by simp only [get_put, ↓reduceIte]; rfl, .inl ⟨P, o, rfl, by omega, by omega, rfl, hPm, by rw [show 8 * (a + 4 + 0) = 8 * a + 16 + 16 by omega]; exact h3, to3⟩⟩ ?_
  clear hn' h0 f w0 l2 h h1 h2' h3 to1 to2 to3 hb1 hn1 hs1 hx l1
  rintro q f s4 ⟨i, hn', h0, h2, h4', (⟨P1, o1, rfl, hi, hiD, hst, hP1, h4, to4⟩ | ⟨rfl, e, o1, hB, to4, he⟩)⟩
  rotate_left
  · obtain ⟨bv', pv', o', m', hB'⟩ := id hB
    have w0 := hB'.f.load (P := Try.prog) agBitsP (off := 0) (c := 4) rfl (by simp)
    have l2 := hB'.b.load (P := Try.prog) agInt (off := 2) (c := 4) rfl (by simp)
    have hp := hB'.pos
    have c0 : ¬ (e : Int) = 0 := by omega
    by_cases cn : (i : Int) < (n : Int)
    · simp (config := { maxSteps := 1000000, implicitDefEqProofs := false }) (disch := omega) only [allW, allR, wfn_normal, Nat.reduceLT, Nat.reduceEqDiff, ↓reduceIte, undef, hn', h0, h2, h4', eq_true cn, wfld0, tfld2, w0, l2, eq_false c0, Try.results33]
      exact bad e o1 s4 hB to4 he
    · simp (config := { maxSteps := 1000000, implicitDefEqProofs := false }) (disch := omega) only [allW, allR, wfn_normal, Nat.reduceLT, Nat.reduceEqDiff, ↓reduceIte, undef, hn', h2, h4', eq_false cn, Try.results33]
      exact bad e o1 s4 hB to4 he
  have w0 := h4.f.load (P := Try.prog) agBitsP (off := 0) (c := 4) rfl (by simp)
  have l2 := h4.b.load (P := Try.prog) agInt (off := 2) (c := 4) rfl (by simp)
  have hb4 : base ≤ s4.next := Nat.le_trans hb to4.next
  by_cases hin : i < n
  rotate_left
  · obtain rfl : i = n := by omega
    have hin' : ¬ (i : Int) < i := by omega
    rw [Nat.sub_self, stoF] at hst
    simp (config := { maxSteps := 1000000, implicitDefEqProofs := false }) (disch := omega) only [allW, allR, wfn_normal, Nat.reduceLT, Nat.reduceEqDiff, ↓reduceIte, undef, hn', h2, h4', eq_false hin', Try.results33]
    rw [← hst]
    exact ⟨o1, h4, to4⟩
  have hin' : (i : Int) < n := by omega
  rw [show n - i = (n - (i + 1)) + 1 by omega, stoF] at hst
  simp (config := { maxSteps := 1000000, implicitDefEqProofs := false }) (disch := omega) only [allW, allR, evalAll, Nat.reduceLT, Nat.reduceEqDiff, ↓reduceIte, undef, hn', h0, h2, h4', eq_true hin', wfld0, tfld2, w0, l2]
  by_cases r3 : a + 4 + i < D.length
  rotate_left
  · rw [if_neg r3] at hst
    refine (takeS_any hlt hfa base s4 jf jb D _ (8 * (a + 4 + i)) 8 _ bv o1 h4 (by omega) (by omega) (by omega) (by omega)).mono ?_
    rintro _ s5 ⟨rfl, hB5, to5⟩
    simp (config := { maxSteps := 1000000, implicitDefEqProofs := false }) (disch := omega) only [allW, allR, evalAll, Nat.reduceLT, Nat.reduceEqDiff, ↓reduceIte, hn', h0, conv_int Try.underlying3 Try.underlying5]
    refine (fputB_any hlp base s5 jf jb 2 _ hB5).mono ?_
    rintro _ s5 rfl
    simp (config := { maxSteps := 1000000, implicitDefEqProofs := false }) (disch := omega) only [allW, Nat.reduceLT, Nat.reduceEqDiff, ↓reduceIte, hn', h4', wrapI]
    exact wround_next 0 (by omega) ⟨i + 1, by simp only [n_put, hn'], by simp only [get_put, ↓reduceIte, Nat.reduceEqDiff, h0], by simp only [get_put, ↓reduceIte, Nat.reduceEqDiff, h2], by simp only [get_put, ↓reduceIte]; rfl, .inr ⟨rfl, 2, o1, hB5, to4.trans to5, hst.symm⟩⟩
  rw [if_pos r3] at hst
  refine (takeT_any hlt base s4 jf jb D _ (8 * (a + 4 + i)) 8 _ bv o1 h4 (by omega) (by omega) (by omega)).mono ?_
  rintro _ s5 ⟨rfl, h5, to5⟩
  have to5 := to4.trans to5
  rw [bits8]
  have hc8 := (D.getD (a + 4 + i) 0).toNat_lt
  have hcv : IntKind.u8.wrap (((D.getD (a + 4 + i) 0).toNat : Nat) : Int) = (((D.getD (a + 4 + i) 0).toNat : Nat) : Int) := by rw [wrapu8]; omega
  simp (config := { maxSteps := 1000000, implicitDefEqProofs := false }) (disch := omega) only [allW, allR, evalAll, Nat.reduceLT, Nat.reduceEqDiff, ↓reduceIte, hn', h0, conv_int Try.underlying3 Try.underlying5, hcv]
  by_cases r4 : m ≤ P1.length
  · rw [if_pos r4] at hst
    refine (fputL_any hlp hfa base s5 jf jb D P1 _ _ (D.getD (a + 4 + i) 0) bv o1 h5 (by omega)).mono ?_
    rintro _ s6 ⟨hB6, to6⟩
    simp (config := { maxSteps := 1000000, implicitDefEqProofs := false }) (disch := omega) only [allW, Nat.reduceLT, Nat.reduceEqDiff, ↓reduceIte, hn', h4', wrapI]
    exact wround_next 0 (by omega) ⟨i + 1, by simp only [n_put, hn'], by simp only [get_put, ↓reduceIte, Nat.reduceEqDiff, h0], by simp only [get_put, ↓reduceIte, Nat.reduceEqDiff, h2], by simp only [get_put, ↓reduceIte]; rfl, .inr ⟨rfl, 7, o1, hB6, to5.trans to6, hst.symm⟩⟩
  rw [if_neg r4] at hst
  refine (fputT_any hlp base s5 jf jb D P1 _ _ (D.getD (a + 4 + i) 0) bv o1 h5 (by omega) (by omega) (Nat.le_trans hb to5.next)).mono ?_
  rintro _ s6 ⟨o6, h6, to6⟩
  simp (config := { maxSteps := 1000000, implicitDefEqProofs := false }) (disch := omega) only [allW, Nat.reduceLT, Nat.reduceEqDiff, ↓reduceIte, hn', h4', wrapI]
  exact wround_next (n - (i + 1)) (by omega) ⟨i + 1, by simp only [n_put, hn'], by simp only [get_put, ↓reduceIte, Nat.reduceEqDiff, h0], by simp only [get_put, ↓reduceIte, Nat.reduceEqDiff, h2], by simp only [get_put, ↓reduceIte]; rfl, .inl ⟨P1 ++ [D.getD (a + 4 + i) 0], o6, rfl, by omega, by omega, hst, by rw [List.length_append]; simp; omega, by rw [show 8 * (a + 4 + (i + 1)) = 8 * (a + 4 + i) + 8 by omega]; exact h6, to5.trans to6⟩⟩
set_option maxHeartbeats 4000000 in
theorem flengthS_any {lib : Prims} (hl : lib.at 59 = none) (hlt : lib.at 32 = none) (hfa : lib.at 37 = none) (base : Nat) (s : ASt) (jf jb : Nat) (D P : List UInt8) (p : Nat) (M : Int) (bv o : Value) (h : Fl base s jf jb D p P M bv o) (hpD : p ≤ 8 * D.length) (hDl : D.length ≤ 1000000000) (q : Nat) (hq1 : 257 ≤ q) (hq : q ≤ 285) (hD : ¬ p + lenW q ≤ 8 * D.length) :
    Runs Try.prog lib 59 [bptr jf, .int .i64 (q : Nat)] s fun v s' => (∃ n : Nat, v = .int .i64 (n : Nat)) ∧ Bd base s' jf jb 2 ∧ FTo jf jb o s o s' := by
  refine Runs.enter 32 Try.func59 rfl hl rfl rfl ?_
  intro f hn hf
  have h0 : f.get 0 = bptr jf := hf 0
  have h1 : f.get 1 = .int .i64 (q : Nat) := hf 1
  clear hf
  have c1 : ¬ q ≤ 264 := fun c => by unfold lenW at hD; rw [if_pos (.inl c)] at hD; omega
  have c2 : ¬ q = 285 := fun c => by unfold lenW at hD; rw [if_pos (.inr c)] at hD; omega
  have d1 : ¬ (q : Int) ≤ 264 := by omega
  have d2 : ¬ (q : Int) = 285 := by omega
  have ew : lenW q = (q - 261) / 4 := by unfold lenW; rw [if_neg (by omega)]
  have e1 : (q : Int) - 261 = ((q - 261 : Nat) : Int) := by omega
  have e2 : (q : Int) - 265 = ((q - 265 : Nat) : Int) := by omega
  have q4 : ((q - 261 : Nat) : Int).tdiv 4 = (((q - 261) / 4 : Nat) : Int) := by rw [Int.tdiv_eq_ediv_of_nonneg (by omega)]; omega
  have r4 : ((q - 265 : Nat) : Int).tmod 4 = (((q - 265) % 4 : Nat) : Int) := by rw [Int.tmod_eq_emod_of_nonneg (by omega)]; omega
  have e3 : (4 : Int) + (((q - 265) % 4 : Nat) : Int) = ((4 + (q - 265) % 4 : Nat) : Int) := by omega
  have hp := pow_le5 (show (q - 261) / 4 ≤ 5 by omega)
  have hm7 : 4 + (q - 265) % 4 ≤ 7 := by omega
  have hx : (4 + (q - 265) % 4) * 2 ^ ((q - 261) / 4) ≤ 7 * 2 ^ 5 := Nat.mul_le_mul hm7 hp
  have hsh := shlS Try.prog 3 .u64 (x := 4 + (q - 265) % 4) (k := (q - 261) / 4) (by omega) (by omega)
  rw [ew] at hD
  generalize hX : (4 + (q - 265) % 4) * 2 ^ ((q - 261) / 4) = X at hx hsh
  have w0 := h.f.load (P := Try.prog) agBitsP (off := 0) (c := 4) rfl (by simp)
  simp (config := { maxSteps := 1000000, implicitDefEqProofs := false }) (disch := omega) only [allW, allR, evalAll, Nat.reduceLT, Nat.reduceEqDiff, ↓reduceIte, hn, h0, h1, eq_false d1, eq_false d2, wrapI, e1, bin_quo, q4, e2, bin_rem, r4, e3, conv_int Try.underlying3 Try.underlying29, wrapu64x, hsh, wfld0, w0]
  refine (takeS_any hlt hfa base s jf jb D P p ((q - 261) / 4) M bv o h (by omega) hD hpD hDl).mono ?_
  rintro _ s2 ⟨rfl, hB, hto⟩
  have e4 : ((X : Nat) : Int) + 3 + 0 = ((X + 3 : Nat) : Int) := by omega
  simp (config := { maxSteps := 1000000, implicitDefEqProofs := false }) (disch := omega) only [allW, wfn_ret, oneOf, Nat.reduceLT, Nat.reduceEqDiff, ↓reduceIte, hn, wrapI, e4, Try.results59]
  exact ⟨⟨_, rfl⟩, hB, hto⟩
set_option maxHeartbeats 4000000 in
theorem fdistanceS_any {lib : Prims} (hl : lib.at 60 = none) (hlt : lib.at 32 = none) (hfa : lib.at 37 = none) (base : Nat) (s : ASt) (jf jb : Nat) (D P : List UInt8) (p : Nat) (M : Int) (bv o : Value) (h : Fl base s jf jb D p P M bv o) (hpD : p ≤ 8 * D.length) (hDl : D.length ≤ 1000000000) (q : Nat) (hq : q ≤ 29) (hD : ¬ p + dstW q ≤ 8 * D.length) :
    Runs Try.prog lib 60 [bptr jf, .int .i64 (q : Nat)] s fun v s' => (∃ n : Nat, v = .int .i64 (n : Nat)) ∧ Bd base s' jf jb 2 ∧ FTo jf jb o s o s' := by
  refine Runs.enter 27 Try.func60 rfl hl rfl rfl ?_
  intro f hn hf
  have h0 : f.get 0 = bptr jf := hf 0
  have h1 : f.get 1 = .int .i64 (q : Nat) := hf 1
  clear hf
  have c1 : ¬ q ≤ 3 := fun c => by unfold dstW at hD; rw [if_pos c] at hD; omega
  have d1 : ¬ (q : Int) ≤ 3 := by omega
  have ew : dstW q = q / 2 - 1 := by unfold dstW; rw [if_neg c1]
  have q4 : (q : Int).tdiv 2 = ((q / 2 : Nat) : Int) := by rw [Int.tdiv_eq_ediv_of_nonneg (by omega)]; omega
  have e1 : ((q / 2 : Nat) : Int) - 1 = ((q / 2 - 1 : Nat) : Int) := by omega
  have r4 : (q : Int).tmod 2 = ((q % 2 : Nat) : Int) := by rw [Int.tmod_eq_emod_of_nonneg (by omega)]; omega
  have e3 : (2 : Int) + ((q % 2 : Nat) : Int) = ((2 + q % 2 : Nat) : Int) := by omega
  have hp := pow_le5 (show q / 2 - 1 ≤ 13 by omega)
  have hm7 : 2 + q % 2 ≤ 3 := by omega
  have hx : (2 + q % 2) * 2 ^ (q / 2 - 1) ≤ 3 * 2 ^ 13 := Nat.mul_le_mul hm7 hp
  have hsh := shlS Try.prog 3 .u64 (x := 2 + q % 2) (k := q / 2 - 1) (by omega) (by omega)
  rw [ew] at hD
  generalize hX : (2 + q % 2) * 2 ^ (q / 2 - 1) = X at hx hsh
  have w0 := h.f.load (P := Try.prog) agBitsP (off := 0) (c := 4) rfl (by simp)
  simp (config := { maxSteps := 1000000, implicitDefEqProofs := false }) (disch := omega) only [allW, allR, evalAll, Nat.reduceLT, Nat.reduceEqDiff, ↓reduceIte, hn, h0, h1, eq_false d1, bin_quo, q4, wrapI, e1, bin_rem, r4, e3, conv_int Try.underlying3 Try.underlying29, wrapu64x, hsh, wfld0, w0]
  refine (takeS_any hlt hfa base s jf jb D P p (q / 2 - 1) M bv o h (by omega) hD hpD hDl).mono ?_
  rintro _ s2 ⟨rfl, hB, hto⟩
  have e4 : ((X : Nat) : Int) + 1 + 0 = ((X + 1 : Nat) : Int) := by omega
  simp (config := { maxSteps := 1000000, implicitDefEqProofs := false }) (disch := omega) only [allW, wfn_ret, oneOf, Nat.reduceLT, Nat.reduceEqDiff, ↓reduceIte, hn, wrapI, e4, Try.results60]
  exact ⟨⟨_, rfl⟩, hB, hto⟩
end Go.Proofs.Ytnclklboogdoiaa
set_option linter.unusedSimpArgs false
set_option linter.unusedVariables false
set_option maxRecDepth 100000
namespace Go.Cl.Nf
open Go.Cl.Fx
theorem lenOf_le {x b : Nat} (hx : x ≤ 285) (hb : b < 2 ^ lenW x) : lenOf x b ≤ 1000 := by
  unfold lenOf
  split
  · omega
  · split
    · omega
    · have e : lenW x = (x - 261) / 4 := by unfold lenW; rw [if_neg (by omega)]
      rw [e] at hb
      have h1 : 2 ^ ((x - 261) / 4) ≤ 2 ^ 6 := Nat.pow_le_pow_right (by omega) (by omega)
      have h2 : (4 + (x - 265) % 4) * 2 ^ ((x - 261) / 4) ≤ 7 * 2 ^ 6 := Nat.mul_le_mul (by omega) h1
      have h3 : (2 : Nat) ^ 6 = 64 := by decide
      omega
end Go.Cl.Nf
namespace Go.Proofs.Ytnclklboogdoiaa
open Go.Cl Go.Cl.Rw Go.Cl.Sto Go.Cl.Fx Go.Cl.Nf
set_option maxHeartbeats 16000000 in
theorem fcodedX_any {lib : Prims} (hl : lib.at 35 = none) (hco : lib.at 46 = none) (hsy : lib.at 58 = none) (hlt : lib.at 32 = none) (hpu : lib.at 57 = none) (hln : lib.at 59 = none) (hds : lib.at 60 = none) (hfa : lib.at 37 = none)
    (base : Nat) (s : ASt) (jf jb : Nat) (D P0 : List UInt8) (p0 m N : Nat) (bv o : Value) (h : Fl base s jf jb D p0 P0 (m : Nat) bv o) (hpD : p0 ≤ 8 * D.length) (hDl : D.length ≤ 100000000) (hPm : P0.length ≤ m) (hm : m ≤ 100000000) (hN : 8 * D.length < N) (hb : base ≤ s.next)
    (ta td : Value) (C B : List Nat) (hA : Tab jf jb o s ta C) (hB : Tab jf jb o s td B) (hCl : C.length ≤ 300) (hBl : B.length ≤ 300) :
    Runs Try.prog lib 35 [bptr jf, ta, td] s fun _ s' => OutF base jf jb D (m : Nat) bv o s s' (codedX D m C B N p0 P0) := by
  refine Runs.enter 147 Try.func35 rfl hl rfl rfl ?_
  intro f hn hf
  have h0 : f.get 0 = bptr jf := hf 0
  have h1 : f.get 1 = ta := hf 1
  have h2 : f.get 2 = td := hf 2
  clear hf
  simp (config := { maxSteps := 1000000, implicitDefEqProofs := false }) (disch := omega) only [allW, allR, evalAll, Nat.reduceLT, ↓reduceIte, hn, h1]
  refine (codes_any hco s ta C hA.1 hCl).mono ?_
  rintro tc s1 ⟨hC, -, hCF, k1⟩
  have n1 := k1.next
  simp (config := { maxSteps := 1000000, implicitDefEqProofs := false }) (disch := omega) only [allW, allR, evalAll, Nat.reduceLT, Nat.reduceEqDiff, ↓reduceIte, hn, h2]
  refine (codes_any hco s1 td B (hB.1.keeps k1) hBl).mono ?_
  rintro te s2 ⟨hE, -, hEF, k2⟩
  have n2 := k2.next
  have hs2 : Stay s.next s s2 := k1.trans (k2.weaken n1)
  have hF2 : Fl base s2 jf jb D p0 P0 (m : Nat) bv o := ⟨h.b.keeps hs2, h.f.keeps hs2, h.low.stay (hs2.weaken hb), h.own.keeps hs2, h.fresh, h.nb, h.nf, h.ne, h.lb, h.lf⟩
  have hjf := h.f.lt
  have hjb := h.b.lt
  have hol : ∀ i, idOf o = some i → i < s.next := fun i hi => h.own.idlt i hi
  have ftS : FTo jf jb o s o s2 := ⟨hs2.next, fun i hi _ _ _ => hs2.get i hi, .inl rfl⟩
  have hA2 := hA.to ftS
  have hB2 := hB.to ftS
  have hC2 : Tab jf jb o s2 tc (codesC C) := ⟨by rw [codesC_len]; exact (hC.keeps k2).sees, fun i hi => ⟨by have := (hC.keeps k2).idlt i hi; omega, by have := hCF i hi; omega, by have := hCF i hi; omega, fun e => by have := hol i e; have := hCF i hi; omega⟩⟩
  have hE2 : Tab jf jb o s2 te (codesC B) := ⟨by rw [codesC_len]; exact hE.sees, fun i hi => ⟨by have := hE.idlt i hi; omega, by have := hEF i hi; omega, by have := hEF i hi; omega, fun e => by have := hol i e; have := hEF i hi; omega⟩⟩
  have KC := codesC_ok C
  have KB := codesC_ok B
  obtain ⟨R, hR⟩ : ∃ R, R = codedX D m C B N p0 P0 := ⟨_, rfl⟩
  have bsn : base ≤ s2.next := by omega
  have stayB : ∀ (o1 : Value) (t : ASt), FTo jf jb o s2 o1 t → Stay base s t := fun o1 t hto => (hs2.weaken hb).trans (hto.stay h.lf h.lb h.fresh bsn)
  rw [← hR]
  simp (config := { maxSteps := 1000000, implicitDefEqProofs := false }) (disch := omega) only [allW, Nat.reduceLT, Nat.reduceEqDiff, ↓reduceIte, hn]
  refine Comes.loopOut (fun z f t => f.n = 147 ∧ f.get 0 = bptr jf ∧ ((∃ (p : Nat) (P : List UInt8) (o1 : Value), codedX D m C B z p P = R ∧ 8 * D.length < p + z ∧ p ≤ 8 * D.length ∧ P.length ≤ m ∧ Fl base t jf jb D p P (m : Nat) bv o1 ∧ FTo jf jb o s2 o1 t ∧ Tab jf jb o1 t ta C ∧ Tab jf jb o1 t td B ∧ Tab jf jb o1 t tc (codesC C) ∧ Tab jf jb o1 t te (codesC B) ∧ f.get 1 = ta ∧ f.get 2 = td ∧ f.get 6 = tc ∧ f.get 7 = te) ∨ (z = 0 ∧ ∃ (e : Nat) (o1 : Value), Bd base t jf jb e ∧ FTo jf jb o s2 o1 t ∧ R = .error e)))
    (fun z f t => (z = .ret ∨ z = .exit 0) ∧ f.n = 147 ∧ OutF base jf jb D (m : Nat) bv o s t R)
    ⟨by simp only [n_put, hn], by simp only [get_put, ↓reduceIte, Nat.reduceEqDiff, h0], .inl ⟨p0, P0, o, hR.symm, by omega, hpD, hPm, hF2, FTo.refl _ _ _ _, hA2, hB2, hC2, hE2, by simp only [get_put, ↓reduceIte, Nat.reduceEqDiff, h1], by simp only [get_put, ↓reduceIte, Nat.reduceEqDiff, h2], by simp only [get_put, ↓reduceIte, Nat.reduceEqDiff], by simp only [get_put, ↓reduceIte]⟩⟩ ?_ ?_
  rotate_left
  · clear hn h0 h1 h2 f hF2 hA hB hA2 hB2 hC hC2 hE hE2
    rintro z f t ⟨rfl | rfl, hn, hO⟩
    · simp (config := { maxSteps := 1000000, implicitDefEqProofs := false }) (disch := omega) only [allW, wfn_ret, Try.results35]
      exact hO
    · simp (config := { maxSteps := 1000000, implicitDefEqProofs := false }) (disch := omega) only [allW, wfn_normal, ↓reduceIte, Try.results35]
      exact hO
  clear hn h0 h1 h2 f hF2 hA hB hA2 hB2 hC hC2 hE hE2
  rintro Q hQ z f t ⟨hn, h0, (⟨p, P, o1, hz, hpz, hpD, hPm, hF, hto, hA, hB, hC, hE, h1, h2, h6, h7⟩ | ⟨rfl, e, o1, hBd, hto, he⟩)⟩
  rotate_left
  · obtain ⟨bv', pv', o', m', hB'⟩ := id hBd
    have w0 := hB'.f.load (P := Try.prog) agBitsP (off := 0) (c := 4) rfl (by simp)
    have l2 := hB'.b.load (P := Try.prog) agInt (off := 2) (c := 4) rfl (by simp)
    have hp := hB'.pos
    have c0 : ¬ (e : Int) = 0 := by omega
    simp (config := { maxSteps := 1000000, implicitDefEqProofs := false }) (disch := omega) only [allW, allR, Nat.reduceLT, ↓reduceIte, hn, h0, wfld0, tfld2, w0, l2, eq_false c0]
    exact hQ _ _ _ ⟨.inr rfl, by simp only [n_put, hn], by rw [he]; exact ⟨hBd, stayB o1 t hto⟩⟩
  obtain ⟨k, rfl⟩ : ∃ k, z = k + 1 := ⟨z - 1, by omega⟩
  have w0 := hF.f.load (P := Try.prog) agBitsP (off := 0) (c := 4) rfl (by simp)
  have l2 := hF.b.load (P := Try.prog) agInt (off := 2) (c := 4) rfl (by simp)
  rw [codedX] at hz
  have bt : base ≤ t.next := by have := hto.next; omega
  simp (config := { maxSteps := 1000000, implicitDefEqProofs := false }) (disch := omega) only [allW, allR, evalAll, Nat.reduceLT, Nat.reduceEqDiff, ↓reduceIte, hn, h0, h1, h6, wfld0, tfld2, w0, l2]
  refine (symN_any hsy hlt hfa base t jf jb D P p _ bv o1 hF hpD (by omega) ta tc C (codesC C) hA hC KC (by omega)).mono ?_
  intro v t1 hS
  cases hsx : sym D C p with
  | error e =>
    rw [hsx] at hS hz
    obtain ⟨rfl, hBd, to1⟩ := hS
    obtain ⟨bv', pv', o', m', hB'⟩ := id hBd
    have w0 := hB'.f.load (P := Try.prog) agBitsP (off := 0) (c := 4) rfl (by simp)
    have l2 := hB'.b.load (P := Try.prog) agInt (off := 2) (c := 4) rfl (by simp)
    have hp := hB'.pos
    have c0 : ¬ (e : Int) = 0 := by omega
    simp (config := { maxSteps := 1000000, implicitDefEqProofs := false }) (disch := omega) only [allW, allR, Nat.reduceLT, Nat.reduceEqDiff, ↓reduceIte, undef, hn, h0, wfld0, tfld2, w0, l2, eq_false c0]
    exact hQ _ _ _ ⟨.inl rfl, by simp only [n_put, hn], by rw [← hz]; exact ⟨hBd, stayB o1 t1 (hto.trans to1)⟩⟩
  | ok x =>
  obtain ⟨x, q⟩ := x
  rw [hsx] at hS hz
  obtain ⟨rfl, hF1, to1⟩ := hS
  have hsl := sym_le hsx
  have w0 := hF1.f.load (P := Try.prog) agBitsP (off := 0) (c := 4) rfl (by simp)
  have l2 := hF1.b.load (P := Try.prog) agInt (off := 2) (c := 4) rfl (by simp)
  have bt1 : base ≤ t1.next := by have := to1.next; omega
  dsimp only at hz
  by_cases cx : x = 256
  · have d1 : ((x : Nat) : Int) = 256 := by omega
    rw [if_pos cx] at hz
    simp (config := { maxSteps := 1000000, implicitDefEqProofs := false }) (disch := omega) only [allW, allR, Nat.reduceLT, Nat.reduceEqDiff, ↓reduceIte, undef, hn, h0, wfld0, tfld2, w0, l2, eq_true d1]
    exact hQ _ _ _ ⟨.inl rfl, by simp only [n_put, hn], by rw [← hz]; exact ⟨o1, hF1, ftS.trans (hto.trans to1)⟩⟩
  have d1 : ¬ ((x : Nat) : Int) = 256 := by omega
  rw [if_neg cx] at hz
  by_cases cl : x < 256
  · have d2 : ((x : Nat) : Int) < 256 := by omega
    rw [if_pos cl] at hz
    simp (config := { maxSteps := 1000000, implicitDefEqProofs := false }) (disch := omega) only [allW, allR, evalAll, Nat.reduceLT, Nat.reduceEqDiff, ↓reduceIte, undef, hn, h0, wfld0, tfld2, w0, l2, eq_false d1, eq_true d2, conv_int Try.underlying3 Try.underlying5, b0]
    by_cases cm : m ≤ P.length
    · rw [if_pos cm] at hz
      refine (fputL_any hpu hfa base t1 jf jb D P _ _ (UInt8.ofNat x) bv o1 hF1 (by omega)).mono ?_
      rintro _ t2 ⟨hBd, to2⟩
      simp (config := { maxSteps := 1000000, implicitDefEqProofs := false }) (disch := omega) only [allW, Nat.reduceLT, ↓reduceIte, hn]
      exact wround_next 0 (by omega) ⟨by simp only [n_put, hn], by simp only [get_put, ↓reduceIte, Nat.reduceEqDiff, h0], .inr ⟨rfl, 7, o1, hBd, (hto.trans to1).trans to2, hz.symm⟩⟩
    rw [if_neg cm] at hz
    refine (fputT_any hpu base t1 jf jb D P _ _ (UInt8.ofNat x) bv o1 hF1 (by omega) (by omega) bt1).mono ?_
    rintro _ t2 ⟨o2, hF2, to2⟩
    have toT := to1.trans to2
    simp (config := { maxSteps := 1000000, implicitDefEqProofs := false }) (disch := omega) only [allW, Nat.reduceLT, ↓reduceIte, hn]
    exact wround_next k (by omega) ⟨by simp only [n_put, hn], by simp only [get_put, ↓reduceIte, Nat.reduceEqDiff, h0], .inl ⟨q, P ++ [UInt8.ofNat x], o2, hz, by omega, by omega, by rw [List.length_append, List.length_singleton]; omega, hF2, hto.trans toT, hA.to toT, hB.to toT, hC.to toT, hE.to toT, by simp only [get_put, ↓reduceIte, Nat.reduceEqDiff, h1], by simp only [get_put, ↓reduceIte, Nat.reduceEqDiff, h2], by simp only [get_put, ↓reduceIte, Nat.reduceEqDiff, h6], by simp only [get_put, ↓reduceIte, Nat.reduceEqDiff, h7]⟩⟩
  have d2 : ¬ ((x : Nat) : Int) < 256 := by omega
  rw [if_neg cl] at hz
  unfold copyX at hz
  by_cases cg : 285 < x
  · have d3 : ((x : Nat) : Int) > 285 := by omega
    rw [if_pos cg] at hz
    simp (config := { maxSteps := 1000000, implicitDefEqProofs := false }) (disch := omega) only [allW, allR, evalAll, Nat.reduceLT, Nat.reduceEqDiff, ↓reduceIte, undef, hn, h0, wfld0, tfld2, w0, l2, eq_false d1, eq_false d2, eq_true d3]
    refine (fail_any hfa t1 jb bv _ 4 hF1.b).mono ?_
    rintro _ t2 ⟨hb4, hn4, hs4⟩
    obtain ⟨hBd, to2⟩ := hF1.bad (by decide) hb4 hn4 hs4
    simp (config := { maxSteps := 1000000, implicitDefEqProofs := false }) (disch := omega) only [allW, Nat.reduceLT, ↓reduceIte, hn]
    exact hQ _ _ _ ⟨.inl rfl, by simp only [n_put, hn], by rw [← hz]; exact ⟨hBd, stayB o1 t2 ((hto.trans to1).trans to2)⟩⟩
  have d3 : ¬ ((x : Nat) : Int) > 285 := by omega
  rw [if_neg cg] at hz
  simp (config := { maxSteps := 1000000, implicitDefEqProofs := false }) (disch := omega) only [allW, allR, evalAll, Nat.reduceLT, Nat.reduceEqDiff, ↓reduceIte, undef, hn, h0, wfld0, tfld2, w0, l2, eq_false d1, eq_false d2, eq_false d3]
  by_cases r1 : q + lenW x ≤ 8 * D.length
  rotate_left
  · rw [takeE_no r1] at hz
    refine (flengthS_any hln hlt hfa base t1 jf jb D P q _ bv o1 hF1 (by omega) (by omega) x (by omega) (by omega) r1).mono ?_
    rintro _ t2 ⟨⟨n, rfl⟩, hBd, to2⟩
    have toT := (hto.trans to1).trans to2
    obtain ⟨bv', pv', o', m', hB'⟩ := id hBd
    have w0 := hB'.f.load (P := Try.prog) agBitsP (off := 0) (c := 4) rfl (by simp)
    simp (config := { maxSteps := 1000000, implicitDefEqProofs := false }) (disch := omega) only [allW, allR, evalAll, Nat.reduceLT, Nat.reduceEqDiff, ↓reduceIte, undef, hn, h0, h2, h7, wfld0, w0]
    refine (symB_any hsy hlt base t2 jf jb 2 td te hBd).mono ?_
    rintro _ t2 ⟨rfl, rfl⟩
    have w0 := hB'.f.load (P := Try.prog) agBitsP (off := 0) (c := 4) rfl (by simp)
    have l2 := hB'.b.load (P := Try.prog) agInt (off := 2) (c := 4) rfl (by simp)
    have c0 : ¬ ((2 : Nat) : Int) = 0 := by decide
    simp (config := { maxSteps := 1000000, implicitDefEqProofs := false }) (disch := omega) only [allW, allR, Nat.reduceLT, Nat.reduceEqDiff, ↓reduceIte, undef, hn, h0, wfld0, tfld2, w0, l2, eq_false c0]
    exact hQ _ _ _ ⟨.inl rfl, by simp only [n_put, hn], by rw [← hz]; exact ⟨hBd, stayB o1 t2 toT⟩⟩
  rw [takeE_ok r1] at hz
  dsimp only at hz
  refine (flength_any hln hlt base t1 jf jb D P q _ bv o1 hF1 (by omega) x (by omega) (by omega) r1).mono ?_
  rintro _ t2 ⟨rfl, hF2, to2⟩
  have to2 := to1.trans to2
  have w0 := hF2.f.load (P := Try.prog) agBitsP (off := 0) (c := 4) rfl (by simp)
  have hxl := bitsN_lt D q (lenW x)
  have hnl := lenOf_le (x := x) (by omega) hxl
  generalize hnn : lenOf x (bitsN D q (lenW x)) = n at hz hnl
  simp (config := { maxSteps := 1000000, implicitDefEqProofs := false }) (disch := omega) only [allW, allR, evalAll, Nat.reduceLT, Nat.reduceEqDiff, ↓reduceIte, undef, hn, h0, h2, h7, wfld0, w0]
  refine (symN_any hsy hlt hfa base t2 jf jb D P _ _ bv o1 hF2 r1 (by omega) td te B (codesC B) (hB.to to2) (hE.to to2) KB (by omega)).mono ?_
  intro v t3 hS
  cases hsy2 : sym D B (q + lenW x) with
  | error e =>
    rw [hsy2] at hS hz
    obtain ⟨rfl, hBd, to3⟩ := hS
    obtain ⟨bv', pv', o', m', hB'⟩ := id hBd
    have w0 := hB'.f.load (P := Try.prog) agBitsP (off := 0) (c := 4) rfl (by simp)
    have l2 := hB'.b.load (P := Try.prog) agInt (off := 2) (c := 4) rfl (by simp)
    have hp := hB'.pos
    have c0 : ¬ (e : Int) = 0 := by omega
    simp (config := { maxSteps := 1000000, implicitDefEqProofs := false }) (disch := omega) only [allW, allR, Nat.reduceLT, Nat.reduceEqDiff, ↓reduceIte, undef, hn, h0, wfld0, tfld2, w0, l2, eq_false c0]
    exact hQ _ _ _ ⟨.inl rfl, by simp only [n_put, hn], by rw [← hz]; exact ⟨hBd, stayB o1 t3 (hto.trans (to2.trans to3))⟩⟩
  | ok y =>
  obtain ⟨c, r⟩ := y
  rw [hsy2] at hS hz
  obtain ⟨rfl, hF3, to3⟩ := hS
  have to3 := to2.trans to3
  have hsl2 := sym_le hsy2
  have w0 := hF3.f.load (P := Try.prog) agBitsP (off := 0) (c := 4) rfl (by simp)
  have l2 := hF3.b.load (P := Try.prog) agInt (off := 2) (c := 4) rfl (by simp)
  dsimp only at hz
  by_cases cc : 30 ≤ c
  · have d4 : ((c : Nat) : Int) > 29 := by omega
    rw [if_pos cc] at hz
    simp (config := { maxSteps := 1000000, implicitDefEqProofs := false }) (disch := omega) only [allW, allR, evalAll, Nat.reduceLT, Nat.reduceEqDiff, ↓reduceIte, undef, hn, h0, wfld0, tfld2, w0, l2, eq_true d4]
    refine (fail_any hfa t3 jb bv _ 4 hF3.b).mono ?_
    rintro _ t4 ⟨hb4, hn4, hs4⟩
    obtain ⟨hBd, to4⟩ := hF3.bad (by decide) hb4 hn4 hs4
    obtain ⟨bv', pv', o', m', hB'⟩ := id hBd
    have w0 := hB'.f.load (P := Try.prog) agBitsP (off := 0) (c := 4) rfl (by simp)
    have l2 := hB'.b.load (P := Try.prog) agInt (off := 2) (c := 4) rfl (by simp)
    have c0 : ¬ ((4 : Nat) : Int) = 0 := by decide
    simp (config := { maxSteps := 1000000, implicitDefEqProofs := false }) (disch := omega) only [allW, allR, Nat.reduceLT, Nat.reduceEqDiff, ↓reduceIte, undef, hn, h0, wfld0, tfld2, w0, l2, eq_false c0]
    exact hQ _ _ _ ⟨.inl rfl, by simp only [n_put, hn], by rw [← hz]; exact ⟨hBd, stayB o1 t4 (hto.trans (to3.trans to4))⟩⟩
  have d4 : ¬ ((c : Nat) : Int) > 29 := by omega
  rw [if_neg cc] at hz
  simp (config := { maxSteps := 1000000, implicitDefEqProofs := false }) (disch := omega) only [allW, allR, evalAll, Nat.reduceLT, Nat.reduceEqDiff, ↓reduceIte, undef, hn, h0, wfld0, tfld2, w0, l2, eq_false d4]
  by_cases r2 : r + dstW c ≤ 8 * D.length
  rotate_left
  · rw [takeE_no r2] at hz
    refine (fdistanceS_any hds hlt hfa base t3 jf jb D P r _ bv o1 hF3 (by omega) (by omega) c (by omega) r2).mono ?_
    rintro _ t4 ⟨⟨n', rfl⟩, hBd, to4⟩
    have toT := hto.trans (to3.trans to4)
    obtain ⟨bv', pv', o', m', hB'⟩ := id hBd
    have w0 := hB'.f.load (P := Try.prog) agBitsP (off := 0) (c := 4) rfl (by simp)
    have l2 := hB'.b.load (P := Try.prog) agInt (off := 2) (c := 4) rfl (by simp)
    have c0 : ¬ ((2 : Nat) : Int) = 0 := by decide
    simp (config := { maxSteps := 1000000, implicitDefEqProofs := false }) (disch := omega) only [allW, allR, Nat.reduceLT, Nat.reduceEqDiff, ↓reduceIte, undef, hn, h0, wfld0, tfld2, w0, l2, eq_false c0]
    refine Comes.loopOut (fun z f t' => z = 0 ∧ t4 = t' ∧ f.n = 147 ∧ f.get 0 = bptr jf ∧ f.get 9 = .int .i64 (n : Nat) ∧ f.get 12 = .int .i64 0)
      (fun z f t' => z = .exit 2 ∧ t4 = t' ∧ f.n = 147 ∧ f.get 0 = bptr jf) ⟨rfl, rfl, by simp only [n_put, hn], by simp only [get_put, ↓reduceIte, Nat.reduceEqDiff, h0], by simp only [get_put, ↓reduceIte, Nat.reduceEqDiff], by simp only [get_put, ↓reduceIte]⟩ ?_ ?_
    · clear hn h0 h1 h2 h6 h7 f
      rintro Q2 hQ2 z f _ ⟨rfl, rfl, hn, h0, h9, h12⟩
      by_cases cn : (0 : Int) < (n : Int)
      · simp (config := { maxSteps := 1000000, implicitDefEqProofs := false }) (disch := omega) only [allW, allR, Nat.reduceLT, Nat.reduceEqDiff, ↓reduceIte, undef, hn, h0, h9, h12, eq_true cn, wfld0, tfld2, w0, l2, eq_false c0]
        exact hQ2 _ _ _ ⟨rfl, rfl, by simp only [n_put, hn], by simp only [get_put, ↓reduceIte, Nat.reduceEqDiff, h0]⟩
      · simp (config := { maxSteps := 1000000, implicitDefEqProofs := false }) (disch := omega) only [allW, allR, Nat.reduceLT, Nat.reduceEqDiff, ↓reduceIte, undef, hn, h9, h12, eq_false cn]
        exact hQ2 _ _ _ ⟨rfl, rfl, by simp only [n_put, hn], by simp only [get_put, ↓reduceIte, Nat.reduceEqDiff, h0]⟩
    clear hn h0 h1 h2 h6 h7 f
    rintro z f _ ⟨rfl, rfl, hn, h0⟩
    simp (config := { maxSteps := 1000000, implicitDefEqProofs := false }) (disch := omega) only [allW, ↓reduceIte]
    exact wround_next 0 (by omega) ⟨by simp only [hn], by simp only [h0], .inr ⟨rfl, 2, o1, hBd, toT, hz.symm⟩⟩
  rw [takeE_ok r2] at hz
  dsimp only at hz
  refine (fdistance_any hds hlt base t3 jf jb D P r _ bv o1 hF3 (by omega) c (by omega) r2).mono ?_
  rintro _ t4 ⟨rfl, hF4, to4⟩
  have to4 := to3.trans to4
  have hdpos : 1 ≤ dstOf c (bitsN D r (dstW c)) := by unfold dstOf; split <;> omega
  generalize hdd : dstOf c (bitsN D r (dstW c)) = d at hz hdpos
  have w0 := hF4.f.load (P := Try.prog) agBitsP (off := 0) (c := 4) rfl (by simp)
  have w1 := hF4.f.load (P := Try.prog) agSl (off := 1) (c := 4) rfl (by simp)
  have l2 := hF4.b.load (P := Try.prog) agInt (off := 2) (c := 4) rfl (by simp)
  have hlen4 := hF4.own.sees.lenA (P := Try.prog) Try.underlying22 (s2 := t4)
  have bt4 : base ≤ t4.next := by have := to4.next; omega
  by_cases cd : P.length < d
  · have d5 : ((d : Nat) : Int) > ((P.length : Nat) : Int) := by omega
    rw [if_pos cd] at hz
    simp (config := { maxSteps := 1000000, implicitDefEqProofs := false }) (disch := omega) only [allW, allR, evalAll, Nat.reduceLT, Nat.reduceEqDiff, ↓reduceIte, undef, hn, h0, wfld0, wfld1, tfld2, w0, w1, l2, hlen4, eq_true d5]
    refine (fail_any hfa t4 jb bv _ 4 hF4.b).mono ?_
    rintro _ t5 ⟨hb4, hn4, hs4⟩
    obtain ⟨hBd, to5⟩ := hF4.bad (by decide) hb4 hn4 hs4
    have toT := hto.trans (to4.trans to5)
    obtain ⟨bv', pv', o', m', hB'⟩ := id hBd
    have w0 := hB'.f.load (P := Try.prog) agBitsP (off := 0) (c := 4) rfl (by simp)
    have l2 := hB'.b.load (P := Try.prog) agInt (off := 2) (c := 4) rfl (by simp)
    have c0 : ¬ ((4 : Nat) : Int) = 0 := by decide
    simp (config := { maxSteps := 1000000, implicitDefEqProofs := false }) (disch := omega) only [allW, Nat.reduceLT, ↓reduceIte, hn]
    refine Comes.loopOut (fun z f t' => z = 0 ∧ t5 = t' ∧ f.n = 147 ∧ f.get 0 = bptr jf ∧ f.get 9 = .int .i64 (n : Nat) ∧ f.get 12 = .int .i64 0)
      (fun z f t' => z = .exit 2 ∧ t5 = t' ∧ f.n = 147 ∧ f.get 0 = bptr jf) ⟨rfl, rfl, by simp only [n_put, hn], by simp only [get_put, ↓reduceIte, Nat.reduceEqDiff, h0], by simp only [get_put, ↓reduceIte, Nat.reduceEqDiff], by simp only [get_put, ↓reduceIte]⟩ ?_ ?_
    · clear hn h0 h1 h2 h6 h7 f
      rintro Q2 hQ2 z f _ ⟨rfl, rfl, hn, h0, h9, h12⟩
      by_cases cn : (0 : Int) < (n : Int)
      · simp (config := { maxSteps := 1000000, implicitDefEqProofs := false }) (disch := omega) only [allW, allR, Nat.reduceLT, Nat.reduceEqDiff, ↓reduceIte, undef, hn, h0, h9, h12, eq_true cn, wfld0, tfld2, w0, l2, eq_false c0]
        exact hQ2 _ _ _ ⟨rfl, rfl, by simp only [n_put, hn], by simp only [get_put, ↓reduceIte, Nat.reduceEqDiff, h0]⟩
      · simp (config := { maxSteps := 1000000, implicitDefEqProofs := false }) (disch := omega) only [allW, allR, Nat.reduceLT, Nat.reduceEqDiff, ↓reduceIte, undef, hn, h9, h12, eq_false cn]
        exact hQ2 _ _ _ ⟨rfl, rfl, by simp only [n_put, hn], by simp only [get_put, ↓reduceIte, Nat.reduceEqDiff, h0]⟩
    clear hn h0 h1 h2 h6 h7 f
    rintro z f _ ⟨rfl, rfl, hn, h0⟩
    simp (config := { maxSteps := 1000000, implicitDefEqProofs := false }) (disch := omega) only [allW, ↓reduceIte]
    exact wround_next 0 (by omega) ⟨by simp only [hn], by simp only [h0], .inr ⟨rfl, 4, o1, hBd, toT, hz.symm⟩⟩
  have d5 : ¬ ((d : Nat) : Int) > ((P.length : Nat) : Int) := by omega
  rw [if_neg cd] at hz
  simp (config := { maxSteps := 1000000, implicitDefEqProofs := false }) (disch := omega) only [allW, allR, evalAll, Nat.reduceLT, Nat.reduceEqDiff, ↓reduceIte, undef, hn, h0, wfld0, wfld1, tfld2, w0, w1, l2, hlen4, eq_false d5]
  refine Comes.loopOut (fun z f t' => ∃ i : Nat, base ≤ t'.next ∧ f.n = 147 ∧ f.get 0 = bptr jf ∧ f.get 1 = ta ∧ f.get 2 = td ∧ f.get 6 = tc ∧ f.get 7 = te ∧ f.get 9 = .int .i64 (n : Nat) ∧ f.get 11 = .int .i64 (d : Nat) ∧ f.get 12 = .int .i64 (i : Nat) ∧ ((∃ (P1 : List UInt8) (o3 : Value), z = n - i ∧ i ≤ n ∧ rep m d (n - i) P1 = rep m d n P ∧ d ≤ P1.length ∧ P1.length ≤ m ∧ Fl base t' jf jb D (r + dstW c) P1 (m : Nat) bv o3 ∧ FTo jf jb o1 t o3 t') ∨ (z = 0 ∧ ∃ (e : Nat) (o3 : Value), Bd base t' jf jb e ∧ FTo jf jb o1 t o3 t' ∧ rep m d n P = .error e)))
    (fun z f t' => z = .exit 2 ∧ f.n = 147 ∧ f.get 0 = bptr jf ∧ f.get 1 = ta ∧ f.get 2 = td ∧ f.get 6 = tc ∧ f.get 7 = te ∧ ((∃ (P1 : List UInt8) (o3 : Value), rep m d n P = .ok P1 ∧ P1.length ≤ m ∧ Fl base t' jf jb D (r + dstW c) P1 (m : Nat) bv o3 ∧ FTo jf jb o1 t o3 t') ∨ (∃ (e : Nat) (o3 : Value), Bd base t' jf jb e ∧ FTo jf jb o1 t o3 t' ∧ rep m d n P = .error e)))
    ⟨0, bt4, by simp only [n_put, hn], by simp only [get_put, ↓reduceIte, Nat.reduceEqDiff, h0], by simp only [get_put, ↓reduceIte, Nat.reduceEqDiff, h1], by simp only [get_put, ↓reduceIte, Nat.reduceEqDiff, h2], by simp only [get_put, ↓reduceIte, Nat.reduceEqDiff, h6], by simp only [get_put, ↓reduceIte, Nat.reduceEqDiff, h7], by simp only [get_put, ↓reduceIte, Nat.reduceEqDiff], by simp only [get_put, ↓reduceIte, Nat.reduceEqDiff], by simp only [get_put, ↓reduceIte]; rfl, .inl ⟨P, o1, rfl, by omega, rfl, by omega, hPm, hF4, to4⟩⟩ ?_ ?_
  · clear hn h0 h1 h2 h6 h7 f w0 w1 l2 hlen4
    rintro Q2 hQ2 z f t' ⟨i, nb5, hn, h0, h1, h2, h6, h7, h9, h11, h12, (⟨P1, o3, rfl, hi, hrp, hdP, hP1, hF5, to5⟩ | ⟨rfl, e, o3, hBd, to5, he⟩)⟩
    rotate_left
    · obtain ⟨bv', pv', o', m', hB'⟩ := id hBd
      have w0 := hB'.f.load (P := Try.prog) agBitsP (off := 0) (c := 4) rfl (by simp)
      have l2 := hB'.b.load (P := Try.prog) agInt (off := 2) (c := 4) rfl (by simp)
      have hp := hB'.pos
      have c0 : ¬ (e : Int) = 0 := by omega
      by_cases cn : (i : Int) < (n : Int)
      · simp (config := { maxSteps := 1000000, implicitDefEqProofs := false }) (disch := omega) only [allW, allR, Nat.reduceLT, Nat.reduceEqDiff, ↓reduceIte, undef, hn, h0, h9, h12, eq_true cn, wfld0, tfld2, w0, l2, eq_false c0]
        exact hQ2 _ _ _ ⟨rfl, by simp only [n_put, hn], by simp only [get_put, ↓reduceIte, Nat.reduceEqDiff, h0], by simp only [get_put, ↓reduceIte, Nat.reduceEqDiff, h1], by simp only [get_put, ↓reduceIte, Nat.reduceEqDiff, h2], by simp only [get_put, ↓reduceIte, Nat.reduceEqDiff, h6], by simp only [get_put, ↓reduceIte, Nat.reduceEqDiff, h7], .inr ⟨e, o3, hBd, to5, he⟩⟩
      · simp (config := { maxSteps := 1000000, implicitDefEqProofs := false }) (disch := omega) only [allW, allR, Nat.reduceLT, Nat.reduceEqDiff, ↓reduceIte, undef, hn, h9, h12, eq_false cn]
        exact hQ2 _ _ _ ⟨rfl, by simp only [n_put, hn], by simp only [get_put, ↓reduceIte, Nat.reduceEqDiff, h0], by simp only [get_put, ↓reduceIte, Nat.reduceEqDiff, h1], by simp only [get_put, ↓reduceIte, Nat.reduceEqDiff, h2], by simp only [get_put, ↓reduceIte, Nat.reduceEqDiff, h6], by simp only [get_put, ↓reduceIte, Nat.reduceEqDiff, h7], .inr ⟨e, o3, hBd, to5, he⟩⟩
    have w0 := hF5.f.load (P := Try.prog) agBitsP (off := 0) (c := 4) rfl (by simp)
    have l2 := hF5.b.load (P := Try.prog) agInt (off := 2) (c := 4) rfl (by simp)
    by_cases hin : i < n
    rotate_left
    · obtain rfl : i = n := by omega
      have e1 : ¬ ((i : Nat) : Int) < ((i : Nat) : Int) := by omega
      rw [Nat.sub_self, rep] at hrp
      simp (config := { maxSteps := 1000000, implicitDefEqProofs := false }) (disch := omega) only [allW, allR, Nat.reduceLT, Nat.reduceEqDiff, ↓reduceIte, undef, hn, h9, h12, eq_false e1]
      exact hQ2 _ _ _ ⟨rfl, by simp only [n_put, hn], by simp only [get_put, ↓reduceIte, Nat.reduceEqDiff, h0], by simp only [get_put, ↓reduceIte, Nat.reduceEqDiff, h1], by simp only [get_put, ↓reduceIte, Nat.reduceEqDiff, h2], by simp only [get_put, ↓reduceIte, Nat.reduceEqDiff, h6], by simp only [get_put, ↓reduceIte, Nat.reduceEqDiff, h7], .inl ⟨P1, o3, hrp.symm, hP1, hF5, to5⟩⟩
    have e1 : ((i : Nat) : Int) < ((n : Nat) : Int) := by omega
    rw [show n - i = (n - (i + 1)) + 1 by omega, rep] at hrp
    simp (config := { maxSteps := 1000000, implicitDefEqProofs := false }) (disch := omega) only [allW, allR, Nat.reduceLT, Nat.reduceEqDiff, ↓reduceIte, undef, hn, h0, h9, h12, eq_true e1, wfld0, tfld2, w0, l2]
    obtain ⟨BB, hBB⟩ : ∃ BB : Nat → Bool, BB = fun j => decide (j < t'.next) := ⟨_, rfl⟩
    have hBl : ∀ j, BB j = true → j < t'.next := by
      intro j h
      rw [hBB] at h
      exact of_decide_eq_true h
    have hBo : ∀ j, j < t'.next → BB j = true := fun j h => by rw [hBB]; exact decide_eq_true h
    refine LB.Drawn.looseK BB hBl 0 0 (by kernel_rfl) (by kernel_rfl) ?_
    have hsq := Stay.spare t' 0
    have hnq : (spare t' 0).next = t'.next + 0 := spare_next _ _
    have toq : FTo jf jb o3 t' o3 (spare t' 0) := ⟨by omega, fun i hi _ _ _ => hsq.get i hi, .inl rfl⟩
    have hlw : ∀ k, LA.lowV BB (some (.pointer (some ⟨jf, k, some 4⟩))) = true := fun k => LA.lowV_ptr (A := BB) (i := jf) (hBo _ hF5.f.lt)
    have lE := fun k => LA.lowV_elemOld hF5.own.sees hBo (k := k)
    have lL := LA.lowL_sees hF5.own.sees
    have hFq : Fl base (spare t' 0) jf jb D (r + dstW c) P1 (m : Nat) bv o3 := ⟨hF5.b.keeps hsq, hF5.f.keeps hsq, hF5.low.stay (hsq.weaken nb5), hF5.own.keeps hsq, hF5.fresh, hF5.nb, hF5.nf, hF5.ne, hF5.lb, hF5.lf⟩
    have w1 := hFq.f.load (P := Try.prog) agSl (off := 1) (c := 4) rfl (by simp)
    have hlen5 := hFq.own.sees.lenA (P := Try.prog) Try.underlying22 (s2 := spare t' 0)
    have hix : P1.length - d < P1.length := by omega
    have hi1 := hFq.own.sees.indexAddr (P := Try.prog) (k := .i64) (x := ((P1.length - d : Nat) : Int)) Try.underlying22 szU8 (by omega) (by omega)
    rw [Int.toNat_natCast] at hi1
    have k1 := hFq.own.sees.load1 (P := Try.prog) agU8 hix
    rw [ofBytes_getD hix] at k1
    have e2 : ((P1.length : Nat) : Int) - (d : Int) = ((P1.length - d : Nat) : Int) := by omega
    simp (config := { maxSteps := 1000000, implicitDefEqProofs := false }) (disch := omega) only [allW, allR, allL, allB, Nat.reduceSub, evalAll, Nat.reduceLT, Nat.reduceEqDiff, ↓reduceIte, hn, h0, h11, h12, wfld1, w1, hlw, lE, lL, hlen5, hF5.own.self, wrapI, e2, hi1, k1]
    by_cases cm : m ≤ P1.length
    · rw [if_pos cm] at hrp
      refine (fputL_any hpu hfa base (spare t' 0) jf jb D P1 _ _ (P1.getD (P1.length - d) 0) bv o3 hFq (by omega)).mono ?_
      rintro _ t6 ⟨hBd, to6⟩
      refine ⟨fun h => h.elim, ?_⟩
      have n6 := to6.next
      exact wround_next 0 (by omega) ⟨i + 1, by omega, by simp only [n_put, hn], by simp only [get_put, ↓reduceIte, Nat.reduceEqDiff, h0], by simp only [get_put, ↓reduceIte, Nat.reduceEqDiff, h1], by simp only [get_put, ↓reduceIte, Nat.reduceEqDiff, h2], by simp only [get_put, ↓reduceIte, Nat.reduceEqDiff, h6], by simp only [get_put, ↓reduceIte, Nat.reduceEqDiff, h7], by simp only [get_put, ↓reduceIte, Nat.reduceEqDiff, h9], by simp only [get_put, ↓reduceIte, Nat.reduceEqDiff, h11], by simp only [get_put, ↓reduceIte]; rfl, .inr ⟨rfl, 7, o3, hBd, to5.trans (toq.trans to6), hrp.symm⟩⟩
    rw [if_neg cm] at hrp
    refine (fputT_any hpu base (spare t' 0) jf jb D P1 _ _ (P1.getD (P1.length - d) 0) bv o3 hFq (by omega) (by omega) (by omega)).mono ?_
    rintro _ t6 ⟨o4, hF6, to6⟩
    refine ⟨fun h => h.elim, ?_⟩
    have n6 := to6.next
    exact wround_next (n - (i + 1)) (by omega) ⟨i + 1, by omega, by simp only [n_put, hn], by simp only [get_put, ↓reduceIte, Nat.reduceEqDiff, h0], by simp only [get_put, ↓reduceIte, Nat.reduceEqDiff, h1], by simp only [get_put, ↓reduceIte, Nat.reduceEqDiff, h2], by simp only [get_put, ↓reduceIte, Nat.reduceEqDiff, h6], by simp only [get_put, ↓reduceIte, Nat.reduceEqDiff, h7], by simp only [get_put, ↓reduceIte, Nat.reduceEqDiff, h9], by simp only [get_put, ↓reduceIte, Nat.reduceEqDiff, h11], by simp only [get_put, ↓reduceIte]; rfl, .inl ⟨_, o4, rfl, by omega, hrp, by rw [List.length_append]; omega, by rw [List.length_append, List.length_singleton]; omega, hF6, to5.trans (toq.trans to6)⟩⟩
  clear hn h0 h1 h2 h6 h7 f w0 w1 l2 hlen4
  rintro z f t' ⟨rfl, hn, h0, h1, h2, h6, h7, (⟨P1, o3, hrp, hP1, hF5, to5⟩ | ⟨e, o3, hBd, to5, he⟩)⟩
  · rw [hrp] at hz
    simp (config := { maxSteps := 1000000, implicitDefEqProofs := false }) (disch := omega) only [allW, ↓reduceIte]
    exact wround_next k (by omega) ⟨by simp only [hn], by simp only [h0], .inl ⟨r + dstW c, P1, o3, hz, by omega, r2, hP1, hF5, hto.trans to5, hA.to to5, hB.to to5, hC.to to5, hE.to to5, by simp only [h1], by simp only [h2], by simp only [h6], by simp only [h7]⟩⟩
  · rw [he] at hz
    simp (config := { maxSteps := 1000000, implicitDefEqProofs := false }) (disch := omega) only [allW, ↓reduceIte]
    exact wround_next 0 (by omega) ⟨by simp only [hn], by simp only [h0], .inr ⟨rfl, e, o3, hBd, hto.trans to5, hz.symm⟩⟩
end Go.Proofs.Ytnclklboogdoiaa
set_option linter.unusedSimpArgs false
set_option linter.unusedVariables false
set_option maxRecDepth 100000
namespace Go.Cl.Fx
theorem FTo.turned {jf jb : Nat} {o y : Value} {s t t' : ASt} (h : FTo jf jb o s o t) (k : Turns y t t') (hy : ∀ i, idOf y = some i → s.next ≤ i) : FTo jf jb o s o t' :=
  ⟨Nat.le_trans h.next k.next, fun i hi h1 h2 h3 => (k.get i (Nat.lt_of_lt_of_le hi h.next) (fun e => by have := hy i e; omega)).trans (h.get i hi h1 h2 h3), .inl rfl⟩
theorem FTo.kept {jf jb : Nat} {o : Value} {s t t' : ASt} (h : FTo jf jb o s o t) (k : Stay t.next t t') : FTo jf jb o s o t' :=
  ⟨Nat.le_trans h.next k.next, fun i hi h1 h2 h3 => (k.get i (Nat.lt_of_lt_of_le hi h.next)).trans (h.get i hi h1 h2 h3), .inl rfl⟩
end Go.Cl.Fx
namespace Go.Cl
namespace LB
theorem sstep_storeElemN {P : Program} {lib : Prims} {A : Nat → Bool} {g : Nat} {all r : List Oper} {id : Nat} {f : AFr} {T : ASt} {d : Option Tmp} {Q : AFr → ASt → Prop} {e : TypeId} (hsz : sizeB P e = some 1) {v : Value} {n : Nat} {l : List Value} (h : Own T 1 v n l) {k : Nat} (hk : k < n) {w : Value} (hw : okCell w = true) (hA1 : g ≠ 0 → ∀ i, idOf v = some i → A i = false) (hA2 : ∀ i, A i = true → i < T.next)
    (K : ∀ T', Own T' 1 v n (l.set k w) → Turns v T T' → scall P lib A (g - 1) all r id f d Q undef T') : sstep P lib A g all r id f d T Q (uOf (storeA P T e (elemPtr 1 v k) w)) := by
  obtain ⟨s', h1, h2, h3⟩ := h.put hsz hk hw
  rw [h1, uOf_some, sstep_val]
  exact ⟨fun hg => ⟨h3.next, fun i hi => h3.get i (hA2 i hi) (fun e => by have := hA1 hg i e; rw [hi] at this; cases this)⟩, K s' h2 h3⟩
end LB
end Go.Cl
namespace Go.Cl.Nf
open Go.Cl.Fx Go.Cl.Sto
theorem wwant_cut {P : Program} {lib : Prims} {all : List Oper} {o : Oper} {r : List Oper} {f : AFr} {s : ASt} {c : Code} {Q : AX → AFr → ASt → Prop} {b : Bool} (J : AFr → ASt → Prop) (h1 : ∀ Q' : AX → AFr → ASt → Prop, (∀ f' s', J f' s' → Q' .normal f' s') → wwant P lib all o r f s (wthen P lib c Q' .normal) b) (h2 : ∀ f' s', J f' s' → Q .normal f' s') : wwant P lib all o r f s (wthen P lib c Q .normal) b := h1 Q h2
theorem wif_cutN {P : Program} {lib : Prims} {cA cB : Code} {f : AFr} {s : ASt} {Q : AX → AFr → ASt → Prop} {b : Bool} (J : AFr → ASt → Prop) (h1 : ∀ Q' : AX → AFr → ASt → Prop, (∀ f' s', J f' s' → Q' .normal f' s') → wif P lib cA cB f s Q' b) (h2 : ∀ f' s', J f' s' → Q .normal f' s') : wif P lib cA cB f s Q b := h1 Q h2
def chk (x : Except Nat Nat) (c : Prop) [Decidable c] : Except Nat Nat := match x with | .ok p => if c then .error 4 else .ok p | .error e => .error e
theorem chk_err (e : Nat) (c : Prop) [Decidable c] : chk (.error e) c = .error e := rfl
theorem chk_yes (p : Nat) {c : Prop} [Decidable c] (h : c) : chk (.ok p) c = .error 4 := if_pos h
theorem chk_no (p : Nat) {c : Prop} [Decidable c] (h : ¬ c) : chk (.ok p) c = .ok p := if_neg h
theorem takeS_err (D : List UInt8) (e n : Nat) : takeS D (.error e) n = .error e := rfl
theorem takeV_ok {D : List UInt8} {p n : Nat} (h : p + n ≤ 8 * D.length) : takeV D (.ok p) n = bitsN D p n := if_pos h
theorem takeS_ok {D : List UInt8} {p n : Nat} (h : p + n ≤ 8 * D.length) : takeS D (.ok p) n = .ok (p + n) := if_pos h
theorem takeS_no {D : List UInt8} {p n : Nat} (h : ¬ p + n ≤ 8 * D.length) : takeS D (.ok p) n = .error 2 := if_neg h
theorem head_eq {D : List UInt8} {p n5 d5 k4 : Nat} {x1 x2 x3 x4 x5 : Except Nat Nat} (h1 : n5 = takeV D (.ok p) 5) (h2 : x1 = takeS D (.ok p) 5) (h3 : x2 = chk x1 (29 < n5)) (h4 : d5 = takeV D x2 5) (h5 : x3 = takeS D x2 5) (h6 : x4 = chk x3 (29 < d5)) (h7 : k4 = takeV D x4 4) (h8 : x5 = takeS D x4 4) :
    (headX D p = .ok (n5 + 257, d5 + 1, k4 + 4) ∧ x5 = .ok (p + 14) ∧ n5 ≤ 29 ∧ d5 ≤ 29) ∨ (∃ e, headX D p = .error e ∧ x5 = .error e) := by
  unfold headX
  by_cases c1 : p + 5 ≤ 8 * D.length
  rotate_left
  · rw [takeS_no c1] at h2
    subst h2 h3 h5 h6 h8
    exact .inr ⟨2, by rw [takeE_no c1], rfl⟩
  rw [takeV_ok c1] at h1
  rw [takeS_ok c1] at h2
  subst h1 h2
  rw [takeE_ok c1]
  dsimp only
  by_cases c2 : 29 < bitsN D p 5
  · rw [chk_yes _ c2] at h3
    subst h3 h5 h6 h8
    exact .inr ⟨4, by rw [if_pos c2], rfl⟩
  rw [chk_no _ c2] at h3
  subst h3
  rw [if_neg c2]
  by_cases c3 : p + 5 + 5 ≤ 8 * D.length
  rotate_left
  · rw [takeS_no c3] at h5
    subst h5 h6 h8
    exact .inr ⟨2, by rw [takeE_no c3], rfl⟩
  rw [takeV_ok c3] at h4
  rw [takeS_ok c3] at h5
  subst h4 h5
  rw [takeE_ok c3]
  dsimp only
  by_cases c4 : 29 < bitsN D (p + 5) 5
  · rw [chk_yes _ c4] at h6
    subst h6 h8
    exact .inr ⟨4, by rw [if_pos c4], rfl⟩
  rw [chk_no _ c4] at h6
  subst h6
  rw [if_neg c4]
  by_cases c5 : p + 5 + 5 + 4 ≤ 8 * D.length
  rotate_left
  · rw [takeS_no c5] at h8
    exact .inr ⟨2, by rw [show p + 10 = p + 5 + 5 by omega, takeE_no c5], h8⟩
  rw [takeV_ok c5] at h7
  rw [takeS_ok c5] at h8
  rw [show p + 10 = p + 5 + 5 by omega, takeE_ok c5]
  exact .inl ⟨by rw [h7], by rw [h8], by omega, by omega⟩
def ownS (D : List UInt8) : List Nat → Except Nat Nat → List Nat → Except Nat Nat × List Nat
  | [], x, o => (x, o)
  | i :: r, x, o => ownS D r (takeS D x 3) (o.set i (takeV D x 3))
theorem ownS_err (D : List UInt8) (e : Nat) : ∀ r o, (ownS D r (.error e) o).1 = .error e
  | [], o => rfl
  | i :: r, o => ownS_err D e r _
theorem own_eq (D : List UInt8) : ∀ (r : List Nat) (p : Nat) (o : List Nat), (∃ o' q, ownX D r p o = .ok (o', q) ∧ ownS D r (.ok p) o = (.ok q, o')) ∨ (∃ e, ownX D r p o = .error e ∧ (ownS D r (.ok p) o).1 = .error e)
  | [], p, o => .inl ⟨o, p, rfl, rfl⟩
  | i :: r, p, o => by
    unfold ownX ownS
    by_cases c : p + 3 ≤ 8 * D.length
    · rw [takeE_ok c, takeS_ok c, takeV_ok c]
      exact own_eq D r (p + 3) _
    · rw [takeE_no c, takeS_no c]
      exact .inr ⟨2, rfl, ownS_err D 2 r _⟩
def againS (D : List UInt8) (s : Nat) (x : Except Nat Nat) (l : List Nat) : Nat × Nat × Except Nat Nat :=
  match x with
  | .error e => (s, 1, .error e)
  | .ok q => if s = 16 then (if l.length = 0 then (s, 1, .error 4) else (l.getD (l.length - 1) 0, 3 + takeV D (.ok q) 2, takeS D (.ok q) 2))
    else if s = 17 then (0, 3 + takeV D (.ok q) 3, takeS D (.ok q) 3)
    else if s = 18 then (0, 11 + takeV D (.ok q) 7, takeS D (.ok q) 7)
    else (s, 1, .ok q)
def symX (y : Except Nat (Nat × Nat)) : Nat × Except Nat Nat := match y with | .ok (s, q) => (s, .ok q) | .error e => (0, .error e)
def bindX {α β : Type} (x : Except Nat α) (f : α → Except Nat β) : Except Nat β := match x with | .ok a => f a | .error e => .error e
theorem lens_step {D : List UInt8} {C : List Nat} {M k p : Nat} {l : List Nat} {a : Nat × Nat × Except Nat Nat} {x : Except Nat Nat} (hM : ¬ M ≤ l.length) (ha : a = againS D (symX (sym D C p)).1 (symX (sym D C p)).2 l) (hx : x = chk a.2.2 (M < l.length + a.2.1)) :
    lensX D C M (k + 1) p l = bindX x fun q => lensX D C M k q (l ++ List.replicate a.2.1 a.1) := by
  rw [lensX, if_neg hM]
  cases hs : sym D C p with
  | error e =>
    rw [hs] at ha
    have ha : a = (0, 1, .error e) := ha
    subst ha hx
    rfl
  | ok y =>
    obtain ⟨s, q⟩ := y
    rw [hs] at ha
    dsimp only
    have ha : a = againS D s (.ok q) l := ha
    unfold againX
    unfold againS at ha
    dsimp only at ha
    have fin : ∀ (v n r : Nat), a = (v, n, .ok r) → (match (Except.ok (v, n, r) : Except Nat (Nat × Nat × Nat)) with | .error e => (.error e : Except Nat (List Nat × Nat)) | .ok (x, n, r) => if M < l.length + n then .error 4 else lensX D C M k r (l ++ List.replicate n x)) = bindX x fun q => lensX D C M k q (l ++ List.replicate a.2.1 a.1) := by
      intro v n r e
      subst e
      by_cases c : M < l.length + n
      · have hx : x = .error 4 := by rw [hx]; exact chk_yes _ c
        subst hx
        dsimp only
        rw [if_pos c]; rfl
      · have hx : x = .ok r := by rw [hx]; exact chk_no _ c
        subst hx
        dsimp only
        rw [if_neg c]; rfl
    have bad : ∀ (v n e : Nat), a = (v, n, .error e) → (.error e : Except Nat (List Nat × Nat)) = bindX x fun q => lensX D C M k q (l ++ List.replicate a.2.1 a.1) := by
      intro v n e h
      subst h
      have hx : x = .error e := hx
      subst hx
      rfl
    by_cases c1 : s = 16
    · rw [if_pos c1] at ha ⊢
      by_cases c2 : l.length = 0
      · rw [if_pos c2] at ha ⊢
        exact bad _ _ _ ha
      · rw [if_neg c2] at ha ⊢
        by_cases c3 : q + 2 ≤ 8 * D.length
        · rw [takeV_ok c3, takeS_ok c3] at ha
          rw [takeE_ok c3]
          exact fin _ _ _ ha
        · rw [takeS_no c3] at ha
          rw [takeE_no c3]
          exact bad _ _ _ ha
    rw [if_neg c1] at ha ⊢
    by_cases c1 : s = 17
    · rw [if_pos c1] at ha ⊢
      by_cases c3 : q + 3 ≤ 8 * D.length
      · rw [takeV_ok c3, takeS_ok c3] at ha
        rw [takeE_ok c3]
        exact fin _ _ _ ha
      · rw [takeS_no c3] at ha
        rw [takeE_no c3]
        exact bad _ _ _ ha
    rw [if_neg c1] at ha ⊢
    by_cases c1 : s = 18
    · rw [if_pos c1] at ha ⊢
      by_cases c3 : q + 7 ≤ 8 * D.length
      · rw [takeV_ok c3, takeS_ok c3] at ha
        rw [takeE_ok c3]
        exact fin _ _ _ ha
      · rw [takeS_no c3] at ha
        rw [takeE_no c3]
        exact bad _ _ _ ha
    rw [if_neg c1] at ha ⊢
    exact fin _ _ _ ha
theorem getD_app {l r : List Nat} {i : Nat} : (l ++ r).getD i 0 = if i < l.length then l.getD i 0 else r.getD (i - l.length) 0 := by
  simp only [List.getD_eq_getElem?_getD]
  by_cases c : i < l.length
  · rw [if_pos c, List.getElem?_append_left c]
  · rw [if_neg c, List.getElem?_append_right (by omega)]
theorem le15_rep {l : List Nat} {n v : Nat} (h : Le15 l) (hv : v ≤ 15) : Le15 (l ++ List.replicate n v) := by
  intro i
  rw [getD_app]
  split
  · exact h i
  · rw [List.getD_eq_getElem?_getD, List.getElem?_replicate]
    split
    · exact hv
    · exact Nat.zero_le _
theorem le15_take {l : List Nat} (h : Le15 l) (n : Nat) : Le15 (l.take n) := by
  intro i
  by_cases c : i < n
  · have : (l.take n).getD i 0 = l.getD i 0 := by rw [List.getD_eq_getElem?_getD, List.getElem?_take_of_lt c, List.getD_eq_getElem?_getD]
    rw [this]; exact h i
  · rw [List.getD_eq_getElem?_getD, List.getElem?_eq_none (by rw [List.length_take]; omega)]; exact Nat.zero_le _
theorem le15_drop {l : List Nat} (h : Le15 l) (n : Nat) : Le15 (l.drop n) := by
  intro i
  have : (l.drop n).getD i 0 = l.getD (n + i) 0 := by rw [List.getD_eq_getElem?_getD, List.getElem?_drop, List.getD_eq_getElem?_getD]
  rw [this]; exact h _
theorem againS_fine {D : List UInt8} {s : Nat} {x : Except Nat Nat} {l : List Nat} (hs : s ≤ 18) (hl : Le15 l) : (againS D s x l).2.1 ≤ 200 ∧ (∀ q, (againS D s x l).2.2 = .ok q → (againS D s x l).1 ≤ 15) ∧ (againS D s x l).1 ≤ 18 := by
  cases x with
  | error e => exact ⟨by simp [againS], fun q h => by simp [againS] at h, hs⟩
  | ok q =>
    unfold againS
    dsimp only
    have h2 := takeV_lt D (.ok q) 2
    have h3 := takeV_lt D (.ok q) 3
    have h7 := takeV_lt D (.ok q) 7
    split
    · split
      · exact ⟨by simp, fun q h => by simp at h, hs⟩
      · exact ⟨by dsimp only; omega, fun _ _ => hl _, by dsimp only; have := hl (l.length - 1); omega⟩
    split
    · exact ⟨by dsimp only; omega, fun _ _ => by simp, by simp⟩
    split
    · exact ⟨by dsimp only; omega, fun _ _ => by simp, by simp⟩
    · exact ⟨by simp, fun _ _ => by dsimp only; omega, hs⟩
theorem againS_le {D : List UInt8} {s q q' : Nat} {l : List Nat} (h : (againS D s (.ok q) l).2.2 = .ok q') : q ≤ q' := by
  have tk : ∀ n, takeS D (.ok q) n = .ok q' → q ≤ q' := fun n h => by
    by_cases c : q + n ≤ 8 * D.length
    · rw [takeS_ok c] at h; injection h with h; omega
    · rw [takeS_no c] at h; cases h
  unfold againS at h
  dsimp only at h
  split at h
  · split at h
    · cases h
    · exact tk _ h
  split at h
  · exact tk _ h
  split at h
  · exact tk _ h
  · injection h with h; omega
theorem chk_le {x : Except Nat Nat} {c : Prop} [Decidable c] {q : Nat} (h : chk x c = .ok q) : x = .ok q ∧ ¬ c := by
  cases x with
  | error e => cases h
  | ok p =>
    by_cases hc : c
    · rw [chk_yes _ hc] at h; cases h
    · rw [chk_no _ hc] at h; exact ⟨h, hc⟩
theorem bindX_ok {α β : Type} (a : α) (f : α → Except Nat β) : bindX (.ok a) f = f a := rfl
theorem bindX_err {α β : Type} (e : Nat) (f : α → Except Nat β) : bindX (.error e) f = .error e := rfl
theorem dyn_eq {N : Nat} {D : List UInt8} {p n5 d5 k4 : Nat} {x5 x6 x7 : Except Nat Nat} {oL : List Nat} {R2 : Except Nat (List Nat × Nat)} (hh : (headX D p = .ok (n5 + 257, d5 + 1, k4 + 4) ∧ x5 = .ok (p + 14) ∧ n5 ≤ 29 ∧ d5 ≤ 29) ∨ (∃ e, headX D p = .error e ∧ x5 = .error e))
    (h6 : ownS D (order.take (k4 + 4)) x5 (List.replicate 19 0) = (x6, oL)) (h7 : x7 = chk x6 (¬ mayC oL)) (hR : R2 = bindX x7 fun q => lensX D oL (n5 + 257 + (d5 + 1)) N q []) :
    dynX N D p = bindX R2 fun y => if mayC (y.1.take (n5 + 257)) ∧ mayC (y.1.drop (n5 + 257)) ∧ y.1.getD 256 0 ≠ 0 then .ok ((y.1.take (n5 + 257), y.1.drop (n5 + 257)), y.2) else .error 4 := by
  unfold dynX
  rcases hh with ⟨h1, rfl, -, -⟩ | ⟨e, h1, rfl⟩
  · rw [h1]
    dsimp only
    rcases own_eq D (order.take (k4 + 4)) (p + 14) (List.replicate 19 0) with ⟨o', q, h2, h3⟩ | ⟨e, h2, h3⟩
    · rw [h3] at h6
      injection h6 with h6 h6'
      subst h6 h6'
      rw [h2]
      dsimp only
      by_cases c : mayC o'
      · rw [chk_no _ (fun h => h c)] at h7
        subst h7
        rw [if_pos c, hR, bindX_ok]
        cases lensX D o' (n5 + 257 + (d5 + 1)) N q [] with
        | error e => rfl
        | ok y => rfl
      · rw [chk_yes _ c] at h7
        subst h7
        rw [if_neg c, hR]; rfl
    · rw [h6] at h3
      have h3 : x6 = .error e := h3
      subst h3
      rw [chk_err] at h7
      subst h7
      rw [h2, hR]; rfl
  · have h3 := ownS_err D e (order.take (k4 + 4)) (List.replicate 19 0)
    rw [h6] at h3
    have h3 : x6 = .error e := h3
    subst h3
    rw [chk_err] at h7
    subst h7
    rw [h1, hR]; rfl
end Go.Cl.Nf
namespace Go.Proofs.Ytnclklboogdoiaa
open Go.Cl Go.Cl.Rw Go.Cl.Sto Go.Cl.Fx Go.Cl.Nf
theorem lowV_elemIn {A : Nat → Bool} {s : ASt} {z : Nat} {v : Value} {n : Nat} {l : List Value} (h : Sees s z v n l) (hA : ∀ i, idOf v = some i → A i = true) {k : Nat} (hk : k < n) : LA.lowV A (some (elemPtr z v k)) = true := by
  cases h with
  | nil => omega
  | bare => omega
  | of i off n c bl l hi hbb hz hl hc hlen hoff ht => simp only [elemPtr, LA.lowV]; exact hA i rfl
theorem bOrder (s : ASt) : buildSliceA Try.prog s 63 19 [(0, .int .i64 16), (1, .int .i64 17), (2, .int .i64 18), (3, .int .i64 0), (4, .int .i64 8), (5, .int .i64 7), (6, .int .i64 9), (7, .int .i64 6), (8, .int .i64 10), (9, .int .i64 5), (10, .int .i64 11), (11, .int .i64 4), (12, .int .i64 12), (13, .int .i64 3), (14, .int .i64 13), (15, .int .i64 2), (16, .int .i64 14), (17, .int .i64 1), (18, .int .i64 15)] = newSlice s (natsV order) 19 1 := by
  unfold buildSliceA; rw [uIntsF]; simp only [szInt, zIntF]; rfl
theorem RdO.turns {base jf jb : Nat} {D P : List UInt8} {M : Int} {bv o y : Value} {t t' : ASt} {x : Except Nat Nat} (h : RdO base jf jb D P M bv o t x) (k : Turns y t t') (hy : ∀ i, idOf y = some i → base ≤ i ∧ i ≠ jf ∧ i ≠ jb ∧ idOf o ≠ some i) (hb : base ≤ t.next) : RdO base jf jb D P M bv o t' x := by
  have n1 : idOf y ≠ some jb := fun e => (hy _ e).2.2.1 rfl
  have n2 : idOf y ≠ some jf := fun e => (hy _ e).2.1 rfl
  cases x with
  | ok p => exact ⟨⟨h.1.b.turns k n1, h.1.f.turns k n2, h.1.low.stay (k.keeps (fun i e => (hy i e).1) hb), h.1.own.turns k (fun i e e2 => (hy i e2).2.2.2 e), h.1.fresh, h.1.nb, h.1.nf, h.1.ne, h.1.lb, h.1.lf⟩, h.2⟩
  | error e =>
    obtain ⟨bv', pv, o', m', h⟩ := h
    exact ⟨bv', pv, o', m', ⟨h.b.turns k n1, h.f.turns k n2, h.pos, h.ne, h.lb, h.lf⟩⟩
theorem jtoOwn {jb : Nat} {t t' : ASt} {y : Value} {n : Nat} {L : List Value} (h : Own t 1 y n L) (k : JTo jb t t') (hy : idOf y ≠ some jb) : Own t' 1 y n L := h.ofPut k.1 k.2 hy
theorem symR_rd {base jf jb : Nat} {D P : List UInt8} {M : Int} {bv o : Value} {s s' : ASt} {v : Value} {T : List Nat} {q : Nat} (h : SymR base jf jb D P M bv o s v s' (sym D T q)) : v = .int .i64 ((symX (sym D T q)).1 : Nat) ∧ RdO base jf jb D P M bv o s' (symX (sym D T q)).2 ∧ FTo jf jb o s o s' := by
  cases hs : sym D T q with
  | error e => rw [hs] at h; exact h
  | ok y =>
    obtain ⟨x, r⟩ := y
    rw [hs] at h
    exact ⟨h.1, ⟨h.2.1, (sym_le hs).2.1⟩, h.2.2⟩
theorem idOf_cutS {z lo hi i : Nat} {v : Value} (h : idOf (cutS z v lo hi) = some i) : idOf v = some i := by
  unfold cutS at h
  split at h
  · exact h
  · cases h
theorem natsV_take (L : List Nat) (n : Nat) : (natsV L).take n = natsV (L.take n) := by simp [natsV, List.map_take]
theorem natsV_drop (L : List Nat) (n : Nat) : (natsV L).drop n = natsV (L.drop n) := by simp [natsV, List.map_drop]
theorem natsV_app (L K : List Nat) : natsV L ++ natsV K = natsV (L ++ K) := by simp [natsV]
def DynR (base jf jb : Nat) (D P : List UInt8) (M : Int) (bv o : Value) (s : ASt) (v : Value) (s' : ASt) : Except Nat ((List Nat × List Nat) × Nat) → Prop
  | .ok ((a, b), q) => ∃ va vb, v = .tuple #[va, vb] ∧ Fl base s' jf jb D q P M bv o ∧ q ≤ 8 * D.length ∧ FTo jf jb o s o s' ∧ Tab jf jb o s' va a ∧ Tab jf jb o s' vb b ∧ a.length ≤ 300 ∧ b.length ≤ 300
  | .error e => (∃ va vb, v = .tuple #[va, vb]) ∧ Bd base s' jf jb e ∧ FTo jf jb o s o s'
set_option maxHeartbeats 16000000 in
theorem fdynX_any {lib : Prims} (hl : lib.at 36 = none) (hco : lib.at 46 = none) (hmy : lib.at 61 = none) (hsy : lib.at 58 = none) (hlt : lib.at 32 = none) (hfa : lib.at 37 = none)
    (base : Nat) (s : ASt) (jf jb : Nat) (D P : List UInt8) (p m N : Nat) (bv o : Value) (h : Fl base s jf jb D p P (m : Nat) bv o) (hpD : p ≤ 8 * D.length) (hDl : D.length ≤ 100000000) (hN : 8 * D.length + 1 < N) (hb : base ≤ s.next) :
    Runs Try.prog lib 36 [bptr jf] s fun v s' => DynR base jf jb D P (m : Nat) bv o s v s' (dynX N D p) := by
  have hol : ∀ i, idOf o = some i → i < s.next := fun i hi => h.own.idlt i hi
  have hjf := h.f.lt
  have hjb := h.b.lt
  have h0R : RdO base jf jb D P (m : Nat) bv o s (.ok p) := ⟨h, hpD⟩
  refine Runs.enter 264 Try.func36 rfl hl rfl rfl ?_
  intro f hn hf
  have h0 : f.get 0 = bptr jf := hf 0
  clear hf
  simp (config := { maxSteps := 1000000, implicitDefEqProofs := false }) (disch := omega) only [allW, allR, evalAll, Nat.reduceLT, Nat.reduceEqDiff, ↓reduceIte, hn, h0, wfld0, h0R.w0]
  refine (takeX_any hlt hfa base s jf jb D P (.ok p) 5 _ bv o h0R (by omega) (by omega)).mono ?_
  rintro _ s1 ⟨rfl, h1R, j1⟩
  obtain ⟨n5, en5⟩ : ∃ n, n = takeV D (.ok p) 5 := ⟨_, rfl⟩
  obtain ⟨x1, ex1⟩ : ∃ x, x = takeS D (.ok p) 5 := ⟨_, rfl⟩
  have hn5 := takeV_lt D (.ok p) 5
  rw [← en5] at hn5 ⊢
  rw [← ex1] at h1R
  have e1 : ((n5 : Nat) : Int) + 257 = ((n5 + 257 : Nat) : Int) := by omega
  simp (config := { maxSteps := 1000000, implicitDefEqProofs := false }) (disch := omega) only [allW, allR, Nat.reduceLT, Nat.reduceEqDiff, ↓reduceIte, hn, h0, wrapI, e1, wfld0, tfld2, h1R.w0, h1R.l2]
  refine wwant_cut (fun f' t => f'.n = 264 ∧ f'.get 0 = bptr jf ∧ f'.get 4 = .int .i64 ((n5 + 257 : Nat) : Int) ∧ RdO base jf jb D P (m : Nat) bv o t (chk x1 (29 < n5)) ∧ JTo jb s t) ?_ ?_
  · intro Q' hQ'
    cases x1 with
    | error e =>
      have c0 : ¬ ((badV (.error e) : Nat) : Int) = 0 := fun c => by obtain ⟨q, hq⟩ := h1R.bad.1 (by omega); cases hq
      simp (config := { maxSteps := 1000000, implicitDefEqProofs := false }) (disch := omega) only [allW, allR, Nat.reduceLT, Nat.reduceEqDiff, ↓reduceIte, undef, hn, eq_false c0]
      exact hQ' _ _ ⟨by simp only [n_put, hn], by simp only [get_put, ↓reduceIte, Nat.reduceEqDiff, h0], by simp only [get_put, ↓reduceIte, Nat.reduceEqDiff], h1R, j1⟩
    | ok q =>
      have c0 : ((badV (.ok q) : Nat) : Int) = 0 := rfl
      by_cases c1 : 29 < n5
      · have d1 : ((n5 + 257 : Nat) : Int) > 286 := by omega
        simp (config := { maxSteps := 1000000, implicitDefEqProofs := false }) (disch := omega) only [allW, allR, evalAll, Nat.reduceLT, Nat.reduceEqDiff, ↓reduceIte, hn, h0, eq_true c0, eq_true d1, wfld0, h1R.w0]
        refine (failX_any hfa base s1 jf jb D P q 4 _ bv o h1R (by decide)).mono ?_
        rintro _ s2 ⟨h2R, j2⟩
        simp (config := { maxSteps := 1000000, implicitDefEqProofs := false }) (disch := omega) only [allW, Nat.reduceLT, ↓reduceIte, hn]
        exact hQ' _ _ ⟨by simp only [n_put, hn], by simp only [get_put, ↓reduceIte, Nat.reduceEqDiff, h0], by simp only [get_put, ↓reduceIte, Nat.reduceEqDiff], by rw [chk_yes _ c1]; exact h2R, j1.trans j2⟩
      · have d1 : ¬ ((n5 + 257 : Nat) : Int) > 286 := by omega
        simp (config := { maxSteps := 1000000, implicitDefEqProofs := false }) (disch := omega) only [allW, allR, Nat.reduceLT, Nat.reduceEqDiff, ↓reduceIte, hn, eq_true c0, eq_false d1]
        exact hQ' _ _ ⟨by simp only [n_put, hn], by simp only [get_put, ↓reduceIte, Nat.reduceEqDiff, h0], by simp only [get_put, ↓reduceIte, Nat.reduceEqDiff], by rw [chk_no _ c1]; exact h1R, j1⟩
  clear hn h0 f h1R j1 e1
  rintro f s1 ⟨hn, h0, h4, h2R, j1⟩
  obtain ⟨x2, ex2⟩ : ∃ x, x = chk x1 (29 < n5) := ⟨_, rfl⟩
  rw [← ex2] at h2R
  simp (config := { maxSteps := 1000000, implicitDefEqProofs := false }) (disch := omega) only [allW, allR, evalAll, Nat.reduceLT, ↓reduceIte, hn, h0, wfld0, h2R.w0]
  refine (takeX_any hlt hfa base s1 jf jb D P x2 5 _ bv o h2R (by omega) (by omega)).mono ?_
  rintro _ s2 ⟨rfl, h3R, j2⟩
  obtain ⟨d5, ed5⟩ : ∃ n, n = takeV D x2 5 := ⟨_, rfl⟩
  obtain ⟨x3, ex3⟩ : ∃ x, x = takeS D x2 5 := ⟨_, rfl⟩
  have hd5 := takeV_lt D x2 5
  rw [← ed5] at hd5 ⊢
  rw [← ex3] at h3R
  have e1 : ((d5 : Nat) : Int) + 1 = ((d5 + 1 : Nat) : Int) := by omega
  simp (config := { maxSteps := 1000000, implicitDefEqProofs := false }) (disch := omega) only [allW, allR, Nat.reduceLT, Nat.reduceEqDiff, ↓reduceIte, hn, h0, wrapI, e1, wfld0, tfld2, h3R.w0, h3R.l2]
  refine wwant_cut (fun f' t => f'.n = 264 ∧ f'.get 0 = bptr jf ∧ f'.get 4 = .int .i64 ((n5 + 257 : Nat) : Int) ∧ f'.get 5 = .int .i64 ((d5 + 1 : Nat) : Int) ∧ RdO base jf jb D P (m : Nat) bv o t (chk x3 (29 < d5)) ∧ JTo jb s t) ?_ ?_
  · intro Q' hQ'
    have j2 := j1.trans j2
    cases x3 with
    | error e =>
      have c0 : ¬ ((badV (.error e) : Nat) : Int) = 0 := fun c => by obtain ⟨q, hq⟩ := h3R.bad.1 (by omega); cases hq
      simp (config := { maxSteps := 1000000, implicitDefEqProofs := false }) (disch := omega) only [allW, allR, Nat.reduceLT, Nat.reduceEqDiff, ↓reduceIte, undef, hn, eq_false c0]
      exact hQ' _ _ ⟨by simp only [n_put, hn], by simp only [get_put, ↓reduceIte, Nat.reduceEqDiff, h0], by simp only [get_put, ↓reduceIte, Nat.reduceEqDiff, h4], by simp only [get_put, ↓reduceIte, Nat.reduceEqDiff], h3R, j2⟩
    | ok q =>
      have c0 : ((badV (.ok q) : Nat) : Int) = 0 := rfl
      by_cases c1 : 29 < d5
      · have d1 : ((d5 + 1 : Nat) : Int) > 30 := by omega
        simp (config := { maxSteps := 1000000, implicitDefEqProofs := false }) (disch := omega) only [allW, allR, evalAll, Nat.reduceLT, Nat.reduceEqDiff, ↓reduceIte, hn, h0, eq_true c0, eq_true d1, wfld0, h3R.w0]
        refine (failX_any hfa base s2 jf jb D P q 4 _ bv o h3R (by decide)).mono ?_
        rintro _ s3 ⟨h4R, j3⟩
        simp (config := { maxSteps := 1000000, implicitDefEqProofs := false }) (disch := omega) only [allW, Nat.reduceLT, ↓reduceIte, hn]
        exact hQ' _ _ ⟨by simp only [n_put, hn], by simp only [get_put, ↓reduceIte, Nat.reduceEqDiff, h0], by simp only [get_put, ↓reduceIte, Nat.reduceEqDiff, h4], by simp only [get_put, ↓reduceIte, Nat.reduceEqDiff], by rw [chk_yes _ c1]; exact h4R, j2.trans j3⟩
      · have d1 : ¬ ((d5 + 1 : Nat) : Int) > 30 := by omega
        simp (config := { maxSteps := 1000000, implicitDefEqProofs := false }) (disch := omega) only [allW, allR, Nat.reduceLT, Nat.reduceEqDiff, ↓reduceIte, hn, eq_true c0, eq_false d1]
        exact hQ' _ _ ⟨by simp only [n_put, hn], by simp only [get_put, ↓reduceIte, Nat.reduceEqDiff, h0], by simp only [get_put, ↓reduceIte, Nat.reduceEqDiff, h4], by simp only [get_put, ↓reduceIte, Nat.reduceEqDiff], by rw [chk_no _ c1]; exact h3R, j2⟩
  clear hn h0 h4 f h2R h3R j1 j2 e1 s1 s2
  rintro f s1 ⟨hn, h0, h4, h5, h4R, j1⟩
  obtain ⟨x4, ex4⟩ : ∃ x, x = chk x3 (29 < d5) := ⟨_, rfl⟩
  rw [← ex4] at h4R
  simp (config := { maxSteps := 1000000, implicitDefEqProofs := false }) (disch := omega) only [allW, allR, evalAll, Nat.reduceLT, ↓reduceIte, hn, h0, wfld0, h4R.w0]
  refine (takeX_any hlt hfa base s1 jf jb D P x4 4 _ bv o h4R (by omega) (by omega)).mono ?_
  rintro _ s2 ⟨rfl, h5R, j2⟩
  have j2 := j1.trans j2
  obtain ⟨k4, ek4⟩ : ∃ n, n = takeV D x4 4 := ⟨_, rfl⟩
  obtain ⟨x5, ex5⟩ : ∃ x, x = takeS D x4 4 := ⟨_, rfl⟩
  have hk4 := takeV_lt D x4 4
  rw [← ek4] at hk4 ⊢
  rw [← ex5] at h5R
  have hhead := head_eq en5 ex1 ex2 ed5 ex3 ex4 ek4 ex5
  have e1 : ((k4 : Nat) : Int) + 4 = ((k4 + 4 : Nat) : Int) := by omega
  simp (config := { maxSteps := 1000000, implicitDefEqProofs := false }) (disch := omega) only [allW, partsA, Nat.reduceLT, ↓reduceIte, hn, wrapI, e1, bOrder]
  refine wstep_newSlice (by rfl) ?_
  intro yo s3 hyo hyoF k3
  have mk19 : ∀ t : ASt, makeSliceA Try.prog t 64 (.int .i64 19) (.int .i64 19) = newSlice t (List.replicate 19 (.int .i64 0)) 19 1 := fun t => makeInts (n := 19) uCodeF szInt zIntF byIntF (by decide) (by decide)
  simp (config := { maxSteps := 1000000, implicitDefEqProofs := false }) (disch := omega) only [allW, Nat.reduceLT, ↓reduceIte, hn, mk19]
  refine wstep_newSlice (by rw [List.length_replicate, Nat.mul_one]) ?_
  intro yc s4 hyc hycF k4'
  have n2 : s2.next = s.next := j2.1
  have n3 := k3.next
  have n4 := k4'.next
  have to4 : FTo jf jb o s o s4 := (j2.fto.kept k3).kept k4'
  have h6R : RdO base jf jb D P (m : Nat) bv o s4 x5 := (h5R.keeps k3 (by omega)).keeps k4' (by omega)
  have hyo4 := hyo.keeps k4'
  have ido : ∀ i, idOf yo = some i → s.next ≤ i := fun i hi => by have := hyoF i hi; omega
  have idc : ∀ i, idOf yc = some i → s.next ≤ i := fun i hi => by have := hycF i hi; omega
  have hdis : ∀ i, idOf yo = some i → idOf yc ≠ some i := fun i hi e => by have := hyo.idlt i hi; have := hycF i e; omega
  have apart : ∀ y, (∀ i, idOf y = some i → s.next ≤ i) → ∀ i, idOf y = some i → base ≤ i ∧ i ≠ jf ∧ i ≠ jb ∧ idOf o ≠ some i := fun y hy i hi => by
    have := hy i hi
    exact ⟨by omega, by omega, by omega, fun e => by have := hol i e; omega⟩
  rw [natsV_rep] at hyc
  obtain ⟨R1, hR1⟩ : ∃ R1, R1 = ownS D (order.take (k4 + 4)) x5 (List.replicate 19 0) := ⟨_, rfl⟩
  have hord : order.length = 19 := rfl
  simp (config := { maxSteps := 1000000, implicitDefEqProofs := false }) (disch := omega) only [allW, Nat.reduceLT, ↓reduceIte, hn]
  refine Comes.loopOut (fun z f t => ∃ (i : Nat) (x : Except Nat Nat) (oL : List Nat), z = k4 + 4 - i ∧ i ≤ k4 + 4 ∧ ownS D ((order.take (k4 + 4)).drop i) x oL = R1 ∧ oL.length = 19 ∧ (∀ j, oL.getD j 0 ≤ 7) ∧ RdO base jf jb D P (m : Nat) bv o t x ∧ Own t 1 yo 19 (natsV order) ∧ Own t 1 yc 19 (natsV oL) ∧ FTo jf jb o s o t ∧ f.n = 264 ∧ f.get 0 = bptr jf ∧ f.get 4 = .int .i64 ((n5 + 257 : Nat) : Int) ∧ f.get 5 = .int .i64 ((d5 + 1 : Nat) : Int) ∧ f.get 6 = .int .i64 ((k4 + 4 : Nat) : Int) ∧ f.get 7 = yo ∧ f.get 8 = yc ∧ f.get 9 = .int .i64 (i : Nat))
    (fun z f t => z = .exit 0 ∧ ∃ (x : Except Nat Nat) (oL : List Nat), R1 = (x, oL) ∧ oL.length = 19 ∧ (∀ j, oL.getD j 0 ≤ 7) ∧ RdO base jf jb D P (m : Nat) bv o t x ∧ Own t 1 yc 19 (natsV oL) ∧ FTo jf jb o s o t ∧ f.n = 264 ∧ f.get 0 = bptr jf ∧ f.get 4 = .int .i64 ((n5 + 257 : Nat) : Int) ∧ f.get 5 = .int .i64 ((d5 + 1 : Nat) : Int) ∧ f.get 8 = yc)
    ⟨0, x5, _, rfl, by omega, by rw [hR1]; rfl, by simp, fun j => by rw [List.getD_eq_getElem?_getD, List.getElem?_replicate]; split <;> simp, h6R, hyo4, hyc, to4, by simp only [n_put, hn], by simp only [get_put, ↓reduceIte, Nat.reduceEqDiff, h0], by simp only [get_put, ↓reduceIte, Nat.reduceEqDiff, h4], by simp only [get_put, ↓reduceIte, Nat.reduceEqDiff, h5], by simp only [get_put, ↓reduceIte, Nat.reduceEqDiff], by simp only [get_put, ↓reduceIte, Nat.reduceEqDiff], by simp only [get_put, ↓reduceIte, Nat.reduceEqDiff], by simp only [get_put, ↓reduceIte]; rfl⟩ ?_ ?_
  · clear hn h0 h4 h5 f h6R hyo4 hyc to4
    rintro Q hQ z f t ⟨i, x, oL, rfl, hi, hown, hoL, ho7, hxR, hyo, hyc, hto, hn, h0, h4, h5, h6, h7, h8, h9⟩
    by_cases hin : i < k4 + 4
    rotate_left
    · obtain rfl : i = k4 + 4 := by omega
      have d1 : ¬ ((k4 + 4 : Nat) : Int) < ((k4 + 4 : Nat) : Int) := by omega
      rw [List.drop_of_length_le (by rw [List.length_take]; omega), ownS] at hown
      simp (config := { maxSteps := 1000000, implicitDefEqProofs := false }) (disch := omega) only [allW, Nat.reduceLT, Nat.reduceEqDiff, ↓reduceIte, hn, h6, h9, eq_false d1]
      exact hQ _ _ _ ⟨rfl, x, oL, hown.symm, hoL, ho7, hxR, hyc, hto, by simp only [n_put, hn], by simp only [get_put, ↓reduceIte, Nat.reduceEqDiff, h0], by simp only [get_put, ↓reduceIte, Nat.reduceEqDiff, h4], by simp only [get_put, ↓reduceIte, Nat.reduceEqDiff, h5], by simp only [get_put, ↓reduceIte, Nat.reduceEqDiff, h8]⟩
    have d1 : (i : Int) < ((k4 + 4 : Nat) : Int) := by omega
    have hi19 : i < 19 := by omega
    have hb' : base ≤ t.next := by have := hto.next; omega
    have htk : (order.take (k4 + 4)).drop i = order.getD i 0 :: (order.take (k4 + 4)).drop (i + 1) := by
      rw [List.drop_eq_getElem_cons (by rw [List.length_take]; omega)]
      congr 1
      rw [List.getElem_take, List.getD_eq_getElem?_getD, List.getElem?_eq_getElem (by omega)]; rfl
    rw [htk, ownS] at hown
    have hol18 : order.getD i 0 < 19 := by
      have key : ∀ i, i < 19 → order.getD i 0 < 19 := by decide
      exact key i hi19
    simp (config := { maxSteps := 1000000, implicitDefEqProofs := false }) (disch := omega) only [allW, Nat.reduceLT, Nat.reduceEqDiff, ↓reduceIte, hn, h6, h9, eq_true d1]
    obtain ⟨A, hA⟩ : ∃ A : Nat → Bool, A = fun j => decide (j < t.next ∧ j ≠ jb) := ⟨_, rfl⟩
    have hAl : ∀ j, A j = true → j < t.next := by
      intro j h
      rw [hA] at h
      exact (of_decide_eq_true h).1
    have hAo : ∀ j, j < t.next → j ≠ jb → A j = true := fun j h1 h2 => by rw [hA]; exact decide_eq_true ⟨h1, h2⟩
    have hAb : A jb = false := by rw [hA]; exact decide_eq_false (fun h => h.2 rfl)
    have hsq := Stay.spare t 0
    have hnq : (spare t 0).next = t.next + 0 := spare_next _ _
    have hxq := hxR.keeps hsq hb'
    have hyq := hyo.keeps hsq
    have hyo1 : ∀ j, idOf yo = some j → A j = true := fun j hj => hAo j (hyo.idlt j hj) (by have := ido j hj; omega)
    have hlw : ∀ k, LA.lowV A (some (.pointer (some ⟨jf, k, some 4⟩))) = true := fun k => LA.lowV_ptr (A := A) (i := jf) (hAo _ (by have := hto.next; omega) h.ne.symm)
    have lE := lowV_elemIn hyo.sees hyo1 hi19
    have hi1 := hyq.sees.indexAddr (P := Try.prog) (k := .i64) (x := (i : Int)) uIntsF szInt (by omega) (by omega)
    have k1 := hyq.sees.load1 (P := Try.prog) agIntF hi19
    rw [natsV_getD hi19] at k1
    rw [Int.toNat_natCast] at hi1
    have hi2 := hyc.sees.indexAddr (P := Try.prog) (k := .i64) (x := ((order.getD i 0 : Nat) : Int)) uCodeF szInt (by omega) (by omega)
    rw [Int.toNat_natCast] at hi2
    refine LB.Drawn.looseK A hAl 1 0 (by kernel_rfl) (by kernel_rfl) ?_
    simp (config := { maxSteps := 1000000, implicitDefEqProofs := false }) (disch := omega) only [allW, allR, allL, allB, Nat.sub_self, evalAll, Nat.reduceLT, Nat.reduceEqDiff, ↓reduceIte, hn, h0, h7, h8, h9, wfld0, hxq.w0, hlw, lE, hyo.self, hyc.self, hi1, k1, hi2]
    refine (takeX_any hlt hfa base (spare t 0) jf jb D P x 3 _ bv o hxq (by omega) (by omega)).mono ?_
    rintro _ t2 ⟨rfl, hx2, j2⟩
    refine ⟨fun _ => ⟨by rw [j2.1]; exact Nat.le_refl _, fun q hq => j2.2 q (fun e => by rw [e, hAb] at hq; cases hq)⟩, ?_⟩
    have hyc2 : Own t2 1 yc 19 (natsV oL) := jtoOwn (hyc.keeps hsq) j2 (fun e => by have := idc _ e; omega)
    have hyo2 : Own t2 1 yo 19 (natsV order) := jtoOwn (hyo.keeps hsq) j2 (fun e => by have := ido _ e; omega)
    try simp (config := { maxSteps := 1000000, implicitDefEqProofs := false }) (disch := omega) only [allW, allR, allL, allB, Nat.sub_self, Nat.add_one_sub_one, Nat.reduceSub, oneOf, evalAll, partsA, optA, Nat.reduceLT, Nat.reduceLeDiff, Nat.reduceEqDiff, Nat.reduceAdd, ↓reduceIte, hn, h0, h4, h5, h6, h7, h8, h9, hi2, hyc.self, valEq_int, valEq_elemPtr]
    refine LB.sstep_storeElemN szInt hyc2 hol18 rfl (fun h => absurd rfl h) (fun q hq => by have := hAl q hq; have := j2.1; omega) ?_
    intro t3 hyc3 hto3
    rw [natsV_set] at hyc3
    have hyo3 : Own t3 1 yo 19 (natsV order) := hyo2.turns hto3 hdis
    have hx3 := hx2.turns hto3 (apart yc idc) (by rw [j2.1]; omega)
    simp (config := { maxSteps := 1000000, implicitDefEqProofs := false }) (disch := omega) only [allW, allB, Nat.reduceSub, Nat.reduceLT, Nat.reduceEqDiff, ↓reduceIte, allW, Nat.reduceLT, Nat.reduceEqDiff, ↓reduceIte, hn, h9, wrapI]
    have hv7 := takeV_lt D x 3
    exact wround_next (k4 + 4 - (i + 1)) (by omega) ⟨i + 1, takeS D x 3, oL.set (order.getD i 0) (takeV D x 3), rfl, by omega, hown, by simpa using hoL, fun j => by
      rw [List.getD_eq_getElem?_getD, List.getElem?_set]
      split
      · split
        · show takeV D x 3 ≤ 7; omega
        · exact Nat.zero_le _
      · rw [← List.getD_eq_getElem?_getD]; exact ho7 j, hx3, hyo3, hyc3, ((hto.kept hsq).trans j2.fto).turned hto3 idc, by simp only [n_put, hn], by simp only [get_put, ↓reduceIte, Nat.reduceEqDiff, h0], by simp only [get_put, ↓reduceIte, Nat.reduceEqDiff, h4], by simp only [get_put, ↓reduceIte, Nat.reduceEqDiff, h5], by simp only [get_put, ↓reduceIte, Nat.reduceEqDiff, h6], by simp only [get_put, ↓reduceIte, Nat.reduceEqDiff, h7], by simp only [get_put, ↓reduceIte, Nat.reduceEqDiff, h8], by simp only [get_put, ↓reduceIte]; rfl⟩
  clear hn h0 h4 h5 f h6R hyo4 hyc to4
  rintro z f t ⟨rfl, x6, oL, hRx, hoL, ho7, h6R, hyc, hto, hn, h0, h4, h5, h8⟩
  have hlo : Le15 oL := fun j => Nat.le_trans (ho7 j) (by omega)
  have hb' : base ≤ t.next := by have := hto.next; omega
  have hsee : Sees t 1 yc oL.length (natsV oL) := by rw [hoL]; exact hyc.sees
  simp (config := { maxSteps := 1000000, implicitDefEqProofs := false }) (disch := omega) only [allW, allR, Nat.reduceLT, ↓reduceIte, hn, h0, wfld0, tfld2, h6R.w0, h6R.l2]
  refine wwant_cut (fun f' t' => f'.n = 264 ∧ f'.get 0 = bptr jf ∧ f'.get 4 = .int .i64 ((n5 + 257 : Nat) : Int) ∧ f'.get 5 = .int .i64 ((d5 + 1 : Nat) : Int) ∧ f'.get 8 = yc ∧ RdO base jf jb D P (m : Nat) bv o t' (chk x6 (¬ mayC oL)) ∧ JTo jb t t') ?_ ?_
  · intro Q' hQ'
    cases x6 with
    | error e =>
      have c0 : ¬ ((badV (.error e) : Nat) : Int) = 0 := fun c => by obtain ⟨q, hq⟩ := h6R.bad.1 (by omega); cases hq
      simp (config := { maxSteps := 1000000, implicitDefEqProofs := false }) (disch := omega) only [allW, allR, Nat.reduceLT, Nat.reduceEqDiff, ↓reduceIte, undef, hn, eq_false c0]
      exact hQ' _ _ ⟨by simp only [n_put, hn], by simp only [get_put, ↓reduceIte, Nat.reduceEqDiff, h0], by simp only [get_put, ↓reduceIte, Nat.reduceEqDiff, h4], by simp only [get_put, ↓reduceIte, Nat.reduceEqDiff, h5], by simp only [get_put, ↓reduceIte, Nat.reduceEqDiff, h8], h6R, JTo.refl _ _⟩
    | ok q =>
      have c0 : ((badV (.ok q) : Nat) : Int) = 0 := rfl
      simp (config := { maxSteps := 1000000, implicitDefEqProofs := false }) (disch := omega) only [allW, allR, evalAll, Nat.reduceLT, Nat.reduceEqDiff, ↓reduceIte, hn, h8, eq_true c0]
      refine (may_any hmy t yc oL hsee (by omega) hlo).mono ?_
      rintro _ t2 ⟨rfl, ht2⟩
      subst ht2
      by_cases c1 : mayC oL
      · simp (config := { maxSteps := 1000000, implicitDefEqProofs := false }) (disch := omega) only [allW, allR, Nat.reduceLT, Nat.reduceEqDiff, ↓reduceIte, hn, eq_true c1]
        exact hQ' _ _ ⟨by simp only [n_put, hn], by simp only [get_put, ↓reduceIte, Nat.reduceEqDiff, h0], by simp only [get_put, ↓reduceIte, Nat.reduceEqDiff, h4], by simp only [get_put, ↓reduceIte, Nat.reduceEqDiff, h5], by simp only [get_put, ↓reduceIte, Nat.reduceEqDiff, h8], by rw [chk_no _ (fun h => h c1)]; exact h6R, JTo.refl _ _⟩
      · simp (config := { maxSteps := 1000000, implicitDefEqProofs := false }) (disch := omega) only [allW, allR, evalAll, Nat.reduceLT, Nat.reduceEqDiff, ↓reduceIte, hn, h0, eq_false c1, wfld0, h6R.w0]
        refine (failX_any hfa base _ jf jb D P q 4 _ bv o h6R (by decide)).mono ?_
        rintro _ s3 ⟨h7R, j3⟩
        simp (config := { maxSteps := 1000000, implicitDefEqProofs := false }) (disch := omega) only [allW, Nat.reduceLT, ↓reduceIte, hn]
        exact hQ' _ _ ⟨by simp only [n_put, hn], by simp only [get_put, ↓reduceIte, Nat.reduceEqDiff, h0], by simp only [get_put, ↓reduceIte, Nat.reduceEqDiff, h4], by simp only [get_put, ↓reduceIte, Nat.reduceEqDiff, h5], by simp only [get_put, ↓reduceIte, Nat.reduceEqDiff, h8], by rw [chk_yes _ c1]; exact h7R, j3⟩
  clear hn h0 h4 h5 h8 f
  rintro f t1 ⟨hn, h0, h4, h5, h8, h7R, j7⟩
  have hyc1 : Own t1 1 yc 19 (natsV oL) := jtoOwn hyc j7 (fun e => by have := idc _ e; omega)
  have hto1 := hto.trans j7.fto
  have hsee1 : Sees t1 1 yc oL.length (natsV oL) := by rw [hoL]; exact hyc1.sees
  obtain ⟨x7, ex7⟩ : ∃ x, x = chk x6 (¬ mayC oL) := ⟨_, rfl⟩
  rw [← ex7] at h7R
  clear h6R hyc hsee hto j7
  simp (config := { maxSteps := 1000000, implicitDefEqProofs := false }) (disch := omega) only [allW, allR, evalAll, Nat.reduceLT, ↓reduceIte, hn, h8]
  refine (codes_any hco t1 yc oL hsee1 (by omega)).mono ?_
  rintro tc t2 ⟨htc, -, htcF, k2⟩
  have n2 := k2.next
  have b1 : base ≤ t1.next := by have := hto1.next; omega
  have h7R := h7R.keeps k2 b1
  have hyc2 := hyc1.keeps k2
  have hto2 := hto1.kept k2
  have idtc : ∀ i, idOf tc = some i → s.next ≤ i := fun i hi => by have := htcF i hi; have := hto1.next; omega
  have b2 : s.next ≤ t2.next := hto2.next
  obtain ⟨M, hM⟩ : ∃ M, M = n5 + 257 + (d5 + 1) := ⟨_, rfl⟩
  have p5 : (2 : Nat) ^ 5 = 32 := by decide
  have eM : ((n5 + 257 : Nat) : Int) + ((d5 + 1 : Nat) : Int) = ((M : Nat) : Int) := by omega
  obtain ⟨R2, hR2⟩ : ∃ R2, R2 = bindX x7 fun q => lensX D oL M N q [] := ⟨_, rfl⟩
  have hdyn := dyn_eq (N := N) (R2 := R2) hhead (by rw [← hR1]; exact hRx) ex7 (by rw [hR2, hM])
  rw [hdyn]
  clear hdyn hsee1 hyc1 hto1 hhead hR1 hRx
  simp (config := { maxSteps := 1000000, implicitDefEqProofs := false }) (disch := omega) only [allW, allR, Nat.reduceLT, ↓reduceIte, hn]
  refine Comes.loopOut (fun z f t => ∃ (l : List Nat) (yl : Value), Own t 1 yl l.length (natsV l) ∧ Fresh t2.next yl ∧ l.length ≤ M ∧ Le15 l ∧ Own t 1 yc 19 (natsV oL) ∧ Own t 1 tc oL.length (natsV (codesC oL)) ∧ FTo jf jb o s o t ∧ t2.next ≤ t.next ∧ f.n = 264 ∧ f.get 0 = bptr jf ∧ f.get 4 = .int .i64 ((n5 + 257 : Nat) : Int) ∧ f.get 5 = .int .i64 ((d5 + 1 : Nat) : Int) ∧ f.get 8 = yc ∧ f.get 10 = tc ∧ f.get 11 = yl ∧ ((∃ q, RdO base jf jb D P (m : Nat) bv o t (.ok q) ∧ lensX D oL M z q l = R2 ∧ 8 * D.length + 1 < z + q) ∨ (z = 0 ∧ ∃ e, RdO base jf jb D P (m : Nat) bv o t (.error e) ∧ R2 = .error e)))
    (fun z f t => z = .exit 2 ∧ ∃ (l : List Nat) (yl : Value), Own t 1 yl l.length (natsV l) ∧ Fresh t2.next yl ∧ Le15 l ∧ FTo jf jb o s o t ∧ t2.next ≤ t.next ∧ f.n = 264 ∧ f.get 0 = bptr jf ∧ f.get 4 = .int .i64 ((n5 + 257 : Nat) : Int) ∧ f.get 5 = .int .i64 ((d5 + 1 : Nat) : Int) ∧ f.get 11 = yl ∧ ((∃ q, RdO base jf jb D P (m : Nat) bv o t (.ok q) ∧ R2 = .ok (l, q) ∧ l.length = M) ∨ (∃ e, RdO base jf jb D P (m : Nat) bv o t (.error e) ∧ R2 = .error e)))
    (k := match x7 with | .ok _ => N | .error _ => 0) ⟨[], _, .nil, Fresh.nil _, by simp, fun i => by simp, hyc2, htc, hto2, Nat.le_refl _, by simp only [n_put, hn], by simp only [get_put, ↓reduceIte, Nat.reduceEqDiff, h0], by simp only [get_put, ↓reduceIte, Nat.reduceEqDiff, h4], by simp only [get_put, ↓reduceIte, Nat.reduceEqDiff, h5], by simp only [get_put, ↓reduceIte, Nat.reduceEqDiff, h8], by simp only [get_put, ↓reduceIte, Nat.reduceEqDiff], by simp only [get_put, ↓reduceIte], by
      cases x7 with
      | ok q => exact .inl ⟨q, h7R, hR2.symm, Nat.lt_of_lt_of_le hN (Nat.le_add_right _ _)⟩
      | error e => exact .inr ⟨rfl, e, h7R, hR2⟩⟩ ?_ ?_
  rotate_left
  · clear hn h0 h4 h5 h8 f
    rintro z f t ⟨rfl, l, yl, hyl, hylF, hl15, hto, hnt, hn, h0, h4, h5, h11, (⟨q, hxR, hR2, hlM⟩ | ⟨e, hxR, hR2⟩)⟩
    rotate_left
    · have c0 : ¬ ((badV (.error e) : Nat) : Int) = 0 := fun c => by obtain ⟨q, hq⟩ := hxR.bad.1 (by omega); cases hq
      simp (config := { maxSteps := 1000000, implicitDefEqProofs := false }) (disch := omega) only [allW, allR, wfn_ret, oneOf, Nat.reduceLT, Nat.reduceEqDiff, ↓reduceIte, hn, h0, wfld0, tfld2, hxR.w0, hxR.l2, eq_false c0, Try.results36]
      rw [hR2]
      exact ⟨⟨_, _, rfl⟩, hxR, hto⟩
    have c0 : ((badV (.ok q) : Nat) : Int) = 0 := rfl
    obtain ⟨R3, hR3⟩ : ∃ R3 : Except Nat ((List Nat × List Nat) × Nat), R3 = if mayC (l.take (n5 + 257)) ∧ mayC (l.drop (n5 + 257)) ∧ l.getD 256 0 ≠ 0 then .ok ((l.take (n5 + 257), l.drop (n5 + 257)), q) else .error 4 := ⟨_, rfl⟩
    rw [hR2, bindX_ok]
    dsimp only
    rw [← hR3]
    have q1 := hyl.sees.sliceHigh (P := Try.prog) (k := .i64) (y := ((n5 + 257 : Nat) : Int)) uCodeF szInt (by omega) (by omega)
    have q2 := hyl.sees.sliceLow (P := Try.prog) (k := .i64) (x := ((n5 + 257 : Nat) : Int)) uCodeF szInt (by omega) (by omega)
    rw [Int.toNat_natCast] at q1 q2
    have sa := hyl.sees.cut (lo := 0) (hi := n5 + 257) (by omega) (by omega)
    have sb := hyl.sees.cut (lo := n5 + 257) (hi := l.length) (by omega) (Nat.le_refl _)
    rw [Nat.mul_one, Nat.mul_one, natsV_drop, natsV_take, List.drop_zero, Nat.sub_zero] at sa
    rw [Nat.mul_one, Nat.mul_one, natsV_drop, natsV_take, List.take_of_length_le (by rw [List.length_drop]; omega)] at sb
    have la : (l.take (n5 + 257)).length = n5 + 257 := by rw [List.length_take]; omega
    have lb : (l.drop (n5 + 257)).length = l.length - (n5 + 257) := by rw [List.length_drop]
    rw [← la] at sa
    rw [← lb] at sb
    rw [la] at sa
    have sa' : Sees t 1 (cutS 1 yl 0 (n5 + 257)) (l.take (n5 + 257)).length (natsV (l.take (n5 + 257))) := by rw [la]; exact sa
    have ids : ∀ lo hi i, idOf (cutS 1 yl lo hi) = some i → idOf yl = some i := fun lo hi i h => idOf_cutS h
    have tabs : ∀ lo hi i, idOf (cutS 1 yl lo hi) = some i → i < t.next ∧ i ≠ jf ∧ i ≠ jb ∧ idOf o ≠ some i := fun lo hi i h => by
      have h1 := ids lo hi i h
      have h2 := hyl.idlt i h1
      have h3 := hylF i h1
      exact ⟨h2, by omega, by omega, fun e => by have := hol i e; omega⟩
    have selfs : ∀ lo hi, valEq (cutS 1 yl lo hi) (cutS 1 yl lo hi) = true := fun lo hi => by simp [valEq_cutS]
    have ta : Tab jf jb o t (cutS 1 yl 0 (n5 + 257)) (l.take (n5 + 257)) := ⟨sa', tabs _ _⟩
    have tb : Tab jf jb o t (cutS 1 yl (n5 + 257) l.length) (l.drop (n5 + 257)) := ⟨sb, tabs _ _⟩
    have h256 : 256 < (l.take (n5 + 257)).length := by omega
    have e256 : (l.take (n5 + 257)).getD 256 0 = l.getD 256 0 := by rw [List.getD_eq_getElem?_getD, List.getElem?_take_of_lt (by omega), List.getD_eq_getElem?_getD]
    have ia := sa'.indexAddr (P := Try.prog) (k := .i64) (x := (256 : Int)) uCodeF szInt (by omega) (by omega)
    rw [show (256 : Int).toNat = 256 from rfl] at ia
    have ka := sa'.load1 (P := Try.prog) agIntF h256
    rw [natsV_getD h256, e256] at ka
    have outBad : ∀ (t' : ASt), RdO base jf jb D P (m : Nat) bv o t' (.error 4) → JTo jb t t' → (¬ (mayC (l.take (n5 + 257)) ∧ mayC (l.drop (n5 + 257)) ∧ l.getD 256 0 ≠ 0)) → DynR base jf jb D P (m : Nat) bv o s (.tuple #[cutS 1 yl 0 (n5 + 257), cutS 1 yl (n5 + 257) l.length]) t' R3 := fun t' h1 h2 h3 => by
      rw [hR3, if_neg h3]
      exact ⟨⟨_, _, rfl⟩, h1, hto.trans h2.fto⟩
    simp (config := { maxSteps := 1000000, implicitDefEqProofs := false }) (disch := omega) only [allW, allR, evalAll, optA, Nat.reduceLT, Nat.reduceEqDiff, ↓reduceIte, hn, h0, h4, h11, wfld0, tfld2, hxR.w0, hxR.l2, c0, q1, q2, hyl.self, selfs]
    refine (may_any hmy t _ (l.take (n5 + 257)) sa' (by omega) (le15_take hl15 _)).mono ?_
    rintro _ t3 ⟨rfl, ht3⟩
    subst ht3
    by_cases ca : mayC (l.take (n5 + 257))
    rotate_left
    · simp (config := { maxSteps := 1000000, implicitDefEqProofs := false }) (disch := omega) only [allW, allR, evalAll, Nat.reduceLT, Nat.reduceEqDiff, ↓reduceIte, undef, hn, h0, eq_false ca, wfld0, hxR.w0]
      refine (failX_any hfa base _ jf jb D P q 4 _ bv o hxR (by decide)).mono ?_
      rintro _ t4 ⟨h4R, j4⟩
      simp (config := { maxSteps := 1000000, implicitDefEqProofs := false }) (disch := omega) only [allW, wfn_ret, oneOf, Nat.reduceLT, Nat.reduceEqDiff, ↓reduceIte, hn, Try.results36]
      exact outBad t4 h4R j4 (fun h => ca h.1)
    simp (config := { maxSteps := 1000000, implicitDefEqProofs := false }) (disch := omega) only [allW, allR, evalAll, Nat.reduceLT, Nat.reduceEqDiff, ↓reduceIte, hn, eq_true ca]
    refine (may_any hmy t3 _ (l.drop (n5 + 257)) sb (by omega) (le15_drop hl15 _)).mono ?_
    rintro _ t3 ⟨rfl, ht3⟩
    subst ht3
    by_cases cb : mayC (l.drop (n5 + 257))
    rotate_left
    · simp (config := { maxSteps := 1000000, implicitDefEqProofs := false }) (disch := omega) only [allW, allR, evalAll, Nat.reduceLT, Nat.reduceEqDiff, ↓reduceIte, undef, hn, h0, eq_false cb, wfld0, hxR.w0]
      refine (failX_any hfa base _ jf jb D P q 4 _ bv o hxR (by decide)).mono ?_
      rintro _ t4 ⟨h4R, j4⟩
      simp (config := { maxSteps := 1000000, implicitDefEqProofs := false }) (disch := omega) only [allW, wfn_ret, oneOf, Nat.reduceLT, Nat.reduceEqDiff, ↓reduceIte, hn, Try.results36]
      exact outBad t4 h4R j4 (fun h => cb h.2.1)
    by_cases cz : l.getD 256 0 = 0
    · have d1 : ((l.getD 256 0 : Nat) : Int) = 0 := by omega
      simp (config := { maxSteps := 1000000, implicitDefEqProofs := false }) (disch := omega) only [allW, allR, evalAll, Nat.reduceLT, Nat.reduceEqDiff, ↓reduceIte, hn, h0, eq_true cb, ia, ka, eq_true d1, wfld0, hxR.w0]
      refine (failX_any hfa base _ jf jb D P q 4 _ bv o hxR (by decide)).mono ?_
      rintro _ t4 ⟨h4R, j4⟩
      simp (config := { maxSteps := 1000000, implicitDefEqProofs := false }) (disch := omega) only [allW, wfn_ret, oneOf, Nat.reduceLT, Nat.reduceEqDiff, ↓reduceIte, hn, Try.results36]
      exact outBad t4 h4R j4 (fun h => h.2.2 cz)
    · have d1 : ¬ ((l.getD 256 0 : Nat) : Int) = 0 := by omega
      simp (config := { maxSteps := 1000000, implicitDefEqProofs := false }) (disch := omega) only [allW, allR, wfn_ret, oneOf, Nat.reduceLT, Nat.reduceEqDiff, ↓reduceIte, hn, eq_true cb, ia, ka, eq_false d1, Try.results36]
      rw [hR3, if_pos ⟨ca, cb, cz⟩]
      exact ⟨_, _, rfl, hxR.1, hxR.2, hto, ta, tb, by omega, by omega⟩
  clear hn h0 h4 h5 h8 f
  rintro Q hQ z f t ⟨l, yl, hyl, hylF, hlM, hl15, hyc, htc, hto, hnt, hn, h0, h4, h5, h8, h10, h11, (⟨q, hxR, hz, hzq⟩ | ⟨rfl, e, hxR, he⟩)⟩
  rotate_left
  · have c0 : ¬ ((badV (.error e) : Nat) : Int) = 0 := fun c => by obtain ⟨q, hq⟩ := hxR.bad.1 (by omega); cases hq
    by_cases c1 : ((l.length : Nat) : Int) < ((M : Nat) : Int)
    · simp (config := { maxSteps := 1000000, implicitDefEqProofs := false }) (disch := omega) only [allW, allR, evalAll, Nat.reduceLT, Nat.reduceEqDiff, ↓reduceIte, hn, h0, h4, h5, h11, hyl.sees.lenA uCodeF, wrapI, eM, eq_true c1, wfld0, tfld2, hxR.w0, hxR.l2, eq_false c0]
      exact hQ _ _ _ ⟨rfl, l, yl, hyl, hylF, hl15, hto, hnt, by simp only [n_put, hn], by simp only [get_put, ↓reduceIte, Nat.reduceEqDiff, h0], by simp only [get_put, ↓reduceIte, Nat.reduceEqDiff, h4], by simp only [get_put, ↓reduceIte, Nat.reduceEqDiff, h5], by simp only [get_put, ↓reduceIte, Nat.reduceEqDiff, h11], .inr ⟨e, hxR, he⟩⟩
    · simp (config := { maxSteps := 1000000, implicitDefEqProofs := false }) (disch := omega) only [allW, allR, evalAll, Nat.reduceLT, Nat.reduceEqDiff, ↓reduceIte, undef, hn, h4, h5, h11, hyl.sees.lenA uCodeF, wrapI, eM, eq_false c1]
      exact hQ _ _ _ ⟨rfl, l, yl, hyl, hylF, hl15, hto, hnt, by simp only [n_put, hn], by simp only [get_put, ↓reduceIte, Nat.reduceEqDiff, h0], by simp only [get_put, ↓reduceIte, Nat.reduceEqDiff, h4], by simp only [get_put, ↓reduceIte, Nat.reduceEqDiff, h5], by simp only [get_put, ↓reduceIte, Nat.reduceEqDiff, h11], .inr ⟨e, hxR, he⟩⟩
  have hqD : q ≤ 8 * D.length := hxR.2
  obtain ⟨k, rfl⟩ : ∃ k, z = k + 1 := ⟨z - 1, by omega⟩
  have c0 : ((badV (.ok q) : Nat) : Int) = 0 := rfl
  by_cases clM : M ≤ l.length
  · have c1 : ¬ ((l.length : Nat) : Int) < ((M : Nat) : Int) := by omega
    rw [lensX, if_pos clM] at hz
    simp (config := { maxSteps := 1000000, implicitDefEqProofs := false }) (disch := omega) only [allW, allR, evalAll, Nat.reduceLT, Nat.reduceEqDiff, ↓reduceIte, undef, hn, h4, h5, h11, hyl.sees.lenA uCodeF, wrapI, eM, eq_false c1]
    exact hQ _ _ _ ⟨rfl, l, yl, hyl, hylF, hl15, hto, hnt, by simp only [n_put, hn], by simp only [get_put, ↓reduceIte, Nat.reduceEqDiff, h0], by simp only [get_put, ↓reduceIte, Nat.reduceEqDiff, h4], by simp only [get_put, ↓reduceIte, Nat.reduceEqDiff, h5], by simp only [get_put, ↓reduceIte, Nat.reduceEqDiff, h11], .inl ⟨q, hxR, hz.symm, by omega⟩⟩
  have c1 : ((l.length : Nat) : Int) < ((M : Nat) : Int) := by omega
  have bt : base ≤ t.next := by omega
  have tabs : ∀ (y : Value) (L : List Nat), Own t 1 y L.length (natsV L) → (∀ i, idOf y = some i → s.next ≤ i) → Tab jf jb o t y L := fun y L h1 h2 => ⟨h1.sees, fun i hi => ⟨h1.idlt i hi, (apart y h2 i hi).2⟩⟩
  have idl : ∀ i, idOf yl = some i → s.next ≤ i := fun i hi => by have := hylF i hi; omega
  simp (config := { maxSteps := 1000000, implicitDefEqProofs := false }) (disch := omega) only [allW, allR, evalAll, Nat.reduceLT, Nat.reduceEqDiff, ↓reduceIte, hn, h0, h4, h5, h8, h10, h11, hyl.sees.lenA uCodeF, wrapI, eM, eq_true c1, wfld0, tfld2, hxR.w0, hxR.l2, c0]
  have tyc := tabs yc oL (by rw [hoL]; exact hyc) idc
  have ttc : Tab jf jb o t tc (codesC oL) := tabs tc (codesC oL) (by rw [codesC_len]; exact htc) idtc
  refine (symN_any hsy hlt hfa base t jf jb D P q _ bv o hxR.1 hqD (by omega) yc tc oL (codesC oL) tyc ttc (codesC_ok oL) (by omega)).mono ?_
  intro v t3 hS
  obtain ⟨rfl, hx1, to3⟩ := symR_rd hS
  clear hS
  have toA : ∀ (y : Value) (L : List Nat) (n : Nat), Own t 1 y n (natsV L) → (∀ i, idOf y = some i → s.next ≤ i) → Own t3 1 y n (natsV L) := fun y L n h1 h2 => (ApartF.own (fun i hi => (apart y h2 i hi).2) h1 to3).1
  have hyl3 := toA yl l _ hyl idl
  have hyc3 := toA yc oL _ hyc idc
  have htc3 := toA tc (codesC oL) _ htc idtc
  have hto3 := hto.trans to3
  have n3' := to3.next
  have hs18 : (symX (sym D oL q)).1 ≤ 18 ∧ ∀ r, (symX (sym D oL q)).2 = .ok r → q < r := by
    cases hs : sym D oL q with
    | error e => exact ⟨by simp [symX], fun r h => by cases h⟩
    | ok y =>
      have := sym_le hs
      exact ⟨by simp only [symX]; omega, fun r h => by simp only [symX] at h; injection h with h; omega⟩
  obtain ⟨a, ea⟩ : ∃ a, a = againS D (symX (sym D oL q)).1 (symX (sym D oL q)).2 l := ⟨_, rfl⟩
  obtain ⟨x8, ex8⟩ : ∃ x, x = chk a.2.2 (M < l.length + a.2.1) := ⟨_, rfl⟩
  have hstep := lens_step (k := k) clM ea ex8
  rw [hz] at hstep
  have hfine := againS_fine (D := D) (x := (symX (sym D oL q)).2) hs18.1 hl15
  rw [← ea] at hfine
  have hgrow : ∀ r, x8 = .ok r → q < r ∧ l.length + a.2.1 ≤ M ∧ a.1 ≤ 15 := fun r h => by
    rw [ex8] at h
    obtain ⟨h1, h2⟩ := chk_le h
    have h3 := hfine.2.1 r h1
    rw [ea] at h1
    cases hx : (symX (sym D oL q)).2 with
    | error e => rw [hx] at h1; simp [againS] at h1
    | ok q1 =>
      rw [hx] at h1
      have := againS_le h1
      have := hs18.2 q1 hx
      exact ⟨by omega, by omega, h3⟩
  generalize hsv : (symX (sym D oL q)).1 = sv at *
  generalize hxv : (symX (sym D oL q)).2 = x1 at *
  have hn200 : a.2.1 ≤ 200 := hfine.1
  clear hfine hsv hxv hs18 hxR hyl hyc htc hto to3 tyc ttc tabs toA hz
  simp (config := { maxSteps := 1000000, implicitDefEqProofs := false }) (disch := omega) only [allW, allR, Nat.reduceLT, Nat.reduceEqDiff, ↓reduceIte, hn, h0, wfld0, tfld2, hx1.w0, hx1.l2]
  refine wif_cutN (fun f' t' => f'.n = 264 ∧ f'.get 0 = bptr jf ∧ f'.get 4 = .int .i64 ((n5 + 257 : Nat) : Int) ∧ f'.get 5 = .int .i64 ((d5 + 1 : Nat) : Int) ∧ f'.get 8 = yc ∧ f'.get 10 = tc ∧ f'.get 11 = yl ∧ f'.get 13 = .int .i64 (a.1 : Nat) ∧ f'.get 14 = .int .i64 (a.2.1 : Nat) ∧ RdO base jf jb D P (m : Nat) bv o t' a.2.2 ∧ JTo jb t3 t') ?_ ?_
  · intro Q' hQ'
    cases x1 with
    | error e =>
      have c0 : ¬ ((badV (.error e) : Nat) : Int) = 0 := fun c => by obtain ⟨q, hq⟩ := hx1.bad.1 (by omega); cases hq
      have ea : a = (sv, 1, .error e) := ea
      simp (config := { maxSteps := 1000000, implicitDefEqProofs := false }) (disch := omega) only [allW, allR, eq_false c0]
      rw [ea] at hQ'
      exact hQ' _ _ ⟨by simp only [n_put, hn], by simp only [get_put, ↓reduceIte, Nat.reduceEqDiff, h0], by simp only [get_put, ↓reduceIte, Nat.reduceEqDiff, h4], by simp only [get_put, ↓reduceIte, Nat.reduceEqDiff, h5], by simp only [get_put, ↓reduceIte, Nat.reduceEqDiff, h8], by simp only [get_put, ↓reduceIte, Nat.reduceEqDiff, h10], by simp only [get_put, ↓reduceIte, Nat.reduceEqDiff, h11], by simp only [get_put, ↓reduceIte, Nat.reduceEqDiff], by simp only [get_put, ↓reduceIte, Nat.reduceEqDiff]; rfl, hx1, JTo.refl _ _⟩
    | ok q1 =>
    have c0 : ((badV (.ok q1) : Nat) : Int) = 0 := rfl
    unfold againS at ea
    dsimp only at ea
    by_cases c16 : sv = 16
    · have d16 : ((sv : Nat) : Int) = 16 := by omega
      rw [if_pos c16] at ea
      by_cases cl0 : l.length = 0
      · have d0 : ((l.length : Nat) : Int) = 0 := by omega
        rw [if_pos cl0] at ea
        simp (config := { maxSteps := 1000000, implicitDefEqProofs := false }) (disch := omega) only [allW, allR, evalAll, Nat.reduceLT, Nat.reduceEqDiff, ↓reduceIte, hn, h0, h11, c0, eq_true d16, hyl3.sees.lenA uCodeF, eq_true d0, wfld0, hx1.w0]
        refine (failX_any hfa base _ jf jb D P q1 4 _ bv o hx1 (by decide)).mono ?_
        rintro _ t4 ⟨h4R, j4⟩
        simp (config := { maxSteps := 1000000, implicitDefEqProofs := false }) (disch := omega) only [allW, Nat.reduceLT, ↓reduceIte, hn]
        rw [ea] at hQ'
        exact hQ' _ _ ⟨by simp only [n_put, hn], by simp only [get_put, ↓reduceIte, Nat.reduceEqDiff, h0], by simp only [get_put, ↓reduceIte, Nat.reduceEqDiff, h4], by simp only [get_put, ↓reduceIte, Nat.reduceEqDiff, h5], by simp only [get_put, ↓reduceIte, Nat.reduceEqDiff, h8], by simp only [get_put, ↓reduceIte, Nat.reduceEqDiff, h10], by simp only [get_put, ↓reduceIte, Nat.reduceEqDiff, h11], by simp only [get_put, ↓reduceIte, Nat.reduceEqDiff], by simp only [get_put, ↓reduceIte, Nat.reduceEqDiff]; rfl, h4R, j4⟩
      have d0 : ¬ ((l.length : Nat) : Int) = 0 := by omega
      rw [if_neg cl0] at ea
      obtain ⟨A, hA⟩ : ∃ A : Nat → Bool, A = fun j => decide (j < t3.next ∧ j ≠ jb) := ⟨_, rfl⟩
      have hAl : ∀ j, A j = true → j < t3.next := by
        intro j h
        rw [hA] at h
        exact (of_decide_eq_true h).1
      have hAo : ∀ j, j < t3.next → j ≠ jb → A j = true := fun j h1 h2 => by rw [hA]; exact decide_eq_true ⟨h1, h2⟩
      have hAb : A jb = false := by rw [hA]; exact decide_eq_false (fun h => h.2 rfl)
      have hsq := Stay.spare t3 0
      have hnq : (spare t3 0).next = t3.next + 0 := spare_next _ _
      have hxq := hx1.keeps hsq (by omega)
      have hyq := hyl3.keeps hsq
      have hyo1 : ∀ j, idOf yl = some j → A j = true := fun j hj => hAo j (hyl3.idlt j hj) (by have := idl j hj; omega)
      have hlw : ∀ k, LA.lowV A (some (.pointer (some ⟨jf, k, some 4⟩))) = true := fun k => LA.lowV_ptr (A := A) (i := jf) (hAo _ (by omega) h.ne.symm)
      have e1 : ((l.length : Nat) : Int) - 1 = ((l.length - 1 : Nat) : Int) := by omega
      have lE := lowV_elemIn hyl3.sees hyo1 (k := l.length - 1) (by omega)
      have hi1 := hyq.sees.indexAddr (P := Try.prog) (k := .i64) (x := ((l.length - 1 : Nat) : Int)) uCodeF szInt (by omega) (by omega)
      have k1 := hyq.sees.load1 (P := Try.prog) agIntF (k := l.length - 1) (by omega)
      rw [natsV_getD (by omega)] at k1
      rw [Int.toNat_natCast] at hi1
      simp (config := { maxSteps := 1000000, implicitDefEqProofs := false }) (disch := omega) only [allW, allR, evalAll, Nat.reduceLT, Nat.reduceEqDiff, ↓reduceIte, hn, h11, c0, eq_true d16, hyl3.sees.lenA uCodeF, eq_false d0]
      refine LB.Drawn.looseK A hAl 1 0 (by kernel_rfl) (by kernel_rfl) ?_
      have lL := LA.lowL_sees hyl3.sees
      simp (config := { maxSteps := 1000000, implicitDefEqProofs := false }) (disch := omega) only [allW, allR, allL, allB, Nat.sub_self, evalAll, Nat.reduceLT, Nat.reduceEqDiff, ↓reduceIte, hn, h0, h11, wfld0, hxq.w0, hlw, lE, lL, hyl3.self, hyq.sees.lenA uCodeF, wrapI, e1, hi1, k1]
      refine (takeX_any hlt hfa base (spare t3 0) jf jb D P (.ok q1) 2 _ bv o hxq (by omega) (by omega)).mono ?_
      rintro _ t4 ⟨rfl, h4R, j4⟩
      have hv2 := takeV_lt D (.ok q1) 2
      have e3 : (3 : Int) + ((takeV D (.ok q1) 2 : Nat) : Int) = ((3 + takeV D (.ok q1) 2 : Nat) : Int) := by omega
      refine ⟨fun _ => ⟨by rw [j4.1]; exact Nat.le_refl _, fun q hq => j4.2 q (fun e => by rw [e, hAb] at hq; cases hq)⟩, ?_⟩
      try simp (config := { maxSteps := 1000000, implicitDefEqProofs := false }) (disch := omega) only [allW, allL, allB, Nat.reduceLT, Nat.reduceEqDiff, ↓reduceIte, allW, Nat.reduceLT, Nat.reduceEqDiff, ↓reduceIte, hn, wrapI, e3]
      rw [ea] at hQ'
      exact hQ' _ _ ⟨by simp only [n_put, hn], by simp only [get_put, ↓reduceIte, Nat.reduceEqDiff, h0], by simp only [get_put, ↓reduceIte, Nat.reduceEqDiff, h4], by simp only [get_put, ↓reduceIte, Nat.reduceEqDiff, h5], by simp only [get_put, ↓reduceIte, Nat.reduceEqDiff, h8], by simp only [get_put, ↓reduceIte, Nat.reduceEqDiff, h10], by simp only [get_put, ↓reduceIte, Nat.reduceEqDiff, h11], by simp only [get_put, ↓reduceIte, Nat.reduceEqDiff], by simp only [get_put, ↓reduceIte], h4R, ⟨by rw [j4.1]; exact hnq, fun i hi => by rw [j4.2 i hi]; rfl⟩⟩
    have d16 : ¬ ((sv : Nat) : Int) = 16 := by omega
    rw [if_neg c16] at ea
    by_cases c17 : sv = 17
    · have d17 : ((sv : Nat) : Int) = 17 := by omega
      rw [if_pos c17] at ea
      simp (config := { maxSteps := 1000000, implicitDefEqProofs := false }) (disch := omega) only [allW, allR, evalAll, Nat.reduceLT, Nat.reduceEqDiff, ↓reduceIte, undef, hn, h0, c0, eq_false d16, eq_true d17, wfld0, hx1.w0]
      refine (takeX_any hlt hfa base _ jf jb D P (.ok q1) 3 _ bv o hx1 (by omega) (by omega)).mono ?_
      rintro _ t4 ⟨rfl, h4R, j4⟩
      have hv2 := takeV_lt D (.ok q1) 3
      have e3 : (3 : Int) + ((takeV D (.ok q1) 3 : Nat) : Int) = ((3 + takeV D (.ok q1) 3 : Nat) : Int) := by omega
      simp (config := { maxSteps := 1000000, implicitDefEqProofs := false }) (disch := omega) only [allW, Nat.reduceLT, Nat.reduceEqDiff, ↓reduceIte, hn, wrapI, e3]
      rw [ea] at hQ'
      exact hQ' _ _ ⟨by simp only [n_put, hn], by simp only [get_put, ↓reduceIte, Nat.reduceEqDiff, h0], by simp only [get_put, ↓reduceIte, Nat.reduceEqDiff, h4], by simp only [get_put, ↓reduceIte, Nat.reduceEqDiff, h5], by simp only [get_put, ↓reduceIte, Nat.reduceEqDiff, h8], by simp only [get_put, ↓reduceIte, Nat.reduceEqDiff, h10], by simp only [get_put, ↓reduceIte, Nat.reduceEqDiff, h11], by simp only [get_put, ↓reduceIte, Nat.reduceEqDiff]; rfl, by simp only [get_put, ↓reduceIte], h4R, j4⟩
    have d17 : ¬ ((sv : Nat) : Int) = 17 := by omega
    rw [if_neg c17] at ea
    by_cases c18 : sv = 18
    · have d18 : ((sv : Nat) : Int) = 18 := by omega
      rw [if_pos c18] at ea
      simp (config := { maxSteps := 1000000, implicitDefEqProofs := false }) (disch := omega) only [allW, allR, evalAll, Nat.reduceLT, Nat.reduceEqDiff, ↓reduceIte, undef, hn, h0, c0, eq_false d16, eq_false d17, eq_true d18, wfld0, hx1.w0]
      refine (takeX_any hlt hfa base _ jf jb D P (.ok q1) 7 _ bv o hx1 (by omega) (by omega)).mono ?_
      rintro _ t4 ⟨rfl, h4R, j4⟩
      have hv2 := takeV_lt D (.ok q1) 7
      have e3 : (11 : Int) + ((takeV D (.ok q1) 7 : Nat) : Int) = ((11 + takeV D (.ok q1) 7 : Nat) : Int) := by omega
      simp (config := { maxSteps := 1000000, implicitDefEqProofs := false }) (disch := omega) only [allW, Nat.reduceLT, Nat.reduceEqDiff, ↓reduceIte, hn, wrapI, e3]
      rw [ea] at hQ'
      exact hQ' _ _ ⟨by simp only [n_put, hn], by simp only [get_put, ↓reduceIte, Nat.reduceEqDiff, h0], by simp only [get_put, ↓reduceIte, Nat.reduceEqDiff, h4], by simp only [get_put, ↓reduceIte, Nat.reduceEqDiff, h5], by simp only [get_put, ↓reduceIte, Nat.reduceEqDiff, h8], by simp only [get_put, ↓reduceIte, Nat.reduceEqDiff, h10], by simp only [get_put, ↓reduceIte, Nat.reduceEqDiff, h11], by simp only [get_put, ↓reduceIte, Nat.reduceEqDiff]; rfl, by simp only [get_put, ↓reduceIte], h4R, j4⟩
    have d18 : ¬ ((sv : Nat) : Int) = 18 := by omega
    rw [if_neg c18] at ea
    simp (config := { maxSteps := 1000000, implicitDefEqProofs := false }) (disch := omega) only [allW, allR, Nat.reduceLT, Nat.reduceEqDiff, ↓reduceIte, undef, hn, c0, eq_false d16, eq_false d17, eq_false d18]
    rw [ea] at hQ'
    exact hQ' _ _ ⟨by simp only [n_put, hn], by simp only [get_put, ↓reduceIte, Nat.reduceEqDiff, h0], by simp only [get_put, ↓reduceIte, Nat.reduceEqDiff, h4], by simp only [get_put, ↓reduceIte, Nat.reduceEqDiff, h5], by simp only [get_put, ↓reduceIte, Nat.reduceEqDiff, h8], by simp only [get_put, ↓reduceIte, Nat.reduceEqDiff, h10], by simp only [get_put, ↓reduceIte, Nat.reduceEqDiff, h11], by simp only [get_put, ↓reduceIte, Nat.reduceEqDiff], by simp only [get_put, ↓reduceIte, Nat.reduceEqDiff]; rfl, hx1, JTo.refl _ _⟩
  clear hn h0 h4 h5 h8 h10 h11 f
  rintro f t4 ⟨hn, h0, h4, h5, h8, h10, h11, h13, h14, hx2, j4⟩
  have hyl4 : Own t4 1 yl l.length (natsV l) := jtoOwn hyl3 j4 (fun e => by have := idl _ e; omega)
  have hyc4 : Own t4 1 yc 19 (natsV oL) := jtoOwn hyc3 j4 (fun e => by have := idc _ e; omega)
  have htc4 : Own t4 1 tc oL.length (natsV (codesC oL)) := jtoOwn htc3 j4 (fun e => by have := idtc _ e; omega)
  have hto4 := hto3.trans j4.fto
  have n4' : t4.next = t3.next := j4.1
  obtain ⟨av, hav⟩ : ∃ av, av = a.1 := ⟨_, rfl⟩
  obtain ⟨an, han⟩ : ∃ an, an = a.2.1 := ⟨_, rfl⟩
  obtain ⟨ax, hax⟩ : ∃ ax, ax = a.2.2 := ⟨_, rfl⟩
  rw [← hav] at h13 hgrow hstep
  rw [← han] at h14 hgrow ex8 hstep hn200
  rw [← hax] at hx2 ex8
  clear hyl3 hyc3 htc3 hto3 j4 ea hav han hax
  simp (config := { maxSteps := 1000000, implicitDefEqProofs := false }) (disch := omega) only [allW, allR, Nat.reduceLT, ↓reduceIte, hn, h0, wfld0, tfld2, hx2.w0, hx2.l2]
  refine wwant_cut (fun f' t' => f'.n = 264 ∧ f'.get 0 = bptr jf ∧ f'.get 4 = .int .i64 ((n5 + 257 : Nat) : Int) ∧ f'.get 5 = .int .i64 ((d5 + 1 : Nat) : Int) ∧ f'.get 8 = yc ∧ f'.get 10 = tc ∧ f'.get 11 = yl ∧ f'.get 13 = .int .i64 (av : Nat) ∧ f'.get 14 = .int .i64 (an : Nat) ∧ RdO base jf jb D P (m : Nat) bv o t' x8 ∧ JTo jb t4 t') ?_ ?_
  · intro Q' hQ'
    cases ax with
    | error e =>
      have c0 : ¬ ((badV (.error e) : Nat) : Int) = 0 := fun c => by obtain ⟨q, hq⟩ := hx2.bad.1 (by omega); cases hq
      simp (config := { maxSteps := 1000000, implicitDefEqProofs := false }) (disch := omega) only [allW, allR, Nat.reduceLT, Nat.reduceEqDiff, ↓reduceIte, undef, hn, eq_false c0]
      rw [ex8] at hQ'
      exact hQ' _ _ ⟨by simp only [n_put, hn], by simp only [get_put, ↓reduceIte, Nat.reduceEqDiff, h0], by simp only [get_put, ↓reduceIte, Nat.reduceEqDiff, h4], by simp only [get_put, ↓reduceIte, Nat.reduceEqDiff, h5], by simp only [get_put, ↓reduceIte, Nat.reduceEqDiff, h8], by simp only [get_put, ↓reduceIte, Nat.reduceEqDiff, h10], by simp only [get_put, ↓reduceIte, Nat.reduceEqDiff, h11], by simp only [get_put, ↓reduceIte, Nat.reduceEqDiff, h13], by simp only [get_put, ↓reduceIte, Nat.reduceEqDiff, h14], hx2, JTo.refl _ _⟩
    | ok q1 =>
      have c0 : ((badV (.ok q1) : Nat) : Int) = 0 := rfl
      by_cases c1 : M < l.length + an
      · have d1 : ((l.length : Nat) : Int) + ((an : Nat) : Int) > ((M : Nat) : Int) := by omega
        simp (config := { maxSteps := 1000000, implicitDefEqProofs := false }) (disch := omega) only [allW, allR, evalAll, Nat.reduceLT, Nat.reduceEqDiff, ↓reduceIte, hn, h0, h4, h5, h11, h14, c0, hyl4.sees.lenA uCodeF, wrapI, eM, eq_true d1, wfld0, hx2.w0]
        refine (failX_any hfa base _ jf jb D P q1 4 _ bv o hx2 (by decide)).mono ?_
        rintro _ t5 ⟨h5R, j5⟩
        simp (config := { maxSteps := 1000000, implicitDefEqProofs := false }) (disch := omega) only [allW, Nat.reduceLT, ↓reduceIte, hn]
        exact hQ' _ _ ⟨by simp only [n_put, hn], by simp only [get_put, ↓reduceIte, Nat.reduceEqDiff, h0], by simp only [get_put, ↓reduceIte, Nat.reduceEqDiff, h4], by simp only [get_put, ↓reduceIte, Nat.reduceEqDiff, h5], by simp only [get_put, ↓reduceIte, Nat.reduceEqDiff, h8], by simp only [get_put, ↓reduceIte, Nat.reduceEqDiff, h10], by simp only [get_put, ↓reduceIte, Nat.reduceEqDiff, h11], by simp only [get_put, ↓reduceIte, Nat.reduceEqDiff, h13], by simp only [get_put, ↓reduceIte, Nat.reduceEqDiff, h14], by rw [ex8, chk_yes _ c1]; exact h5R, j5⟩
      · have d1 : ¬ ((l.length : Nat) : Int) + ((an : Nat) : Int) > ((M : Nat) : Int) := by omega
        simp (config := { maxSteps := 1000000, implicitDefEqProofs := false }) (disch := omega) only [allW, allR, evalAll, Nat.reduceLT, Nat.reduceEqDiff, ↓reduceIte, hn, h4, h5, h11, h14, c0, hyl4.sees.lenA uCodeF, wrapI, eM, eq_false d1]
        exact hQ' _ _ ⟨by simp only [n_put, hn], by simp only [get_put, ↓reduceIte, Nat.reduceEqDiff, h0], by simp only [get_put, ↓reduceIte, Nat.reduceEqDiff, h4], by simp only [get_put, ↓reduceIte, Nat.reduceEqDiff, h5], by simp only [get_put, ↓reduceIte, Nat.reduceEqDiff, h8], by simp only [get_put, ↓reduceIte, Nat.reduceEqDiff, h10], by simp only [get_put, ↓reduceIte, Nat.reduceEqDiff, h11], by simp only [get_put, ↓reduceIte, Nat.reduceEqDiff, h13], by simp only [get_put, ↓reduceIte, Nat.reduceEqDiff, h14], by rw [ex8, chk_no _ c1]; exact hx2, JTo.refl _ _⟩
  clear hn h0 h4 h5 h8 h10 h11 h13 h14 f
  rintro f t5 ⟨hn, h0, h4, h5, h8, h10, h11, h13, h14, hx3, j5⟩
  have hyl5 : Own t5 1 yl l.length (natsV l) := jtoOwn hyl4 j5 (fun e => by have := idl _ e; omega)
  have hyc5 : Own t5 1 yc 19 (natsV oL) := jtoOwn hyc4 j5 (fun e => by have := idc _ e; omega)
  have htc5 : Own t5 1 tc oL.length (natsV (codesC oL)) := jtoOwn htc4 j5 (fun e => by have := idtc _ e; omega)
  have hto5 := hto4.trans j5.fto
  have n5' : t5.next = t4.next := j5.1
  clear hyl4 hyc4 htc4 hto4 hx2 ex8
  simp (config := { maxSteps := 1000000, implicitDefEqProofs := false }) (disch := omega) only [allW, Nat.reduceLT, ↓reduceIte, hn]
  refine Comes.loopOut (fun z f t' => ∃ (i : Nat) (y : Value), z = an - i ∧ i ≤ an ∧ Own t' 1 y (l.length + i) (natsV (l ++ List.replicate i av)) ∧ Fresh t2.next y ∧ Own t' 1 yc 19 (natsV oL) ∧ Own t' 1 tc oL.length (natsV (codesC oL)) ∧ FTo jf jb o s o t' ∧ t2.next ≤ t'.next ∧ RdO base jf jb D P (m : Nat) bv o t' x8 ∧ f.n = 264 ∧ f.get 0 = bptr jf ∧ f.get 4 = .int .i64 ((n5 + 257 : Nat) : Int) ∧ f.get 5 = .int .i64 ((d5 + 1 : Nat) : Int) ∧ f.get 8 = yc ∧ f.get 10 = tc ∧ f.get 11 = y ∧ f.get 13 = .int .i64 (av : Nat) ∧ f.get 14 = .int .i64 (an : Nat) ∧ f.get 15 = .int .i64 (i : Nat) ∧ ((∃ r, x8 = .ok r) ∨ i = 0))
    (fun z f t' => z = .exit 5 ∧ ∃ (i : Nat) (y : Value), Own t' 1 y (l.length + i) (natsV (l ++ List.replicate i av)) ∧ Fresh t2.next y ∧ Own t' 1 yc 19 (natsV oL) ∧ Own t' 1 tc oL.length (natsV (codesC oL)) ∧ FTo jf jb o s o t' ∧ t2.next ≤ t'.next ∧ RdO base jf jb D P (m : Nat) bv o t' x8 ∧ f.n = 264 ∧ f.get 0 = bptr jf ∧ f.get 4 = .int .i64 ((n5 + 257 : Nat) : Int) ∧ f.get 5 = .int .i64 ((d5 + 1 : Nat) : Int) ∧ f.get 8 = yc ∧ f.get 10 = tc ∧ f.get 11 = y ∧ (((∃ r, x8 = .ok r) ∧ i = an) ∨ ((∃ e, x8 = .error e) ∧ i = 0)))
    ⟨0, yl, rfl, by omega, by simpa using hyl5, hylF, hyc5, htc5, hto5, by omega, hx3, by simp only [n_put, hn], by simp only [get_put, ↓reduceIte, Nat.reduceEqDiff, h0], by simp only [get_put, ↓reduceIte, Nat.reduceEqDiff, h4], by simp only [get_put, ↓reduceIte, Nat.reduceEqDiff, h5], by simp only [get_put, ↓reduceIte, Nat.reduceEqDiff, h8], by simp only [get_put, ↓reduceIte, Nat.reduceEqDiff, h10], by simp only [get_put, ↓reduceIte, Nat.reduceEqDiff, h11], by simp only [get_put, ↓reduceIte, Nat.reduceEqDiff, h13], by simp only [get_put, ↓reduceIte, Nat.reduceEqDiff, h14], by simp only [get_put, ↓reduceIte]; rfl, .inr rfl⟩ ?_ ?_
  · clear hn h0 h4 h5 h8 h10 h11 h13 h14 f hx3 hyl5 hyc5 htc5
    rintro Q2 hQ2 z f t' ⟨i, y, rfl, hi, hy, hyF, hyc', htc', hto', hnt', hxR', hn, h0, h4, h5, h8, h10, h11, h13, h14, h15, hok⟩
    by_cases hin : i < an
    rotate_left
    · obtain rfl : i = an := by omega
      have d1 : ¬ ((i : Nat) : Int) < ((i : Nat) : Int) := by omega
      simp (config := { maxSteps := 1000000, implicitDefEqProofs := false }) (disch := omega) only [allW, allR, Nat.reduceLT, Nat.reduceEqDiff, ↓reduceIte, undef, hn, h14, h15, eq_false d1]
      refine hQ2 _ _ _ ⟨rfl, i, y, hy, hyF, hyc', htc', hto', hnt', hxR', by simp only [n_put, hn], by simp only [get_put, ↓reduceIte, Nat.reduceEqDiff, h0], by simp only [get_put, ↓reduceIte, Nat.reduceEqDiff, h4], by simp only [get_put, ↓reduceIte, Nat.reduceEqDiff, h5], by simp only [get_put, ↓reduceIte, Nat.reduceEqDiff, h8], by simp only [get_put, ↓reduceIte, Nat.reduceEqDiff, h10], by simp only [get_put, ↓reduceIte, Nat.reduceEqDiff, h11], ?_⟩
      cases x8 with
      | ok r => exact .inl ⟨⟨r, rfl⟩, rfl⟩
      | error e =>
        rcases hok with ⟨r, hr⟩ | h
        · cases hr
        · exact .inr ⟨⟨e, rfl⟩, h⟩
    have d1 : ((i : Nat) : Int) < ((an : Nat) : Int) := by omega
    cases x8 with
    | error e =>
      have hi0 : i = 0 := by
        rcases hok with ⟨r, hr⟩ | h
        · cases hr
        · exact h
      have c0 : ¬ ((badV (.error e) : Nat) : Int) = 0 := fun c => by obtain ⟨q, hq⟩ := hxR'.bad.1 (by omega); cases hq
      simp (config := { maxSteps := 1000000, implicitDefEqProofs := false }) (disch := omega) only [allW, allR, Nat.reduceLT, Nat.reduceEqDiff, ↓reduceIte, hn, h0, h14, h15, eq_true d1, wfld0, tfld2, hxR'.w0, hxR'.l2, eq_false c0]
      exact hQ2 _ _ _ ⟨rfl, i, y, hy, hyF, hyc', htc', hto', hnt', hxR', by simp only [n_put, hn], by simp only [get_put, ↓reduceIte, Nat.reduceEqDiff, h0], by simp only [get_put, ↓reduceIte, Nat.reduceEqDiff, h4], by simp only [get_put, ↓reduceIte, Nat.reduceEqDiff, h5], by simp only [get_put, ↓reduceIte, Nat.reduceEqDiff, h8], by simp only [get_put, ↓reduceIte, Nat.reduceEqDiff, h10], by simp only [get_put, ↓reduceIte, Nat.reduceEqDiff, h11], .inr ⟨⟨e, rfl⟩, hi0⟩⟩
    | ok r =>
    have c0 : ((badV (.ok r) : Nat) : Int) = 0 := rfl
    have hg := hgrow r rfl
    simp (config := { maxSteps := 1000000, implicitDefEqProofs := false }) (disch := omega) only [allW, allR, partsA, Nat.reduceLT, Nat.reduceEqDiff, ↓reduceIte, hn, h0, h11, h13, h14, h15, eq_true d1, wfld0, tfld2, hxR'.w0, hxR'.l2, c0, build1 uCodeF szInt zIntF]
    refine wstep_append_lit uCodeF szInt byIntF zIntF rfl hy (by simp only [get_put, ↓reduceIte, Nat.reduceEqDiff]) (by decide) (by simp only [n_put, hn]; decide) (by simp only [n_put, hn]; decide) (by rfl) (by decide) rfl (by omega) (by omega) hyF hnt' ?_
    intro bs y2 t6 hy2 hF2 hst2 ht2 hid2
    have idy : ∀ i, idOf y = some i → s.next ≤ i := fun i hi => by have := hyF i hi; omega
    have e6 : natsV (l ++ List.replicate i av) ++ [Value.int .i64 (av : Nat)] = natsV (l ++ List.replicate (i + 1) av) := by
      rw [List.replicate_succ', ← List.append_assoc]
      exact natsV_app _ [av]
    rw [e6] at hy2
    have hd1 : ∀ (v : Value) (L : List Value) (n : Nat), Own t' 1 v n L → (∀ i, idOf v = some i → i < t2.next) → Own t6 1 v n L := fun v L n h1 h2 => h1.turns ht2 (fun i hi e => by have := h2 i hi; have := hyF i e; omega)
    simp (config := { maxSteps := 1000000, implicitDefEqProofs := false }) (disch := omega) only [allW, Nat.reduceLT, Nat.reduceEqDiff, ↓reduceIte, hn, h15, wrapI]
    exact wround_next (an - (i + 1)) (by omega) ⟨i + 1, y2, rfl, by omega, hy2, hF2, hd1 _ _ _ hyc' (fun i hi => hyc2.idlt i hi), hd1 _ _ _ htc' (fun i hi => htc.idlt i hi), hto'.turned ht2 idy, Nat.le_trans hnt' ht2.next, hxR'.turns ht2 (apart y idy) (by omega), by simp only [n_put, hn], by simp only [get_put, ↓reduceIte, Nat.reduceEqDiff, h0], by simp only [get_put, ↓reduceIte, Nat.reduceEqDiff, h4], by simp only [get_put, ↓reduceIte, Nat.reduceEqDiff, h5], by simp only [get_put, ↓reduceIte, Nat.reduceEqDiff, h8], by simp only [get_put, ↓reduceIte, Nat.reduceEqDiff, h10], by simp only [get_put, ↓reduceIte, Nat.reduceEqDiff], by simp only [get_put, ↓reduceIte, Nat.reduceEqDiff, h13], by simp only [get_put, ↓reduceIte, Nat.reduceEqDiff, h14], by simp only [get_put, ↓reduceIte]; rfl, .inl ⟨r, rfl⟩⟩
  clear hn h0 h4 h5 h8 h10 h11 h13 h14 f
  rintro z f t' ⟨rfl, i, y, hy, hyF, hyc', htc', hto', hnt', hxR', hn, h0, h4, h5, h8, h10, h11, (⟨⟨r, hr⟩, rfl⟩ | ⟨⟨e, he⟩, rfl⟩)⟩
  · subst hr
    rw [bindX_ok] at hstep
    have hg := hgrow r rfl
    simp (config := { maxSteps := 1000000, implicitDefEqProofs := false }) (disch := omega) only [allW, ↓reduceIte]
    exact wround_next k (by omega) ⟨l ++ List.replicate i av, y, by rw [List.length_append, List.length_replicate]; exact hy, hyF, by rw [List.length_append, List.length_replicate]; omega, le15_rep hl15 hg.2.2, hyc', htc', hto', hnt', by simp only [hn], by simp only [h0], by simp only [h4], by simp only [h5], by simp only [h8], by simp only [h10], by simp only [h11], .inl ⟨r, hxR', hstep.symm, by omega⟩⟩
  · subst he
    rw [bindX_err] at hstep
    have hy0 : Own t' 1 y l.length (natsV l) := by simpa using hy
    simp (config := { maxSteps := 1000000, implicitDefEqProofs := false }) (disch := omega) only [allW, ↓reduceIte]
    exact wround_next 0 (by omega) ⟨l, y, hy0, hyF, hlM, hl15, hyc', htc', hto', hnt', by simp only [hn], by simp only [h0], by simp only [h4], by simp only [h5], by simp only [h8], by simp only [h10], by simp only [h11], .inr ⟨rfl, e, hxR', hstep⟩⟩
end Go.Proofs.Ytnclklboogdoiaa
