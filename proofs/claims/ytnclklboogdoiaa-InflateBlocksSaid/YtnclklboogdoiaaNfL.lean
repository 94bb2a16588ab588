/-
  Inflate, the program: a block's own codes.
-/
import Derived.Test.YtnclklboogdoiaaNfK
set_option linter.unusedSimpArgs false
set_option linter.unusedVariables false
set_option maxRecDepth 100000
namespace Go.Proofs.Ytnclklboogdoiaa
open Go.Cl Go.Cl.Rw Go.Cl.Sto Go.Cl.Fx Go.Cl.Nf Go.Cl.Bt
theorem ext40 (a b c d : Value) : extractA (.tuple #[a, b, c, d]) 0 = some a := rfl
theorem ext41 (a b c d : Value) : extractA (.tuple #[a, b, c, d]) 1 = some b := rfl
theorem ext42 (a b c d : Value) : extractA (.tuple #[a, b, c, d]) 2 = some c := rfl
theorem ext43 (a b c d : Value) : extractA (.tuple #[a, b, c, d]) 3 = some d := rfl
theorem ext30 (a b c : Value) : extractA (.tuple #[a, b, c]) 0 = some a := rfl
theorem ext31 (a b c : Value) : extractA (.tuple #[a, b, c]) 1 = some b := rfl
theorem ext32 (a b c : Value) : extractA (.tuple #[a, b, c]) 2 = some c := rfl
/-- How many lengths there are. -/
def HeadR (base jr jx ic : Nat) (D P : List UInt8) (p : Nat) (M : Int) (o : Value) (s : ASt) (v : Value) (s' : ASt) : Except Nat (Nat × Nat × Nat) → Prop
  | .ok (n, d, k) => v = .tuple #[.int .i64 (n : Nat), .int .i64 (d : Nat), .int .i64 (k : Nat), .int .i64 0] ∧ Rs base s' jr jx ic D (p + 14) P M o ∧ BTo jx ic s s'
  | .error e => 0 < e ∧ (∃ a b c, v = .tuple #[.int .i64 a, .int .i64 b, .int .i64 c, .int .i64 (e : Nat)]) ∧ BTo jx ic s s'
set_option maxHeartbeats 8000000 in
theorem headP_any {lib : Prims} (hL : NoL lib) (base : Nat) (s : ASt) (jr jx ic : Nat) (D P : List UInt8) (p : Nat) (M : Int) (o : Value) (h : Rs base s jr jx ic D p P M o) (hb : base ≤ s.next) (hlen : D.length ≤ 1000000) :
    Runs Try.prog lib 70 [rptr jr] s fun v s' => HeadR base jr jx ic D P p M o s v s' (headX D p) := by
  refine Runs.enter 53 Try.func70 rfl (hL _ rfl) rfl rfl ?_
  intro f hn hf
  have h0 : f.get 0 = rptr jr := hf 0
  clear hf
  have p5 : (2 : Nat) ^ 5 = 32 := by decide
  have p4 : (2 : Nat) ^ 4 = 16 := by decide
  have r0 := h.t.load (P := Try.prog) agBitsQ (off := 0) (c := 4) rfl (by simp)
  have ne2 : ¬ (2 : Int) = 0 := by decide
  unfold headX
  simp (config := { maxSteps := 1000000, implicitDefEqProofs := false }) (disch := omega) only [allW, allR, evalAll, Nat.reduceLT, Nat.reduceEqDiff, ↓reduceIte, hn, h0, rfld0, r0]
  refine (number_any hL base s jx ic D p 5 h.bit hb (by omega) hlen).mono ?_
  intro v s1 hN
  by_cases c1 : p + 5 ≤ 8 * D.length
  rotate_left
  · rw [takeE_no c1] at hN ⊢
    obtain ⟨-, rfl, hto⟩ := hN
    simp (config := { maxSteps := 1000000, implicitDefEqProofs := false }) (disch := omega) only [allW, allR, wfn_ret, oneOf, Nat.reduceLT, Nat.reduceEqDiff, ↓reduceIte, hn, ext20, ext21, eq_false ne2, Try.results70]
    exact ⟨by decide, ⟨_, _, _, rfl⟩, hto⟩
  rw [takeE_ok c1] at hN ⊢
  dsimp only
  obtain ⟨rfl, hB1, to1⟩ := hN
  have hb5 := bitsN_lt D p 5
  generalize bitsN D p 5 = n at hb5
  have e1 : (n : Int) + 257 = ((n + 257 : Nat) : Int) := by omega
  by_cases cn : 29 < n
  · have d1 : ((n + 257 : Nat) : Int) > 286 := by omega
    rw [if_pos cn]
    simp (config := { maxSteps := 1000000, implicitDefEqProofs := false }) (disch := omega) only [allW, allR, wfn_ret, oneOf, Nat.reduceLT, Nat.reduceEqDiff, ↓reduceIte, hn, ext20, ext21, wrapI, e1, eq_true d1, Try.results70]
    exact ⟨by decide, ⟨_, _, _, rfl⟩, to1⟩
  have d1 : ¬ ((n + 257 : Nat) : Int) > 286 := by omega
  rw [if_neg cn]
  have hR1 := h.bits hB1 to1
  have hb1 : base ≤ s1.next := by have := to1.next; omega
  have r0 := hR1.t.load (P := Try.prog) agBitsQ (off := 0) (c := 4) rfl (by simp)
  simp (config := { maxSteps := 1000000, implicitDefEqProofs := false }) (disch := omega) only [allW, allR, evalAll, Nat.reduceLT, Nat.reduceEqDiff, ↓reduceIte, hn, h0, ext20, ext21, wrapI, e1, eq_false d1, rfld0, r0]
  refine (number_any hL base s1 jx ic D (p + 5) 5 hB1 hb1 (by omega) hlen).mono ?_
  intro v s2 hN
  by_cases c2 : p + 5 + 5 ≤ 8 * D.length
  rotate_left
  · rw [takeE_no c2] at hN ⊢
    obtain ⟨-, rfl, hto⟩ := hN
    simp (config := { maxSteps := 1000000, implicitDefEqProofs := false }) (disch := omega) only [allW, allR, wfn_ret, oneOf, Nat.reduceLT, Nat.reduceEqDiff, ↓reduceIte, hn, ext20, ext21, eq_false ne2, Try.results70]
    exact ⟨by decide, ⟨_, _, _, rfl⟩, to1.trans hto⟩
  rw [takeE_ok c2] at hN ⊢
  dsimp only
  obtain ⟨rfl, hB2, to2⟩ := hN
  have to2 := to1.trans to2
  have hb5 := bitsN_lt D (p + 5) 5
  generalize bitsN D (p + 5) 5 = d at hb5
  have e2 : (d : Int) + 1 = ((d + 1 : Nat) : Int) := by omega
  by_cases cd : 29 < d
  · have d2 : ((d + 1 : Nat) : Int) > 30 := by omega
    rw [if_pos cd]
    simp (config := { maxSteps := 1000000, implicitDefEqProofs := false }) (disch := omega) only [allW, allR, wfn_ret, oneOf, Nat.reduceLT, Nat.reduceEqDiff, ↓reduceIte, hn, ext20, ext21, wrapI, e2, eq_true d2, Try.results70]
    exact ⟨by decide, ⟨_, _, _, rfl⟩, to2⟩
  have d2 : ¬ ((d + 1 : Nat) : Int) > 30 := by omega
  rw [if_neg cd]
  have hR2 := h.bits hB2 to2
  have hb2 : base ≤ s2.next := by have := to2.next; omega
  have r0 := hR2.t.load (P := Try.prog) agBitsQ (off := 0) (c := 4) rfl (by simp)
  simp (config := { maxSteps := 1000000, implicitDefEqProofs := false }) (disch := omega) only [allW, allR, evalAll, Nat.reduceLT, Nat.reduceEqDiff, ↓reduceIte, hn, h0, ext20, ext21, wrapI, e2, eq_false d2, rfld0, r0]
  refine (number_any hL base s2 jx ic D (p + 5 + 5) 4 hB2 hb2 (by omega) hlen).mono ?_
  intro v s3 hN
  rw [show p + 10 = p + 5 + 5 by omega]
  by_cases c3 : p + 5 + 5 + 4 ≤ 8 * D.length
  rotate_left
  · rw [takeE_no c3] at hN ⊢
    obtain ⟨-, rfl, hto⟩ := hN
    simp (config := { maxSteps := 1000000, implicitDefEqProofs := false }) (disch := omega) only [allW, wfn_ret, oneOf, Nat.reduceLT, Nat.reduceEqDiff, ↓reduceIte, hn, ext20, ext21, wrapI, e1, e2, Try.results70]
    exact ⟨by decide, ⟨_, _, _, rfl⟩, to2.trans hto⟩
  rw [takeE_ok c3] at hN ⊢
  dsimp only
  obtain ⟨rfl, hB3, to3⟩ := hN
  have to3 := to2.trans to3
  have hb4 := bitsN_lt D (p + 5 + 5) 4
  generalize bitsN D (p + 5 + 5) 4 = k at hb4
  have e3 : (k : Int) + 4 = ((k + 4 : Nat) : Int) := by omega
  simp (config := { maxSteps := 1000000, implicitDefEqProofs := false }) (disch := omega) only [allW, wfn_ret, oneOf, Nat.reduceLT, Nat.reduceEqDiff, ↓reduceIte, hn, ext20, ext21, wrapI, e1, e2, e3, Try.results70]
  exact ⟨rfl, h.bits hB3 to3, to3⟩
/-- A length that comes again. -/
def AgnR (base jr jx ic : Nat) (D P : List UInt8) (M : Int) (o : Value) (s : ASt) (v : Value) (s' : ASt) : Except Nat (Nat × Nat × Nat) → Prop
  | .ok (x, n, q) => v = .tuple #[.int .i64 (x : Nat), .int .i64 (n : Nat), .int .i64 0] ∧ Rs base s' jr jx ic D q P M o ∧ BTo jx ic s s'
  | .error e => 0 < e ∧ (∃ a b, v = .tuple #[.int .i64 a, .int .i64 b, .int .i64 (e : Nat)]) ∧ BTo jx ic s s'
set_option maxHeartbeats 8000000 in
theorem againP_any {lib : Prims} (hL : NoL lib) (base : Nat) (s : ASt) (jr jx ic : Nat) (D P : List UInt8) (p : Nat) (M : Int) (o : Value) (h : Rs base s jr jx ic D p P M o) (hb : base ≤ s.next) (hlen : D.length ≤ 1000000) (x : Nat) (y : Value) (l : List Nat) (hy : Own s 1 y l.length (natsV l)) (hyi : ∀ i, idOf y = some i → i ≠ jx ∧ i ≠ ic) (hll : l.length ≤ 1000) :
    Runs Try.prog lib 74 [rptr jr, .int .i64 (x : Nat), y] s fun v s' => AgnR base jr jx ic D P M o s v s' (againX D x p l) := by
  refine Runs.enter 65 Try.func74 rfl (hL _ rfl) rfl rfl ?_
  intro f hn hf
  have h0 : f.get 0 = rptr jr := hf 0
  have h1 : f.get 1 = .int .i64 (x : Nat) := hf 1
  have h2 : f.get 2 = y := hf 2
  clear hf
  have p2 : (2 : Nat) ^ 2 = 4 := by decide
  have p3 : (2 : Nat) ^ 3 = 8 := by decide
  have p7 : (2 : Nat) ^ 7 = 128 := by decide
  have r0 := h.t.load (P := Try.prog) agBitsQ (off := 0) (c := 4) rfl (by simp)
  unfold againX
  by_cases c16 : x = 16
  · have d16 : ((x : Nat) : Int) = 16 := by omega
    rw [if_pos c16]
    by_cases cl : l.length = 0
    · have d0 : ((l.length : Nat) : Int) = 0 := by omega
      rw [if_pos cl]
      simp (config := { maxSteps := 1000000, implicitDefEqProofs := false }) (disch := omega) only [allW, wfn_ret, oneOf, evalAll, Nat.reduceLT, Nat.reduceEqDiff, ↓reduceIte, hn, h1, h2, eq_true d16, hy.sees.lenA uIntsF, eq_true d0, Try.results74]
      exact ⟨by decide, ⟨_, _, rfl⟩, BTo.refl _ _ _⟩
    have d0 : ¬ ((l.length : Nat) : Int) = 0 := by omega
    rw [if_neg cl]
    simp (config := { maxSteps := 1000000, implicitDefEqProofs := false }) (disch := omega) only [allW, allR, evalAll, Nat.reduceLT, Nat.reduceEqDiff, ↓reduceIte, hn, h0, h1, h2, eq_true d16, hy.sees.lenA uIntsF, eq_false d0, rfld0, r0]
    refine (number_any hL base s jx ic D p 2 h.bit hb (by omega) hlen).mono ?_
    intro v s1 hN
    have e1 : ((l.length : Nat) : Int) - 1 = ((l.length - 1 : Nat) : Int) := by omega
    have hfin : ∀ t, BTo jx ic s t → indexAddrA Try.prog 63 y (.int .i64 ((l.length - 1 : Nat) : Int)) = some (elemPtr 1 y (l.length - 1)) ∧ loadA Try.prog t 3 (elemPtr 1 y (l.length - 1)) = some (.int .i64 ((l.getD (l.length - 1) 0 : Nat) : Int)) := fun t k => by
      have hyt := ownTo hy k.next (fun i hi hl => k.get i hl (hyi i hi).1 (hyi i hi).2)
      have i1 := hyt.sees.indexAddr (P := Try.prog) (k := .i64) (x := ((l.length - 1 : Nat) : Int)) uIntsF szInt (by omega) (by omega)
      rw [Int.toNat_natCast] at i1
      have k1 := hyt.sees.load1 (P := Try.prog) agInt (k := l.length - 1) (by omega)
      rw [natsV_getD (by omega)] at k1
      exact ⟨i1, k1⟩
    by_cases c1 : p + 2 ≤ 8 * D.length
    · rw [takeE_ok c1] at hN ⊢
      dsimp only
      obtain ⟨rfl, hB1, to1⟩ := hN
      obtain ⟨i1, k1⟩ := hfin s1 to1
      have hbl := bitsN_lt D p 2
      generalize bitsN D p 2 = n at hbl
      have e3 : (3 : Int) + (n : Int) = ((3 + n : Nat) : Int) := by omega
      simp (config := { maxSteps := 1000000, implicitDefEqProofs := false }) (disch := omega) only [allW, wfn_ret, oneOf, evalAll, Nat.reduceLT, Nat.reduceEqDiff, ↓reduceIte, hn, h2, ext20, ext21, hy.sees.lenA uIntsF, wrapI, e1, i1, k1, e3, Try.results74]
      exact ⟨rfl, h.bits hB1 to1, to1⟩
    · rw [takeE_no c1] at hN ⊢
      obtain ⟨-, rfl, hto⟩ := hN
      obtain ⟨i1, k1⟩ := hfin s1 hto
      simp (config := { maxSteps := 1000000, implicitDefEqProofs := false }) (disch := omega) only [allW, wfn_ret, oneOf, evalAll, Nat.reduceLT, Nat.reduceEqDiff, ↓reduceIte, hn, h2, ext20, ext21, hy.sees.lenA uIntsF, wrapI, e1, i1, k1, Try.results74]
      exact ⟨by decide, ⟨_, _, rfl⟩, hto⟩
  have d16 : ¬ ((x : Nat) : Int) = 16 := by omega
  rw [if_neg c16]
  by_cases c17 : x = 17
  · have d17 : ((x : Nat) : Int) = 17 := by omega
    rw [if_pos c17]
    simp (config := { maxSteps := 1000000, implicitDefEqProofs := false }) (disch := omega) only [allW, allR, evalAll, Nat.reduceLT, Nat.reduceEqDiff, ↓reduceIte, hn, h0, h1, eq_false d16, eq_true d17, rfld0, r0]
    refine (number_any hL base s jx ic D p 3 h.bit hb (by omega) hlen).mono ?_
    intro v s1 hN
    by_cases c1 : p + 3 ≤ 8 * D.length
    · rw [takeE_ok c1] at hN ⊢
      dsimp only
      obtain ⟨rfl, hB1, to1⟩ := hN
      have hbl := bitsN_lt D p 3
      generalize bitsN D p 3 = n at hbl
      have e3 : (3 : Int) + (n : Int) = ((3 + n : Nat) : Int) := by omega
      simp (config := { maxSteps := 1000000, implicitDefEqProofs := false }) (disch := omega) only [allW, wfn_ret, oneOf, Nat.reduceLT, Nat.reduceEqDiff, ↓reduceIte, hn, ext20, ext21, wrapI, e3, Try.results74]
      exact ⟨rfl, h.bits hB1 to1, to1⟩
    · rw [takeE_no c1] at hN ⊢
      obtain ⟨-, rfl, hto⟩ := hN
      simp (config := { maxSteps := 1000000, implicitDefEqProofs := false }) (disch := omega) only [allW, wfn_ret, oneOf, Nat.reduceLT, Nat.reduceEqDiff, ↓reduceIte, hn, ext20, ext21, wrapI, Try.results74]
      exact ⟨by decide, ⟨_, _, rfl⟩, hto⟩
  have d17 : ¬ ((x : Nat) : Int) = 17 := by omega
  rw [if_neg c17]
  by_cases c18 : x = 18
  · have d18 : ((x : Nat) : Int) = 18 := by omega
    rw [if_pos c18]
    simp (config := { maxSteps := 1000000, implicitDefEqProofs := false }) (disch := omega) only [allW, allR, evalAll, Nat.reduceLT, Nat.reduceEqDiff, ↓reduceIte, hn, h0, h1, eq_false d16, eq_false d17, eq_true d18, rfld0, r0]
    refine (number_any hL base s jx ic D p 7 h.bit hb (by omega) hlen).mono ?_
    intro v s1 hN
    by_cases c1 : p + 7 ≤ 8 * D.length
    · rw [takeE_ok c1] at hN ⊢
      dsimp only
      obtain ⟨rfl, hB1, to1⟩ := hN
      have hbl := bitsN_lt D p 7
      generalize bitsN D p 7 = n at hbl
      have e3 : (11 : Int) + (n : Int) = ((11 + n : Nat) : Int) := by omega
      simp (config := { maxSteps := 1000000, implicitDefEqProofs := false }) (disch := omega) only [allW, wfn_ret, oneOf, Nat.reduceLT, Nat.reduceEqDiff, ↓reduceIte, hn, ext20, ext21, wrapI, e3, Try.results74]
      exact ⟨rfl, h.bits hB1 to1, to1⟩
    · rw [takeE_no c1] at hN ⊢
      obtain ⟨-, rfl, hto⟩ := hN
      simp (config := { maxSteps := 1000000, implicitDefEqProofs := false }) (disch := omega) only [allW, wfn_ret, oneOf, Nat.reduceLT, Nat.reduceEqDiff, ↓reduceIte, hn, ext20, ext21, wrapI, Try.results74]
      exact ⟨by decide, ⟨_, _, rfl⟩, hto⟩
  have d18 : ¬ ((x : Nat) : Int) = 18 := by omega
  rw [if_neg c18]
  simp (config := { maxSteps := 1000000, implicitDefEqProofs := false }) (disch := omega) only [allW, wfn_ret, oneOf, Nat.reduceLT, Nat.reduceEqDiff, ↓reduceIte, hn, h1, eq_false d16, eq_false d17, eq_false d18, Try.results74]
  exact ⟨rfl, h, BTo.refl _ _ _⟩
/-- Lengths that were read. -/
def LenR (base jr jx ic : Nat) (D P : List UInt8) (M : Int) (o : Value) (many : Nat) (s : ASt) (v : Value) (s' : ASt) : Except Nat (List Nat × Nat) → Prop
  | .ok (l, q) => ∃ y, v = .tuple #[y, .int .i64 0] ∧ Own s' 1 y l.length (natsV l) ∧ Fresh s.next y ∧ Rs base s' jr jx ic D q P M o ∧ BTo jx ic s s' ∧ Le15 l ∧ l.length = many
  | .error e => 0 < e ∧ (∃ w, v = .tuple #[w, .int .i64 (e : Nat)]) ∧ BTo jx ic s s'
theorem againX_fine {D : List UInt8} {s p : Nat} {l : List Nat} {x n q : Nat} (hs : s ≤ 18) (hl : Le15 l) (h : againX D s p l = .ok (x, n, q)) : n ≤ 200 ∧ x ≤ 15 := by
  unfold againX at h
  split at h
  · split at h
    · cases h
    · cases h1 : takeE D p 2 with
      | error e => rw [h1] at h; cases h
      | ok y =>
        rw [h1] at h; injection h with h; injection h with h2 h; injection h with h3 _
        have := (takeE_le h1).2
        have := bitsN_lt D p 2
        have := hl (l.length - 1)
        omega
  split at h
  · cases h1 : takeE D p 3 with
    | error e => rw [h1] at h; cases h
    | ok y =>
      rw [h1] at h; injection h with h; injection h with h2 h; injection h with h3 _
      have := (takeE_le h1).2
      have := bitsN_lt D p 3
      omega
  split at h
  · cases h1 : takeE D p 7 with
    | error e => rw [h1] at h; cases h
    | ok y =>
      rw [h1] at h; injection h with h; injection h with h2 h; injection h with h3 _
      have := (takeE_le h1).2
      have := bitsN_lt D p 7
      omega
  · injection h with h; injection h with h2 h; injection h with h3 _
    omega
set_option maxHeartbeats 8000000 in
theorem lengthsP_any {lib : Prims} (hL : NoL lib) (base : Nat) (s : ASt) (jr jx ic : Nat) (D P : List UInt8) (p0 : Nat) (M : Int) (o : Value) (h : Rs base s jr jx ic D p0 P M o) (hb : base ≤ s.next) (hlen : D.length ≤ 1000000) (vc : Value) (C : List Nat) (hC : CodP jr jx ic o s vc C) (hCl : C.length = 19) (many N : Nat) (hmany : many ≤ 400) (hN : 8 * D.length + 1 < N) :
    Runs Try.prog lib 71 [rptr jr, vc, .int .i64 (many : Nat)] s fun v s' => LenR base jr jx ic D P M o many s v s' (lensX D C many N p0 []) := by
  obtain ⟨sc, rfl, hS, hSo⟩ := hC
  have hlt := h.bit.lt
  have hjrl := h.t.lt
  have hol : ∀ i, idOf o = some i → i < s.next := fun i hi => h.own.idlt i hi
  refine Runs.enter 55 Try.func71 rfl (hL _ rfl) rfl rfl ?_
  intro f hn hf
  have h0 : f.get 0 = rptr jr := hf 0
  have h1 : f.get 1 = .agg (codeV C sc).toArray := hf 1
  have h2 : f.get 2 = .int .i64 (many : Nat) := hf 2
  clear hf
  simp (config := { maxSteps := 1000000, implicitDefEqProofs := false }) (disch := omega) only [allW, Nat.reduceLT, ↓reduceIte, hn, h1]
  refine wstep_newPtr ?_
  intro s1 hc1 hst1 hnx1
  obtain ⟨jc, hjc⟩ : ∃ j, j = s.next := ⟨_, rfl⟩
  rw [← hjc] at hc1
  have k1 : BTo jx ic s s1 := ⟨hst1.next, fun i hi _ _ => hst1.get i hi⟩
  have hR1 := h.keeps hb hst1
  have hS1 := hS.to k1
  obtain ⟨R, hR⟩ : ∃ R, R = lensX D C many N p0 [] := ⟨_, rfl⟩
  rw [← hR]
  simp (config := { maxSteps := 1000000, implicitDefEqProofs := false }) (disch := omega) only [allW, Nat.reduceLT, Nat.reduceAdd, ↓reduceIte, hn, ← hjc, codeV_length]
  refine Comes.loopOut (fun z f t => ∃ (p : Nat) (l : List Nat) (y : Value), lensX D C many z p l = R ∧ 8 * D.length + 1 < z + p ∧ l.length ≤ many ∧ Le15 l ∧ Own t 1 y l.length (natsV l) ∧ Fresh s1.next y ∧ Rs base t jr jx ic D p P M o ∧ BTo jx ic s t ∧ s1.next ≤ t.next ∧ Thing t jc (codeV C sc) ∧ Syms jx ic t sc C ∧ f.n = 55 ∧ f.get 0 = rptr jr ∧ f.get 2 = .int .i64 (many : Nat) ∧ f.get 4 = .pointer (some ⟨jc, 0, some 18⟩) ∧ f.get 8 = y)
    (fun z f t => f.n = 55 ∧ ((z = .exit 0 ∧ ∃ (l : List Nat) (q : Nat), R = .ok (l, q) ∧ Own t 1 (f.get 8) l.length (natsV l) ∧ Fresh s.next (f.get 8) ∧ Rs base t jr jx ic D q P M o ∧ BTo jx ic s t ∧ Le15 l ∧ l.length = many) ∨ (z = .ret ∧ ∃ (e : Nat) (w : Value), R = .error e ∧ 0 < e ∧ f.get 6 = w ∧ f.get 7 = .int .i64 (e : Nat) ∧ BTo jx ic s t)))
    ⟨p0, [], _, hR.symm, by omega, by simp, fun i => by simp, .nil, Fresh.nil _, hR1, k1, by omega, hc1, hS1, by simp only [n_put, hn], by simp only [get_put, ↓reduceIte, Nat.reduceEqDiff, h0], by simp only [get_put, ↓reduceIte, Nat.reduceEqDiff, h2], by simp only [get_put, ↓reduceIte, Nat.reduceEqDiff], by simp only [get_put, ↓reduceIte]⟩ ?_ ?_
  rotate_left
  · clear hn h0 h1 h2 f
    rintro z f t ⟨hn, (⟨rfl, l, q, hRq, hy, hyF, hRs, hto, hl15, hlm⟩ | ⟨rfl, e, w, hRe, he, h6, h7, hto⟩)⟩
    · obtain ⟨y, h8⟩ : ∃ y, f.get 8 = y := ⟨_, rfl⟩
      rw [h8] at hy hyF
      simp (config := { maxSteps := 1000000, implicitDefEqProofs := false }) (disch := omega) only [allW, wfn_ret, oneOf, Nat.reduceLT, Nat.reduceEqDiff, ↓reduceIte, hn, h8, Try.results71]
      rw [hRq]
      exact ⟨y, rfl, hy, hyF, hRs, hto, hl15, hlm⟩
    · simp (config := { maxSteps := 1000000, implicitDefEqProofs := false }) (disch := omega) only [allW, wfn_ret, oneOf, Nat.reduceLT, ↓reduceIte, hn, h6, h7, Try.results71]
      rw [hRe]
      exact ⟨he, ⟨_, rfl⟩, hto⟩
  clear hn h0 h1 h2 f hR1 hS1 hc1
  rintro Q hQ z f t ⟨p, l, y, hz, hpz, hlM, hl15, hy, hyF, hRs, hto, hnt, hcx, hSx, hn, h0, h2, h4, h8⟩
  have hpD := hRs.bit.le
  have hbt : base ≤ t.next := by omega
  obtain ⟨k, rfl⟩ : ∃ k, z = k + 1 := ⟨z - 1, by omega⟩
  rw [lensX] at hz
  by_cases cM : many ≤ l.length
  · have d1 : ¬ ((l.length : Nat) : Int) < (many : Int) := by omega
    rw [if_pos cM] at hz
    simp (config := { maxSteps := 1000000, implicitDefEqProofs := false }) (disch := omega) only [allW, evalAll, Nat.reduceLT, Nat.reduceEqDiff, ↓reduceIte, hn, h2, h8, hy.sees.lenA uIntsF, eq_false d1]
    exact hQ _ _ _ ⟨by simp only [n_put, hn], .inl ⟨rfl, l, p, hz.symm, by simp only [get_put, ↓reduceIte, Nat.reduceEqDiff, h8]; exact hy, by simp only [get_put, ↓reduceIte, Nat.reduceEqDiff, h8]; exact fun i hi => by have := hyF i hi; omega, hRs, hto, hl15, by omega⟩⟩
  have d1 : ((l.length : Nat) : Int) < (many : Int) := by omega
  rw [if_neg cM] at hz
  simp (config := { maxSteps := 1000000, implicitDefEqProofs := false }) (disch := omega) only [allW, evalAll, Nat.reduceLT, Nat.reduceEqDiff, ↓reduceIte, hn, h2, h8, hy.sees.lenA uIntsF, eq_true d1]
  obtain ⟨A2, hA2⟩ : ∃ A : Nat → Bool, A = fun j => decide (j < t.next) := ⟨_, rfl⟩
  have hAl2 : ∀ j, A2 j = true → j < t.next := by
    intro j h
    rw [hA2] at h
    exact of_decide_eq_true h
  have hAo2 : ∀ j, j < t.next → A2 j = true := fun j h => by rw [hA2]; exact decide_eq_true h
  have hsq := Stay.spare t 0
  have hnq : (spare t 0).next = t.next + 0 := spare_next _ _
  have hRq := hRs.keeps hbt hsq
  have hcq := hcx.keeps hsq
  have kq : BTo jx ic t (spare t 0) := ⟨by omega, fun i hi _ _ => hsq.get i hi⟩
  have lr : ∀ k, LA.lowV A2 (some (.pointer (some ⟨jr, k, some 4⟩))) = true := fun k => LA.lowV_ptr (A := A2) (i := jr) (hAo2 _ hRs.t.lt)
  have lb : ∀ k, LA.lowV A2 (some (.pointer (some ⟨jc, k, some 18⟩))) = true := fun k => LA.lowV_ptr (A := A2) (i := jc) (hAo2 _ hcx.lt)
  have r0q := hRq.t.load (P := Try.prog) agBitsQ (off := 0) (c := 4) rfl (by simp)
  have lall := hcq.loadAll (P := Try.prog) agCode (by rw [codeV_length]; exact szCode) (c := 18) (by rw [codeV_length])
  refine LB.Drawn.looseK A2 hAl2 0 0 (by kernel_rfl) (by kernel_rfl) ?_
  simp (config := { maxSteps := 1000000, implicitDefEqProofs := false }) (disch := omega) only [allW, allR, allL, allB, Nat.reduceSub, evalAll, Nat.reduceLT, Nat.reduceEqDiff, ↓reduceIte, hn, h0, h4, rfld0, r0q, lall, lr, lb, valEq_code C hSx.1]
  refine (symP_any hL base (spare t 0) jx ic D p hRq.bit (by omega) hlen C sc (hSx.to kq) (by omega)).mono ?_
  intro v t3 hY
  refine ⟨fun h => h.elim, ?_⟩
  cases hsy : sym D C p with
  | error e =>
    rw [hsy] at hY hz
    obtain ⟨he, rfl, hto3⟩ := hY
    have c0 : ¬ (e : Int) = 0 := by omega
    simp (config := { maxSteps := 1000000, implicitDefEqProofs := false }) (disch := omega) only [allW, allR, allL, allB, Nat.reduceLT, Nat.reduceEqDiff, ↓reduceIte, allW, allR, Nat.reduceLT, Nat.reduceEqDiff, ↓reduceIte, hn, ext20, ext21, valEq_t2, eq_false c0]
    exact hQ _ _ _ ⟨by simp only [n_put, hn], .inr ⟨rfl, e, _, hz.symm, he, by simp only [get_put, ↓reduceIte, Nat.reduceEqDiff]; rfl, by simp only [get_put, ↓reduceIte], hto.trans (kq.trans hto3)⟩⟩
  | ok xq =>
  obtain ⟨x, q⟩ := xq
  rw [hsy] at hY hz
  obtain ⟨rfl, hB3, to3⟩ := hY
  dsimp only at hz
  have hsl := sym_le hsy
  have kk3 := kq.trans to3
  have hR3 := hRq.bits hB3 to3
  have hb3 : base ≤ t3.next := by have := to3.next; omega
  have hyi : ∀ i, idOf y = some i → i ≠ jx ∧ i ≠ ic := fun i hi => by have := hyF i hi; omega
  have hy3 := ownTo hy kk3.next (fun i hi hl => kk3.get i hl (hyi i hi).1 (hyi i hi).2)
  have hc3 := thingTo hcx kk3.next (kk3.get jc hcx.lt (by omega) (by omega))
  have hS3 := hSx.to kk3
  simp (config := { maxSteps := 1000000, implicitDefEqProofs := false }) (disch := omega) only [allW, allR, allL, allB, evalAll, Nat.reduceLT, Nat.reduceEqDiff, ↓reduceIte, allW, allR, evalAll, Nat.reduceLT, Nat.reduceEqDiff, ↓reduceIte, hn, h0, h8, ext20, ext21, valEq_t2]
  refine (againP_any hL base t3 jr jx ic D P q M o hR3 hb3 hlen x y l hy3 hyi (by omega)).mono ?_
  intro v t4 hG
  cases hag : againX D x q l with
  | error e =>
    rw [hag] at hG hz
    obtain ⟨he, ⟨a, b, rfl⟩, hto4⟩ := hG
    have c0 : ¬ (e : Int) = 0 := by omega
    simp (config := { maxSteps := 1000000, implicitDefEqProofs := false }) (disch := omega) only [allW, allR, Nat.reduceLT, Nat.reduceEqDiff, ↓reduceIte, hn, ext30, ext31, ext32, eq_false c0]
    exact hQ _ _ _ ⟨by simp only [n_put, hn], .inr ⟨rfl, e, _, hz.symm, he, by simp only [get_put, ↓reduceIte, Nat.reduceEqDiff]; rfl, by simp only [get_put, ↓reduceIte], hto.trans (kk3.trans hto4)⟩⟩
  | ok a =>
  obtain ⟨xv, xn, r⟩ := a
  rw [hag] at hG hz
  obtain ⟨rfl, hR4, to4⟩ := hG
  dsimp only at hz
  have hfin := againX_fine (by omega) hl15 hag
  have hale := againX_le hag
  have kk4 := kk3.trans to4
  have hy4 := ownTo hy3 to4.next (fun i hi hl => to4.get i hl (hyi i hi).1 (hyi i hi).2)
  have hc4 := thingTo hc3 to4.next (to4.get jc hc3.lt (by omega) (by omega))
  have hS4 := hS3.to to4
  have n4 := kk4.next
  have eM : (many : Int) - ((l.length : Nat) : Int) = ((many - l.length : Nat) : Int) := by omega
  by_cases cn : many < l.length + xn
  · have d2 : ((xn : Nat) : Int) > ((many - l.length : Nat) : Int) := by omega
    rw [if_pos cn] at hz
    simp (config := { maxSteps := 1000000, implicitDefEqProofs := false }) (disch := omega) only [allW, allR, evalAll, Nat.reduceLT, Nat.reduceEqDiff, ↓reduceIte, hn, h2, h8, ext30, ext31, ext32, hy4.sees.lenA uIntsF, wrapI, eM, eq_true d2]
    exact hQ _ _ _ ⟨by simp only [n_put, hn], .inr ⟨rfl, 4, _, hz.symm, by decide, by simp only [get_put, ↓reduceIte, Nat.reduceEqDiff]; rfl, by simp only [get_put, ↓reduceIte]; rfl, hto.trans kk4⟩⟩
  have d2 : ¬ ((xn : Nat) : Int) > ((many - l.length : Nat) : Int) := by omega
  rw [if_neg cn] at hz
  simp (config := { maxSteps := 1000000, implicitDefEqProofs := false }) (disch := omega) only [allW, allR, evalAll, Nat.reduceLT, Nat.reduceEqDiff, ↓reduceIte, hn, h2, h8, ext30, ext31, ext32, hy4.sees.lenA uIntsF, wrapI, eM, eq_false d2]
  refine Comes.loopOut (fun z f t' => ∃ (i : Nat) (y : Value), z = xn - i ∧ i ≤ xn ∧ Own t' 1 y (l.length + i) (natsV (l ++ List.replicate i xv)) ∧ Fresh s1.next y ∧ Stay s1.next t4 t' ∧ f.n = 55 ∧ f.get 0 = rptr jr ∧ f.get 2 = .int .i64 (many : Nat) ∧ f.get 4 = .pointer (some ⟨jc, 0, some 18⟩) ∧ f.get 8 = y ∧ f.get 11 = .int .i64 (xv : Nat) ∧ f.get 46 = .int .i64 (xn : Nat) ∧ f.get 47 = .int .i64 (i : Nat))
    (fun z f t' => z = .exit 2 ∧ ∃ (y : Value), Own t' 1 y (l.length + xn) (natsV (l ++ List.replicate xn xv)) ∧ Fresh s1.next y ∧ Stay s1.next t4 t' ∧ f.n = 55 ∧ f.get 0 = rptr jr ∧ f.get 2 = .int .i64 (many : Nat) ∧ f.get 4 = .pointer (some ⟨jc, 0, some 18⟩) ∧ f.get 8 = y)
    ⟨0, y, rfl, by omega, by simpa using hy4, hyF, Stay.refl _ _, by simp only [n_put, hn], by simp only [get_put, ↓reduceIte, Nat.reduceEqDiff, h0], by simp only [get_put, ↓reduceIte, Nat.reduceEqDiff, h2], by simp only [get_put, ↓reduceIte, Nat.reduceEqDiff, h4], by simp only [get_put, ↓reduceIte, Nat.reduceEqDiff, h8], by simp only [get_put, ↓reduceIte, Nat.reduceEqDiff], by simp only [get_put, ↓reduceIte, Nat.reduceEqDiff], by simp only [get_put, ↓reduceIte]; rfl⟩ ?_ ?_
  · clear hn h0 h2 h4 h8 f
    rintro Q2 hQ2 z f t' ⟨i, y, rfl, hi, hy, hyF, hst, hn, h0, h2, h4, h8, h11, h46, h47⟩
    by_cases hin : i < xn
    rotate_left
    · obtain rfl : i = xn := by omega
      have d3 : ¬ ((i : Nat) : Int) < ((i : Nat) : Int) := by omega
      simp (config := { maxSteps := 1000000, implicitDefEqProofs := false }) (disch := omega) only [allW, Nat.reduceLT, ↓reduceIte, hn, h46, h47, eq_false d3]
      exact hQ2 _ _ _ ⟨rfl, y, hy, hyF, hst, by simp only [n_put, hn], by simp only [get_put, ↓reduceIte, Nat.reduceEqDiff, h0], by simp only [get_put, ↓reduceIte, Nat.reduceEqDiff, h2], by simp only [get_put, ↓reduceIte, Nat.reduceEqDiff, h4], by simp only [get_put, ↓reduceIte, Nat.reduceEqDiff, h8]⟩
    have d3 : ((i : Nat) : Int) < ((xn : Nat) : Int) := by omega
    simp (config := { maxSteps := 1000000, implicitDefEqProofs := false }) (disch := omega) only [allW, partsA, Nat.reduceLT, Nat.reduceEqDiff, ↓reduceIte, hn, h8, h11, h46, h47, eq_true d3, build1 uIntsF szInt zIntF]
    refine wstep_append_lit uIntsF szInt byIntF zIntF rfl hy (by simp only [get_put, ↓reduceIte, Nat.reduceEqDiff]) (by decide) (by simp only [n_put, hn]; decide) (by simp only [n_put, hn]; decide) (by rfl) (by decide) rfl (by omega) (by omega) hyF (by have := hst.next; omega) ?_
    intro bs y2 t6 hy2 hF2 hst2 ht2 hid2
    have e6 : natsV (l ++ List.replicate i xv) ++ [Value.int .i64 (xv : Nat)] = natsV (l ++ List.replicate (i + 1) xv) := by
      rw [List.replicate_succ', ← List.append_assoc]
      exact natsV_app _ [xv]
    rw [e6] at hy2
    simp (config := { maxSteps := 1000000, implicitDefEqProofs := false }) (disch := omega) only [allW, Nat.reduceLT, Nat.reduceEqDiff, ↓reduceIte, hn, h47, wrapI]
    exact wround_next (xn - (i + 1)) (by omega) ⟨i + 1, y2, rfl, by omega, hy2, hF2, hst.trans hst2, by simp only [n_put, hn], by simp only [get_put, ↓reduceIte, Nat.reduceEqDiff, h0], by simp only [get_put, ↓reduceIte, Nat.reduceEqDiff, h2], by simp only [get_put, ↓reduceIte, Nat.reduceEqDiff, h4], by simp only [get_put, ↓reduceIte, Nat.reduceEqDiff], by simp only [get_put, ↓reduceIte, Nat.reduceEqDiff, h11], by simp only [get_put, ↓reduceIte, Nat.reduceEqDiff, h46], by simp only [get_put, ↓reduceIte]; rfl⟩
  clear hn h0 h2 h4 h8 f
  rintro z f t' ⟨rfl, y2, hy2, hyF2, hst, hn, h0, h2, h4, h8⟩
  have hjs : jr < s1.next ∧ jx < s1.next ∧ ic < s1.next := by omega
  have stB : BTo jx ic t4 t' → True := fun _ => trivial
  have hR5 : Rs base t' jr jx ic D r P M o := by
    obtain ⟨q5, now, left, hB5, h7⟩ := hR4.bit
    have hg : ∀ i, i < s1.next → t'.heap.get i = t4.heap.get i := fun i hi => hst.get i hi
    obtain ⟨bb, c1, c2, c3, c4⟩ := hB5.c
    exact ⟨⟨q5, now, left, ⟨⟨bb, thingTo c1 hst.next (hg ic hjs.2.2), c2.stay (hst.weaken (by omega)), c3, c4⟩, thingTo hB5.t hst.next (hg jx hjs.2.1), hB5.e, hB5.l8, hB5.r, hB5.now, hB5.lx, hB5.lc, hB5.ne⟩, h7⟩, thingTo hR4.t hst.next (hg jr hjs.1), ownTo hR4.own hst.next (fun i hi _ => hg i (by have := hol i hi; omega)), hR4.fresh, hR4.nr, hR4.nx, hR4.nc, hR4.rx, hR4.rc, hR4.lr⟩
  have hto5 : BTo jx ic s t' := ⟨by have := hst.next; omega, fun i hi g1 g2 => (hst.get i (by omega)).trans ((hto.trans kk4).get i hi g1 g2)⟩
  have hS5 : Syms jx ic t' sc C := ⟨seesTo hS4.1 hst.next (fun i hi _ => hst.get i (by have := (hS.2 i hi).1; omega)), fun i hi => ⟨Nat.lt_of_lt_of_le (hS4.2 i hi).1 hst.next, (hS4.2 i hi).2⟩⟩
  simp (config := { maxSteps := 1000000, implicitDefEqProofs := false }) (disch := omega) only [allW, ↓reduceIte]
  have n5 := hst.next
  exact wround_next k (by omega) ⟨r, l ++ List.replicate xn xv, y2, hz, by omega, by rw [List.length_append, List.length_replicate]; omega, le15_rep hl15 hfin.2, by rw [List.length_append, List.length_replicate]; exact hy2, hyF2, hR5, hto5, by omega, thingTo hc4 n5 (hst.get jc (by omega)), hS5, by simp only [hn], by simp only [h0], by simp only [h2], by simp only [h4], by simp only [h8]⟩
end Go.Proofs.Ytnclklboogdoiaa
