/-
  Inflate, the program: bytes as they are, a block by its codes.
-/
import Derived.Test.YtnclklboogdoiaaNfI
set_option linter.unusedSimpArgs false
set_option linter.unusedVariables false
set_option maxRecDepth 100000
namespace Go.Cl.Nf
open Go.Cl.Fx Go.Cl.Sto
/-- A number that stands for several. -/
def gradeX (D : List UInt8) (s g from_ p : Nat) : Except Nat (Nat × Nat) :=
  if s < 2 * g then .ok (from_ + s, p) else match takeE D p (s / g - 1) with
    | .error e => .error e
    | .ok x => .ok (from_ + (g + s % g) * 2 ^ (s / g - 1) + x, p + (s / g - 1))
def lenXX (D : List UInt8) (s p : Nat) : Except Nat (Nat × Nat) := match takeE D p (lenW s) with | .error e => .error e | .ok x => .ok (lenOf s x, p + lenW s)
def dstXX (D : List UInt8) (s p : Nat) : Except Nat (Nat × Nat) := match takeE D p (dstW s) with | .error e => .error e | .ok x => .ok (dstOf s x, p + dstW s)
theorem gradeX_len (D : List UInt8) {s p : Nat} (h1 : 257 ≤ s) (h2 : s < 285) (hp : p ≤ 8 * D.length) : gradeX D (s - 257) 4 3 p = lenXX D s p := by
  unfold gradeX lenXX
  by_cases c : s ≤ 264
  · have ew : lenW s = 0 := by unfold lenW; rw [if_pos (.inl c)]
    rw [if_pos (by omega), ew, takeE_ok (by omega)]
    dsimp only
    have eo : lenOf s (bitsN D p 0) = s - 254 := by unfold lenOf; rw [if_pos c]
    rw [eo, show 3 + (s - 257) = s - 254 by omega, Nat.add_zero]
  · have ew : lenW s = (s - 261) / 4 := by unfold lenW; rw [if_neg (by omega)]
    have e1 : (s - 257) / 4 - 1 = (s - 261) / 4 := by omega
    have e2 : (s - 257) % 4 = (s - 265) % 4 := by omega
    rw [if_neg (by omega), ew, e1, e2]
    cases takeE D p ((s - 261) / 4) with
    | error e => rfl
    | ok x =>
      dsimp only
      have eo : lenOf s x = (4 + (s - 265) % 4) * 2 ^ ((s - 261) / 4) + 3 + x := by unfold lenOf; rw [if_neg c, if_neg (by omega)]
      rw [eo]
      generalize (4 + (s - 265) % 4) * 2 ^ ((s - 261) / 4) = X
      rw [show 3 + X + x = X + 3 + x by omega]
theorem gradeX_dst (D : List UInt8) {s p : Nat} (hp : p ≤ 8 * D.length) : gradeX D s 2 1 p = dstXX D s p := by
  unfold gradeX dstXX
  by_cases c : s ≤ 3
  · have ew : dstW s = 0 := by unfold dstW; rw [if_pos c]
    rw [if_pos (by omega), ew, takeE_ok (by omega)]
    dsimp only
    have eo : dstOf s (bitsN D p 0) = s + 1 := by unfold dstOf; rw [if_pos c]
    rw [eo, Nat.add_comm 1 s]; rfl
  · have ew : dstW s = s / 2 - 1 := by unfold dstW; rw [if_neg c]
    rw [if_neg (by omega), ew]
    cases takeE D p (s / 2 - 1) with
    | error e => rfl
    | ok x =>
      dsimp only
      have eo : dstOf s x = (2 + s % 2) * 2 ^ (s / 2 - 1) + 1 + x := by unfold dstOf; rw [if_neg c]
      rw [eo]
      generalize (2 + s % 2) * 2 ^ (s / 2 - 1) = X
      rw [show 1 + X + x = X + 1 + x by omega]
theorem rep_err {M back : Nat} : ∀ {n : Nat} {P : List UInt8} {e : Nat}, rep M back n P = .error e → e = 7
  | 0, P, e, h => by cases h
  | n + 1, P, e, h => by
    unfold rep at h
    split at h
    · injection h with h; exact h.symm
    · exact rep_err h
theorem copyX_eq (D : List UInt8) (M : Nat) (B : List Nat) (s p : Nat) (P : List UInt8) : copyX D M B s p P = if 285 < s then .error 4 else bindX (lenXX D s p) fun a => bindX (sym D B a.2) fun c => if 30 ≤ c.1 then .error 4 else bindX (dstXX D c.1 c.2) fun b => if P.length < b.1 then .error 4 else bindX (rep M b.1 a.1 P) fun P' => .ok (b.2, P') := by
  unfold copyX lenXX
  split
  · rfl
  cases takeE D p (lenW s) with
  | error e => rfl
  | ok x =>
    dsimp only
    rw [bindX_ok]
    dsimp only
    cases sym D B (p + lenW s) with
    | error e => rfl
    | ok c =>
      rw [bindX_ok]
      dsimp only
      split
      · rfl
      unfold dstXX
      cases takeE D c.2 (dstW c.1) with
      | error e => rfl
      | ok y =>
        dsimp only
        rw [bindX_ok]
        dsimp only
        split
        · rfl
        cases rep M (dstOf c.1 y) (lenOf s x) P with
        | error e => rfl
        | ok P' => rfl
end Go.Cl.Nf
namespace Go.Proofs.Ytnclklboogdoiaa
open Go.Cl Go.Cl.Rw Go.Cl.Sto Go.Cl.Fx Go.Cl.Nf Go.Cl.Bt
/-- A number that was read by a reader. -/
def GrdR (base jr jx ic : Nat) (D P : List UInt8) (M : Int) (o : Value) (s : ASt) (v : Value) (s' : ASt) : Except Nat (Nat × Nat) → Prop
  | .ok (x, q) => v = .tuple #[.int .i64 (x : Nat), .int .i64 0] ∧ Rs base s' jr jx ic D q P M o ∧ BTo jx ic s s'
  | .error e => 0 < e ∧ (∃ n : Int, v = .tuple #[.int .i64 n, .int .i64 (e : Nat)]) ∧ BTo jx ic s s'
set_option maxHeartbeats 8000000 in
theorem gradedP_any {lib : Prims} (hL : NoL lib) (base : Nat) (s : ASt) (jr jx ic : Nat) (D P : List UInt8) (p : Nat) (M : Int) (o : Value) (h : Rs base s jr jx ic D p P M o) (hb : base ≤ s.next) (hlen : D.length ≤ 1000000) (q g fr : Nat) (hg : (g = 4 ∧ q ≤ 27) ∨ (g = 2 ∧ q ≤ 29)) (hfr : fr ≤ 10) :
    Runs Try.prog lib 73 [rptr jr, .int .i64 (q : Nat), .int .i64 (g : Nat), .int .i64 (fr : Nat)] s fun v s' => GrdR base jr jx ic D P M o s v s' (gradeX D q g fr p) := by
  refine Runs.enter 45 Try.func73 rfl (hL _ rfl) rfl rfl ?_
  intro f hn hf
  have h0 : f.get 0 = rptr jr := hf 0
  have h1 : f.get 1 = .int .i64 (q : Nat) := hf 1
  have h2 : f.get 2 = .int .i64 (g : Nat) := hf 2
  have h3 : f.get 3 = .int .i64 (fr : Nat) := hf 3
  clear hf
  have r0 := h.t.load (P := Try.prog) agBitsQ (off := 0) (c := 4) rfl (by simp)
  unfold gradeX
  by_cases c1 : q < 2 * g
  · have d1 : (q : Int) < 2 * (g : Int) := by omega
    have e1 : (fr : Int) + (q : Int) = ((fr + q : Nat) : Int) := by omega
    rw [if_pos c1]
    simp (config := { maxSteps := 1000000, implicitDefEqProofs := false }) (disch := omega) only [allW, wfn_ret, oneOf, Nat.reduceLT, Nat.reduceEqDiff, ↓reduceIte, hn, h1, h2, h3, wrapI, eq_true d1, e1, Try.results73]
    exact ⟨rfl, h, BTo.refl _ _ _⟩
  have d1 : ¬ (q : Int) < 2 * (g : Int) := by omega
  rw [if_neg c1]
  have hgz : ¬ (g : Int) = 0 := by omega
  have q4 : (q : Int).tdiv (g : Int) = ((q / g : Nat) : Int) := by rw [Int.tdiv_eq_ediv_of_nonneg (by omega)]; rfl
  have r4 : (q : Int).tmod (g : Int) = ((q % g : Nat) : Int) := by rw [Int.tmod_eq_emod_of_nonneg (by omega)]; rfl
  have hqg : 2 ≤ q / g ∧ q / g ≤ 14 ∧ q % g ≤ 3 ∧ (g = 4 → q / g ≤ 6) := by rcases hg with ⟨rfl, h⟩ | ⟨rfl, h⟩ <;> omega
  have e2 : ((q / g : Nat) : Int) - 1 = ((q / g - 1 : Nat) : Int) := by omega
  have e3 : (g : Int) + ((q % g : Nat) : Int) = ((g + q % g : Nat) : Int) := by omega
  have hb13 : (g + q % g) * 2 ^ (q / g - 1) ≤ 100000 := by
    rcases hg with ⟨rfl, h⟩ | ⟨rfl, h⟩
    · have h1 : 2 ^ (q / 4 - 1) ≤ 2 ^ 5 := Nat.pow_le_pow_right (by omega) (by omega)
      have h2 : (4 + q % 4) * 2 ^ (q / 4 - 1) ≤ 7 * 2 ^ 5 := Nat.mul_le_mul (by omega) h1
      have h3 : (2 : Nat) ^ 5 = 32 := by decide
      omega
    · have h1 : 2 ^ (q / 2 - 1) ≤ 2 ^ 13 := Nat.pow_le_pow_right (by omega) (by omega)
      have h2 : (2 + q % 2) * 2 ^ (q / 2 - 1) ≤ 3 * 2 ^ 13 := Nat.mul_le_mul (by omega) h1
      have h3 : (2 : Nat) ^ 13 = 8192 := by decide
      omega
  have hsh := shlS Try.prog 3 .i64 (x := g + q % g) (k := q / g - 1) (by omega) (by omega)
  have hbl := bitsN_lt D p (q / g - 1)
  have hpw : 2 ^ (q / g - 1) ≤ 2 ^ 13 := Nat.pow_le_pow_right (by omega) (by omega)
  have hp13 : (2 : Nat) ^ 13 = 8192 := by decide
  generalize hX : (g + q % g) * 2 ^ (q / g - 1) = X at hb13 hsh
  simp (config := { maxSteps := 1000000, implicitDefEqProofs := false }) (disch := omega) only [allW, allR, evalAll, Nat.reduceLT, Nat.reduceEqDiff, ↓reduceIte, hn, h0, h1, h2, wrapI, eq_false d1, bin_quo, q4, e2, rfld0, r0]
  refine (number_any hL base s jx ic D p (q / g - 1) h.bit hb (by omega) hlen).mono ?_
  intro v s1 hN
  cases hx : takeE D p (q / g - 1) with
  | error e =>
    rw [hx] at hN
    obtain ⟨rfl, rfl, hto⟩ := hN
    have e4 : (fr : Int) + ((X : Nat) : Int) + 0 = ((fr + X : Nat) : Int) := by omega
    simp (config := { maxSteps := 1000000, implicitDefEqProofs := false }) (disch := omega) only [allW, wfn_ret, oneOf, Nat.reduceLT, Nat.reduceEqDiff, ↓reduceIte, hn, h1, h2, h3, ext20, ext21, bin_rem, r4, e3, wrapI, hsh, e4, Try.results73]
    exact ⟨by decide, ⟨_, rfl⟩, hto⟩
  | ok y =>
    rw [hx] at hN
    obtain ⟨rfl, hB, hto⟩ := hN
    have hy := (takeE_le hx).2
    have e4 : (fr : Int) + ((X : Nat) : Int) + ((y : Nat) : Int) = ((fr + X + y : Nat) : Int) := by omega
    simp (config := { maxSteps := 1000000, implicitDefEqProofs := false }) (disch := omega) only [allW, wfn_ret, oneOf, Nat.reduceLT, Nat.reduceEqDiff, ↓reduceIte, hn, h1, h2, h3, ext20, ext21, bin_rem, r4, e3, wrapI, hsh, e4, Try.results73]
    exact ⟨rfl, h.bits hB hto, hto⟩
set_option maxHeartbeats 8000000 in
theorem lengthP_any {lib : Prims} (hL : NoL lib) (base : Nat) (s : ASt) (jr jx ic : Nat) (D P : List UInt8) (p : Nat) (M : Int) (o : Value) (h : Rs base s jr jx ic D p P M o) (hb : base ≤ s.next) (hlen : D.length ≤ 1000000) (q : Nat) (hq : 257 ≤ q) (hq2 : q ≤ 400) :
    Runs Try.prog lib 72 [rptr jr, .int .i64 (q : Nat)] s fun v s' => GrdR base jr jx ic D P M o s v s' (if 285 < q then .error 4 else lenXX D q p) := by
  refine Runs.enter 16 Try.func72 rfl (hL _ rfl) rfl rfl ?_
  intro f hn hf
  have h0 : f.get 0 = rptr jr := hf 0
  have h1 : f.get 1 = .int .i64 (q : Nat) := hf 1
  clear hf
  have hpD := h.bit.le
  by_cases c1 : q = 285
  · have d1 : (q : Int) = 285 := by omega
    rw [if_neg (by omega)]
    have e : lenXX D q p = .ok (258, p) := by
      subst c1
      unfold lenXX
      have ew : lenW 285 = 0 := rfl
      rw [ew, takeE_ok (by omega)]; rfl
    rw [e]
    simp (config := { maxSteps := 1000000, implicitDefEqProofs := false }) (disch := omega) only [allW, wfn_ret, oneOf, Nat.reduceLT, Nat.reduceEqDiff, ↓reduceIte, hn, h1, eq_true d1, Try.results72]
    exact ⟨rfl, h, BTo.refl _ _ _⟩
  have d1 : ¬ (q : Int) = 285 := by omega
  by_cases c2 : 285 < q
  · have d2 : (q : Int) > 285 := by omega
    rw [if_pos c2]
    simp (config := { maxSteps := 1000000, implicitDefEqProofs := false }) (disch := omega) only [allW, wfn_ret, oneOf, Nat.reduceLT, Nat.reduceEqDiff, ↓reduceIte, hn, h1, eq_false d1, eq_true d2, Try.results72]
    exact ⟨by decide, ⟨_, rfl⟩, BTo.refl _ _ _⟩
  have d2 : ¬ (q : Int) > 285 := by omega
  rw [if_neg c2, ← gradeX_len D hq (by omega) hpD]
  have e1 : (q : Int) - 257 = ((q - 257 : Nat) : Int) := by omega
  simp (config := { maxSteps := 1000000, implicitDefEqProofs := false }) (disch := omega) only [allW, allR, evalAll, Nat.reduceLT, Nat.reduceEqDiff, ↓reduceIte, hn, h0, h1, eq_false d1, eq_false d2, wrapI, e1]
  refine (gradedP_any hL base s jr jx ic D P p M o h hb hlen (q - 257) 4 3 (.inl ⟨rfl, by omega⟩) (by omega)).mono ?_
  intro v s1 hG
  cases hx : gradeX D (q - 257) 4 3 p with
  | error e =>
    rw [hx] at hG
    obtain ⟨he, ⟨n, rfl⟩, hto⟩ := hG
    simp (config := { maxSteps := 1000000, implicitDefEqProofs := false }) (disch := omega) only [allW, wfn_ret, oneOf, Nat.reduceLT, Nat.reduceEqDiff, ↓reduceIte, hn, ext20, ext21, Try.results72]
    exact ⟨he, ⟨n, rfl⟩, hto⟩
  | ok y =>
    obtain ⟨y, r⟩ := y
    rw [hx] at hG
    obtain ⟨rfl, hR, hto⟩ := hG
    simp (config := { maxSteps := 1000000, implicitDefEqProofs := false }) (disch := omega) only [allW, wfn_ret, oneOf, Nat.reduceLT, Nat.reduceEqDiff, ↓reduceIte, hn, ext20, ext21, Try.results72]
    exact ⟨rfl, hR, hto⟩
/-- A code as a value, apart from the reader. -/
def CodP (jr jx ic : Nat) (o : Value) (s : ASt) (v : Value) (C : List Nat) : Prop := ∃ sv, v = .agg (codeV C sv).toArray ∧ Syms jx ic s sv C ∧ (∀ i, idOf sv = some i → i ≠ jr ∧ idOf o ≠ some i)
theorem CodP.to {jr jx ic : Nat} {o o' v : Value} {s s' : ASt} {C : List Nat} (h : CodP jr jx ic o s v C) (k : RTo jr jx ic o s o' s') : CodP jr jx ic o' s' v C := by
  obtain ⟨sv, h1, h2, h3⟩ := h
  refine ⟨sv, h1, h2.rto h3 k, fun i hi => ⟨(h3 i hi).1, ?_⟩⟩
  rcases k.id with e | ⟨q, e, hq⟩
  · rw [e]; exact (h3 i hi).2
  · rw [e]; intro e2; injection e2 with e2; have := (h2.2 i hi).1; omega
theorem valEq_t2 (k : IntKind) (a b : Int) : valEq (.tuple #[.int k a, .int k b]) (.tuple #[.int k a, .int k b]) = true := by simp [valEq, valEqM, valEq2, valEq1]
theorem spareB (s : ASt) (k : Nat) : ∀ i, i < s.next → (spare s k).heap.get i = s.heap.get i := fun i _ => rfl
set_option maxHeartbeats 8000000 in
theorem copyP_any {lib : Prims} (hL : NoL lib) (base : Nat) (s : ASt) (jr jx ic : Nat) (D P : List UInt8) (p m : Nat) (M : Int) (hM : m = M.toNat) (o : Value) (h : Rs base s jr jx ic D p P M o) (hb : base ≤ s.next) (hlen : D.length ≤ 1000000) (hPm : P.length ≤ m) (hm : m ≤ 100000000) (q : Nat) (hq : 257 ≤ q) (hq2 : q ≤ 400) (v : Value) (B : List Nat) (hB : CodP jr jx ic o s v B) (hBl : B.length ≤ 1000) :
    Runs Try.prog lib 69 [rptr jr, .int .i64 (q : Nat), v] s fun v s' => OutP base jr jx ic D M o s v s' (copyX D m B q p P) := by
  obtain ⟨sv, rfl, hS, hSo⟩ := hB
  rw [copyX_eq]
  have hlt := h.bit.lt
  refine Runs.enter 72 Try.func69 rfl (hL _ rfl) rfl rfl ?_
  intro f hn hf
  have h0 : f.get 0 = rptr jr := hf 0
  have h1 : f.get 1 = .int .i64 (q : Nat) := hf 1
  have h2 : f.get 2 = .agg (codeV B sv).toArray := hf 2
  clear hf
  simp (config := { maxSteps := 1000000, implicitDefEqProofs := false }) (disch := omega) only [allW, Nat.reduceLT, ↓reduceIte, hn, h2]
  refine wstep_newPtr ?_
  intro s1 hbx hst1 hnx1
  obtain ⟨jb, hjb⟩ : ∃ j, j = s.next := ⟨_, rfl⟩
  rw [← hjb] at hbx
  have hR1 := h.keeps hb hst1
  have hb1 : base ≤ s1.next := by omega
  have k1 : RTo jr jx ic o s o s1 := (RTo.refl jr jx ic o s).kept hst1
  have hol : ∀ i, idOf o = some i → i < s.next := fun i hi => h.own.idlt i hi
  have stayAll : ∀ o' t, RTo jr jx ic o s o' t → Stay base s t := fun o' t k => k.stay h.lr hlt.2.2.1 hlt.2.2.2.1 h.fresh hb
  simp (config := { maxSteps := 1000000, implicitDefEqProofs := false }) (disch := omega) only [allW, allR, evalAll, Nat.reduceLT, Nat.reduceEqDiff, Nat.reduceAdd, ↓reduceIte, hn, h0, h1, ← hjb, codeV_length]
  refine (lengthP_any hL base s1 jr jx ic D P p M o hR1 hb1 hlen q hq hq2).mono ?_
  intro v s2 hG
  by_cases cg : 285 < q
  · rw [if_pos cg] at hG ⊢
    obtain ⟨-, ⟨n, rfl⟩, hto⟩ := hG
    simp (config := { maxSteps := 1000000, implicitDefEqProofs := false }) (disch := omega) only [allW, allR, wfn_ret, oneOf, Nat.reduceLT, Nat.reduceEqDiff, ↓reduceIte, hn, ext20, ext21, eq_false (show ¬ ((4 : Nat) : Int) = 0 by decide), Try.results69]
    exact ⟨by decide, rfl, stayAll _ _ (k1.trans (btoR hto))⟩
  rw [if_neg cg] at hG ⊢
  cases hx : lenXX D q p with
  | error e =>
    rw [hx] at hG
    obtain ⟨he, ⟨n, rfl⟩, hto⟩ := hG
    have c0 : ¬ (e : Int) = 0 := by omega
    simp (config := { maxSteps := 1000000, implicitDefEqProofs := false }) (disch := omega) only [allW, allR, wfn_ret, oneOf, Nat.reduceLT, Nat.reduceEqDiff, ↓reduceIte, hn, ext20, ext21, eq_false c0, Try.results69]
    rw [bindX_err]
    exact ⟨he, rfl, stayAll _ _ (k1.trans (btoR hto))⟩
  | ok a =>
  obtain ⟨n, q2⟩ := a
  rw [hx] at hG
  obtain ⟨rfl, hR2, to2⟩ := hG
  rw [bindX_ok]
  dsimp only
  have hn1000 : n ≤ 1000 := by
    unfold lenXX at hx
    cases hy : takeE D p (lenW q) with
    | error e => rw [hy] at hx; cases hx
    | ok y =>
      rw [hy] at hx
      injection hx with hx
      injection hx with hx _
      have := (takeE_le hy).2
      have hbl := bitsN_lt D p (lenW q)
      rw [← hx]
      exact lenOf_le (by omega) (by omega)
  have k2 := k1.trans (btoR to2)
  have hb2 : base ≤ s2.next := by have := to2.next; omega
  have hbx2 := thingTo hbx to2.next (to2.get jb hbx.lt (by omega) (by omega))
  have hS2 := (hS.rto hSo k1).to to2
  have r0 := hR2.t.load (P := Try.prog) agBitsQ (off := 0) (c := 4) rfl (by simp)
  simp (config := { maxSteps := 1000000, implicitDefEqProofs := false }) (disch := omega) only [allW, allR, Nat.reduceLT, Nat.reduceEqDiff, ↓reduceIte, hn, ext20, ext21]
  obtain ⟨A, hA⟩ : ∃ A : Nat → Bool, A = fun j => decide (j < s2.next) := ⟨_, rfl⟩
  have hAl : ∀ j, A j = true → j < s2.next := by
    intro j h
    rw [hA] at h
    exact of_decide_eq_true h
  have hAo : ∀ j, j < s2.next → A j = true := fun j h => by rw [hA]; exact decide_eq_true h
  have hsq := Stay.spare s2 0
  have hnq : (spare s2 0).next = s2.next + 0 := spare_next _ _
  have hRq := hR2.keeps hb2 hsq
  have hbq := hbx2.keeps hsq
  have lr : ∀ k, LA.lowV A (some (.pointer (some ⟨jr, k, some 4⟩))) = true := fun k => LA.lowV_ptr (A := A) (i := jr) (hAo _ hR2.t.lt)
  have lb : ∀ k, LA.lowV A (some (.pointer (some ⟨jb, k, some 18⟩))) = true := fun k => LA.lowV_ptr (A := A) (i := jb) (hAo _ hbx2.lt)
  have r0q := hRq.t.load (P := Try.prog) agBitsQ (off := 0) (c := 4) rfl (by simp)
  have lall := hbq.loadAll (P := Try.prog) agCode (by rw [codeV_length]; exact szCode) (c := 18) (by rw [codeV_length])
  have kq : BTo jx ic s2 (spare s2 0) := ⟨by omega, fun i hi _ _ => hsq.get i hi⟩
  refine LB.Drawn.looseK A hAl 0 0 (by kernel_rfl) (by kernel_rfl) ?_
  simp (config := { maxSteps := 1000000, implicitDefEqProofs := false }) (disch := omega) only [allW, allR, allL, allB, Nat.reduceSub, evalAll, Nat.reduceLT, Nat.reduceEqDiff, ↓reduceIte, hn, h0, rfld0, r0q, lall, lr, lb, valEq_code B hS2.1]
  refine (symP_any hL base (spare s2 0) jx ic D q2 hRq.bit (by omega) hlen B sv (hS2.to kq) hBl).mono ?_
  intro v s3 hY
  refine ⟨fun h => h.elim, ?_⟩
  cases hy : sym D B q2 with
  | error e =>
    rw [hy] at hY
    obtain ⟨he, rfl, hto⟩ := hY
    have c0 : ¬ (e : Int) = 0 := by omega
    simp (config := { maxSteps := 1000000, implicitDefEqProofs := false }) (disch := omega) only [allW, allR, allL, allB, oneOf, Nat.reduceLT, Nat.reduceEqDiff, ↓reduceIte, allW, allR, wfn_ret, oneOf, Nat.reduceLT, Nat.reduceEqDiff, ↓reduceIte, hn, ext20, ext21, valEq_t2, eq_false c0, Try.results69]
    rw [bindX_err]
    exact ⟨he, rfl, stayAll _ _ (k2.trans (btoR (kq.trans hto)))⟩
  | ok c =>
  obtain ⟨c, q3⟩ := c
  rw [hy] at hY
  obtain ⟨rfl, hB3, to3⟩ := hY
  rw [bindX_ok]
  dsimp only
  have hR3 := hRq.bits hB3 to3
  have k3 := k2.trans (btoR (kq.trans to3))
  have hb3 : base ≤ s3.next := by have := to3.next; omega
  by_cases cc : 30 ≤ c
  · have d1 : ((c : Nat) : Int) ≥ 30 := by omega
    rw [if_pos cc]
    simp (config := { maxSteps := 1000000, implicitDefEqProofs := false }) (disch := omega) only [allW, allR, allL, allB, oneOf, Nat.reduceLT, Nat.reduceEqDiff, ↓reduceIte, allW, allR, wfn_ret, oneOf, Nat.reduceLT, Nat.reduceEqDiff, ↓reduceIte, hn, ext20, ext21, valEq_t2, eq_true d1, Try.results69]
    exact ⟨by decide, rfl, stayAll _ _ k3⟩
  have d1 : ¬ ((c : Nat) : Int) ≥ 30 := by omega
  rw [if_neg cc]
  simp (config := { maxSteps := 1000000, implicitDefEqProofs := false }) (disch := omega) only [allW, allR, allL, allB, evalAll, Nat.reduceLT, Nat.reduceEqDiff, ↓reduceIte, allW, allR, evalAll, Nat.reduceLT, Nat.reduceEqDiff, ↓reduceIte, hn, h0, ext20, ext21, valEq_t2, eq_false d1]
  refine (gradedP_any hL base s3 jr jx ic D P q3 M o hR3 hb3 hlen c 2 1 (.inr ⟨rfl, by omega⟩) (by omega)).mono ?_
  rw [gradeX_dst D hB3.le]
  intro v s4 hG4
  cases hz : dstXX D c q3 with
  | error e =>
    rw [hz] at hG4
    obtain ⟨he, ⟨n', rfl⟩, hto⟩ := hG4
    have c0 : ¬ (e : Int) = 0 := by omega
    simp (config := { maxSteps := 1000000, implicitDefEqProofs := false }) (disch := omega) only [allW, allR, wfn_ret, oneOf, Nat.reduceLT, Nat.reduceEqDiff, ↓reduceIte, hn, ext20, ext21, eq_false c0, Try.results69]
    rw [bindX_err]
    exact ⟨he, rfl, stayAll _ _ (k3.trans (btoR hto))⟩
  | ok b =>
  obtain ⟨d, q4⟩ := b
  rw [hz] at hG4
  obtain ⟨rfl, hR4, to4⟩ := hG4
  rw [bindX_ok]
  dsimp only
  have k4 := k3.trans (btoR to4)
  have hb4 : base ≤ s4.next := by have := to4.next; omega
  have hd1 : 1 ≤ d := by
    unfold dstXX at hz
    cases hy : takeE D q3 (dstW c) with
    | error e => rw [hy] at hz; cases hz
    | ok y =>
      rw [hy] at hz
      injection hz with hz
      injection hz with hz _
      rw [← hz]
      unfold dstOf
      split <;> omega
  have r2 := hR4.t.load (P := Try.prog) agSl (off := 2) (c := 4) rfl (by simp)
  have hlen4 := hR4.own.sees.lenA (P := Try.prog) Try.underlying22 (s2 := s4)
  by_cases cd : P.length < d
  · have d2 : ((d : Nat) : Int) > ((P.length : Nat) : Int) := by omega
    rw [if_pos cd]
    simp (config := { maxSteps := 1000000, implicitDefEqProofs := false }) (disch := omega) only [allW, allR, wfn_ret, oneOf, evalAll, Nat.reduceLT, Nat.reduceEqDiff, ↓reduceIte, hn, h0, ext20, ext21, rfld2, r2, hlen4, eq_true d2, Try.results69]
    exact ⟨by decide, rfl, stayAll _ _ k4⟩
  have d2 : ¬ ((d : Nat) : Int) > ((P.length : Nat) : Int) := by omega
  rw [if_neg cd]
  simp (config := { maxSteps := 1000000, implicitDefEqProofs := false }) (disch := omega) only [allW, allR, evalAll, Nat.reduceLT, Nat.reduceEqDiff, ↓reduceIte, hn, h0, ext20, ext21, rfld2, r2, hlen4, eq_false d2]
  refine Comes.loopOut (fun z f t => ∃ (i : Nat) (P1 : List UInt8) (o1 : Value), z = n - i ∧ i ≤ n ∧ rep m d (n - i) P1 = rep m d n P ∧ d ≤ P1.length ∧ P1.length ≤ m ∧ Rs base t jr jx ic D q4 P1 M o1 ∧ RTo jr jx ic o s o1 t ∧ base ≤ t.next ∧ f.n = 72 ∧ f.get 0 = rptr jr ∧ f.get 9 = .int .i64 (d : Nat) ∧ f.get 50 = .int .i64 (n : Nat) ∧ f.get 51 = .int .i64 (i : Nat))
    (fun z f t => f.n = 72 ∧ ((z = .exit 0 ∧ ∃ (P1 : List UInt8) (o1 : Value), rep m d n P = .ok P1 ∧ Rs base t jr jx ic D q4 P1 M o1 ∧ RTo jr jx ic o s o1 t) ∨ (z = .ret ∧ ∃ e : Nat, rep m d n P = .error e ∧ 0 < e ∧ f.get 6 = .int .i64 (e : Nat) ∧ Stay base s t)))
    ⟨0, P, o, rfl, by omega, rfl, by omega, hPm, hR4, k4, hb4, by simp only [n_put, hn], by simp only [get_put, ↓reduceIte, Nat.reduceEqDiff, h0], by simp only [get_put, ↓reduceIte, Nat.reduceEqDiff], by simp only [get_put, ↓reduceIte, Nat.reduceEqDiff], by simp only [get_put, ↓reduceIte]; rfl⟩ ?_ ?_
  rotate_left
  · clear hn h0 h1 h2 f
    rintro z f t ⟨hn, (⟨rfl, P1, o1, hrp, hR, hto⟩ | ⟨rfl, e, hrp, he, h6, hst⟩)⟩
    · simp (config := { maxSteps := 1000000, implicitDefEqProofs := false }) (disch := omega) only [allW, wfn_ret, oneOf, Nat.reduceLT, ↓reduceIte, hn, Try.results69]
      rw [hrp]
      exact ⟨rfl, o1, hR, hto⟩
    · simp (config := { maxSteps := 1000000, implicitDefEqProofs := false }) (disch := omega) only [allW, wfn_ret, oneOf, Nat.reduceLT, ↓reduceIte, hn, h6, Try.results69]
      rw [hrp]
      exact ⟨he, rfl, hst⟩
  clear hn h0 h1 h2 f r2 hlen4
  rintro Q hQ z f t ⟨i, P1, o1, rfl, hi, hrp, hdP, hP1, hR, hto, hbt, hn, h0, h9, h50, h51⟩
  by_cases hin : i < n
  rotate_left
  · obtain rfl : i = n := by omega
    have e1 : ¬ ((i : Nat) : Int) < ((i : Nat) : Int) := by omega
    rw [Nat.sub_self, rep] at hrp
    simp (config := { maxSteps := 1000000, implicitDefEqProofs := false }) (disch := omega) only [allW, Nat.reduceLT, ↓reduceIte, hn, h50, h51, eq_false e1]
    exact hQ _ _ _ ⟨by simp only [n_put, hn], .inl ⟨rfl, P1, o1, hrp.symm, hR, hto⟩⟩
  have e1 : ((i : Nat) : Int) < ((n : Nat) : Int) := by omega
  rw [show n - i = (n - (i + 1)) + 1 by omega, rep] at hrp
  simp (config := { maxSteps := 1000000, implicitDefEqProofs := false }) (disch := omega) only [allW, Nat.reduceLT, ↓reduceIte, hn, h50, h51, eq_true e1]
  obtain ⟨A2, hA2⟩ : ∃ A : Nat → Bool, A = fun j => decide (j < t.next) := ⟨_, rfl⟩
  have hAl2 : ∀ j, A2 j = true → j < t.next := by
    intro j h
    rw [hA2] at h
    exact of_decide_eq_true h
  have hAo2 : ∀ j, j < t.next → A2 j = true := fun j h => by rw [hA2]; exact decide_eq_true h
  refine LB.Drawn.looseK A2 hAl2 0 0 (by kernel_rfl) (by kernel_rfl) ?_
  have hsq := Stay.spare t 0
  have hnq : (spare t 0).next = t.next + 0 := spare_next _ _
  have kq : RTo jr jx ic o1 t o1 (spare t 0) := ⟨by omega, fun i hi _ _ _ _ => hsq.get i hi, .inl rfl⟩
  have lr : ∀ k, LA.lowV A2 (some (.pointer (some ⟨jr, k, some 4⟩))) = true := fun k => LA.lowV_ptr (A := A2) (i := jr) (hAo2 _ hR.t.lt)
  have lE := fun k => LA.lowV_elemOld hR.own.sees hAo2 (k := k)
  have lL := LA.lowL_sees hR.own.sees
  have hRq := hR.keeps hbt hsq
  have r2 := hRq.t.load (P := Try.prog) agSl (off := 2) (c := 4) rfl (by simp)
  have hlen5 := hRq.own.sees.lenA (P := Try.prog) Try.underlying22 (s2 := spare t 0)
  have hix : P1.length - d < P1.length := by omega
  have hi1 := hRq.own.sees.indexAddr (P := Try.prog) (k := .i64) (x := ((P1.length - d : Nat) : Int)) Try.underlying22 szU8 (by omega) (by omega)
  rw [Int.toNat_natCast] at hi1
  have k1 := hRq.own.sees.load1 (P := Try.prog) agU8 hix
  rw [ofBytes_getD hix] at k1
  have e2 : ((P1.length : Nat) : Int) - (d : Int) = ((P1.length - d : Nat) : Int) := by omega
  simp (config := { maxSteps := 1000000, implicitDefEqProofs := false }) (disch := omega) only [allW, allR, allL, allB, Nat.reduceSub, evalAll, Nat.reduceLT, Nat.reduceEqDiff, ↓reduceIte, hn, h0, h9, rfld2, r2, lr, lE, lL, hlen5, hR.own.self, wrapI, e2, hi1, k1]
  refine (putP_any hL base (spare t 0) jr jx ic D P1 q4 m M hM (P1.getD (P1.length - d) 0) o1 hRq (by omega) (by omega)).mono ?_
  intro v t6 hO
  refine ⟨fun h => h.elim, ?_⟩
  by_cases cm : m ≤ P1.length
  · rw [if_pos cm] at hO hrp
    obtain ⟨-, rfl, hst6⟩ := hO
    simp (config := { maxSteps := 1000000, implicitDefEqProofs := false }) (disch := omega) only [allW, allR, Nat.reduceLT, Nat.reduceEqDiff, ↓reduceIte, allW, allR, Nat.reduceLT, Nat.reduceEqDiff, ↓reduceIte, hn, eq_false (show ¬ ((7 : Nat) : Int) = 0 by decide)]
    exact hQ _ _ _ ⟨by simp only [n_put, hn], .inr ⟨rfl, 7, hrp.symm, by decide, by simp only [get_put, ↓reduceIte], (stayAll _ _ (hto.trans kq)).trans hst6⟩⟩
  rw [if_neg cm] at hO hrp
  obtain ⟨rfl, o6, hR6, to6⟩ := hO
  simp (config := { maxSteps := 1000000, implicitDefEqProofs := false }) (disch := omega) only [allW, allR, Nat.reduceLT, Nat.reduceEqDiff, ↓reduceIte, allW, allR, Nat.reduceLT, Nat.reduceEqDiff, ↓reduceIte, hn, h51, wrapI]
  have n6 := to6.next
  exact wround_next (n - (i + 1)) (by omega) ⟨i + 1, _, o6, rfl, by omega, hrp, by rw [List.length_append]; omega, by rw [List.length_append, List.length_singleton]; omega, hR6, hto.trans (kq.trans to6), by omega, by simp only [n_put, hn], by simp only [get_put, ↓reduceIte, Nat.reduceEqDiff, h0], by simp only [get_put, ↓reduceIte, Nat.reduceEqDiff, h9], by simp only [get_put, ↓reduceIte, Nat.reduceEqDiff, h50], by simp only [get_put, ↓reduceIte]; rfl⟩
end Go.Proofs.Ytnclklboogdoiaa
