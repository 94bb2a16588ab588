/-
  Inflate, the program: a block by its codes, bytes as they are.
-/
import Derived.Test.YtnclklboogdoiaaNfJ
set_option linter.unusedSimpArgs false
set_option linter.unusedVariables false
set_option maxRecDepth 100000
namespace Go.Proofs.Ytnclklboogdoiaa
open Go.Cl Go.Cl.Rw Go.Cl.Sto Go.Cl.Fx Go.Cl.Nf Go.Cl.Bt
/-- A code that was put behind a pointer, apart from the reader. -/
def CodB (jr jx ic : Nat) (o : Value) (s : ASt) (j : Nat) (C : List Nat) : Prop := ∃ sv, Thing s j (codeV C sv) ∧ Syms jx ic s sv C ∧ (∀ i, idOf sv = some i → i ≠ jr ∧ idOf o ≠ some i) ∧ j ≠ jr ∧ j ≠ jx ∧ j ≠ ic ∧ idOf o ≠ some j
theorem CodB.to {jr jx ic j : Nat} {o o' : Value} {s s' : ASt} {C : List Nat} (h : CodB jr jx ic o s j C) (k : RTo jr jx ic o s o' s') : CodB jr jx ic o' s' j C := by
  obtain ⟨sv, h1, h2, h3, h4, h5, h6, h7⟩ := h
  have key : ∀ i, i < s.next → idOf o ≠ some i → idOf o' ≠ some i := fun i hi hne => by
    rcases k.id with e | ⟨q, e, hq⟩
    · rw [e]; exact hne
    · rw [e]; intro e2; injection e2 with e2; omega
  exact ⟨sv, thingTo h1 k.next (k.get j h1.lt h4 h5 h6 h7), h2.rto h3 k, fun i hi => ⟨(h3 i hi).1, key i (h2.2 i hi).1 (h3 i hi).2⟩, h4, h5, h6, key j h1.lt h7⟩
set_option maxHeartbeats 8000000 in
theorem codedP_any {lib : Prims} (hL : NoL lib) (base : Nat) (s : ASt) (jr jx ic : Nat) (D P0 : List UInt8) (p0 m N : Nat) (M : Int) (hM : m = M.toNat) (o : Value) (h : Rs base s jr jx ic D p0 P0 M o) (hb : base ≤ s.next) (hlen : D.length ≤ 1000000) (hPm : P0.length ≤ m) (hm : m ≤ 100000000) (hN : 8 * D.length < N) (va vb : Value) (A B : List Nat) (hA : CodP jr jx ic o s va A) (hB : CodP jr jx ic o s vb B) (hAl : A.length ≤ 300) (hBl : B.length ≤ 1000) :
    Runs Try.prog lib 55 [rptr jr, va, vb] s fun v s' => OutP base jr jx ic D M o s v s' (codedX D m A B N p0 P0) := by
  obtain ⟨sa, rfl, hSa, hSao⟩ := hA
  obtain ⟨sb, rfl, hSb, hSbo⟩ := hB
  have hlt := h.bit.lt
  have hjrl := h.t.lt
  have hol : ∀ i, idOf o = some i → i < s.next := fun i hi => h.own.idlt i hi
  refine Runs.enter 39 Try.func55 rfl (hL _ rfl) rfl rfl ?_
  intro f hn hf
  have h0 : f.get 0 = rptr jr := hf 0
  have h1 : f.get 1 = .agg (codeV A sa).toArray := hf 1
  have h2 : f.get 2 = .agg (codeV B sb).toArray := hf 2
  clear hf
  simp (config := { maxSteps := 1000000, implicitDefEqProofs := false }) (disch := omega) only [allW, Nat.reduceLT, ↓reduceIte, hn, h1]
  refine wstep_newPtr ?_
  intro s1 hc1 hst1 hnx1
  obtain ⟨ja, hja⟩ : ∃ j, j = s.next := ⟨_, rfl⟩
  rw [← hja] at hc1
  simp (config := { maxSteps := 1000000, implicitDefEqProofs := false }) (disch := omega) only [allW, Nat.reduceLT, Nat.reduceEqDiff, Nat.reduceAdd, ↓reduceIte, hn, h2, ← hja, codeV_length]
  refine wstep_newPtr ?_
  intro s2 hd2 hst2 hnx2
  obtain ⟨jb, hjb⟩ : ∃ j, j = s1.next := ⟨_, rfl⟩
  rw [← hjb] at hd2
  have hst12 : Stay s.next s s2 := hst1.trans (hst2.weaken (by omega))
  have k2 : RTo jr jx ic o s o s2 := (RTo.refl jr jx ic o s).kept hst12
  have hR2 := h.keeps hb hst12
  have cA : CodB jr jx ic o s2 ja A := ⟨sa, hc1.keeps hst2, hSa.rto hSao k2, hSao, by omega, by omega, by omega, fun e => by have := hol _ e; omega⟩
  have cB : CodB jr jx ic o s2 jb B := ⟨sb, hd2, hSb.rto hSbo k2, hSbo, by omega, by omega, by omega, fun e => by have := hol _ e; omega⟩
  obtain ⟨R, hR⟩ : ∃ R, R = codedX D m A B N p0 P0 := ⟨_, rfl⟩
  rw [← hR]
  have stayAll : ∀ o' t, RTo jr jx ic o s o' t → Stay base s t := fun o' t k => k.stay h.lr hlt.2.2.1 hlt.2.2.2.1 h.fresh hb
  simp (config := { maxSteps := 1000000, implicitDefEqProofs := false }) (disch := omega) only [allW, Nat.reduceLT, Nat.reduceAdd, ↓reduceIte, hn, ← hjb, codeV_length]
  refine Comes.loopOut (fun z f t => ∃ (p : Nat) (P : List UInt8) (o1 : Value), codedX D m A B z p P = R ∧ 8 * D.length < p + z ∧ P.length ≤ m ∧ Rs base t jr jx ic D p P M o1 ∧ RTo jr jx ic o s o1 t ∧ CodB jr jx ic o1 t ja A ∧ CodB jr jx ic o1 t jb B ∧ base ≤ t.next ∧ f.n = 39 ∧ f.get 0 = rptr jr ∧ f.get 4 = .pointer (some ⟨ja, 0, some 18⟩) ∧ f.get 5 = .pointer (some ⟨jb, 0, some 18⟩))
    (fun z f t => z = .ret ∧ f.n = 39 ∧ ∃ v, f.get 6 = v ∧ OutP base jr jx ic D M o s v t R)
    ⟨p0, P0, o, hR.symm, by omega, hPm, hR2, k2, cA, cB, by omega, by simp only [n_put, hn], by simp only [get_put, ↓reduceIte, Nat.reduceEqDiff, h0], by simp only [get_put, ↓reduceIte, Nat.reduceEqDiff], by simp only [get_put, ↓reduceIte, Nat.reduceEqDiff]⟩ ?_ ?_
  rotate_left
  · clear hn h0 h1 h2 f
    rintro z f t ⟨rfl, hn, v, h6, hO⟩
    simp (config := { maxSteps := 1000000, implicitDefEqProofs := false }) (disch := omega) only [allW, wfn_ret, oneOf, Nat.reduceLT, ↓reduceIte, hn, h6, Try.results55]
    exact hO
  clear hn h0 h1 h2 f cA cB hR2 hc1 hd2 k2
  rintro Q hQ z f t ⟨p, P, o1, hz, hpz, hPm, hRs, hto, cA, cB, hbt, hn, h0, h4, h5⟩
  have hpD := hRs.bit.le
  obtain ⟨k, rfl⟩ : ∃ k, z = k + 1 := ⟨z - 1, by omega⟩
  rw [codedX] at hz
  have cA0 := cA
  obtain ⟨xa, hca, hxa, hxao, -, -, -, -⟩ := cA0
  simp (config := { maxSteps := 1000000, implicitDefEqProofs := false }) (disch := omega) only [allW]
  obtain ⟨A2, hA2⟩ : ∃ A : Nat → Bool, A = fun j => decide (j < t.next) := ⟨_, rfl⟩
  have hAl2 : ∀ j, A2 j = true → j < t.next := by
    intro j h
    rw [hA2] at h
    exact of_decide_eq_true h
  have hAo2 : ∀ j, j < t.next → A2 j = true := fun j h => by rw [hA2]; exact decide_eq_true h
  have hsq := Stay.spare t 0
  have hnq : (spare t 0).next = t.next + 0 := spare_next _ _
  have hRq := hRs.keeps hbt hsq
  have hcq := hca.keeps hsq
  have kq : BTo jx ic t (spare t 0) := ⟨by omega, fun i hi _ _ => hsq.get i hi⟩
  have lr : ∀ k, LA.lowV A2 (some (.pointer (some ⟨jr, k, some 4⟩))) = true := fun k => LA.lowV_ptr (A := A2) (i := jr) (hAo2 _ hRs.t.lt)
  have lb : ∀ k, LA.lowV A2 (some (.pointer (some ⟨ja, k, some 18⟩))) = true := fun k => LA.lowV_ptr (A := A2) (i := ja) (hAo2 _ hca.lt)
  have r0q := hRq.t.load (P := Try.prog) agBitsQ (off := 0) (c := 4) rfl (by simp)
  have lall := hcq.loadAll (P := Try.prog) agCode (by rw [codeV_length]; exact szCode) (c := 18) (by rw [codeV_length])
  refine LB.Drawn.looseK A2 hAl2 0 0 (by kernel_rfl) (by kernel_rfl) ?_
  simp (config := { maxSteps := 1000000, implicitDefEqProofs := false }) (disch := omega) only [allW, allR, allL, allB, Nat.reduceSub, evalAll, Nat.reduceLT, Nat.reduceEqDiff, ↓reduceIte, hn, h0, h4, rfld0, r0q, lall, lr, lb, valEq_code A hxa.1]
  refine (symP_any hL base (spare t 0) jx ic D p hRq.bit (by omega) hlen A xa (hxa.to kq) (by omega)).mono ?_
  intro v t3 hY
  refine ⟨fun h => h.elim, ?_⟩
  cases hy : sym D A p with
  | error e =>
    rw [hy] at hY hz
    obtain ⟨he, rfl, hto3⟩ := hY
    have c0 : ¬ (e : Int) = 0 := by omega
    simp (config := { maxSteps := 1000000, implicitDefEqProofs := false }) (disch := omega) only [allW, allR, allL, allB, Nat.reduceLT, Nat.reduceEqDiff, ↓reduceIte, allW, allR, Nat.reduceLT, Nat.reduceEqDiff, ↓reduceIte, hn, ext20, ext21, valEq_t2, eq_false c0]
    exact hQ _ _ _ ⟨rfl, by simp only [n_put, hn], _, by simp only [get_put, ↓reduceIte]; rfl, by rw [← hz]; exact ⟨he, rfl, stayAll _ _ (hto.trans (btoR (kq.trans hto3)))⟩⟩
  | ok y =>
  obtain ⟨x, q⟩ := y
  rw [hy] at hY hz
  obtain ⟨rfl, hB3, to3⟩ := hY
  have hsl := sym_le hy
  have hR3 := hRq.bits hB3 to3
  have kk3 : RTo jr jx ic o1 t o1 t3 := btoR (kq.trans to3)
  have k3 := hto.trans kk3
  have hb3 : base ≤ t3.next := by have := to3.next; omega
  dsimp only at hz
  by_cases cx : x = 256
  · have d1 : ((x : Nat) : Int) = 256 := by omega
    rw [if_pos cx] at hz
    simp (config := { maxSteps := 1000000, implicitDefEqProofs := false }) (disch := omega) only [allW, allR, allL, allB, Nat.reduceLT, Nat.reduceEqDiff, ↓reduceIte, allW, allR, Nat.reduceLT, Nat.reduceEqDiff, ↓reduceIte, hn, ext20, ext21, valEq_t2, eq_true d1]
    exact hQ _ _ _ ⟨rfl, by simp only [n_put, hn], _, by simp only [get_put, ↓reduceIte]; rfl, by rw [← hz]; exact ⟨rfl, o1, hR3, k3⟩⟩
  have d1 : ¬ ((x : Nat) : Int) = 256 := by omega
  rw [if_neg cx] at hz
  by_cases cl : x < 256
  · have d2 : ((x : Nat) : Int) < 256 := by omega
    rw [if_pos cl] at hz
    simp (config := { maxSteps := 1000000, implicitDefEqProofs := false }) (disch := omega) only [allW, allR, allL, allB, evalAll, Nat.reduceLT, Nat.reduceEqDiff, ↓reduceIte, allW, allR, evalAll, Nat.reduceLT, Nat.reduceEqDiff, ↓reduceIte, hn, h0, ext20, ext21, valEq_t2, eq_false d1, eq_true d2, conv_int Try.underlying3 Try.underlying5, b0]
    refine (putP_any hL base t3 jr jx ic D P q m M hM (UInt8.ofNat x) o1 hR3 hb3 (by omega)).mono ?_
    intro v t4 hO
    by_cases cm : m ≤ P.length
    · rw [if_pos cm] at hO hz
      obtain ⟨-, rfl, hst6⟩ := hO
      simp (config := { maxSteps := 1000000, implicitDefEqProofs := false }) (disch := omega) only [allW, allR, Nat.reduceLT, Nat.reduceEqDiff, ↓reduceIte, hn, eq_false (show ¬ ((7 : Nat) : Int) = 0 by decide)]
      exact hQ _ _ _ ⟨rfl, by simp only [n_put, hn], _, by simp only [get_put, ↓reduceIte]; rfl, by rw [← hz]; exact ⟨by decide, rfl, (stayAll _ _ k3).trans hst6⟩⟩
    rw [if_neg cm] at hO hz
    obtain ⟨rfl, o6, hR6, to6⟩ := hO
    have kk := kk3.trans to6
    simp (config := { maxSteps := 1000000, implicitDefEqProofs := false }) (disch := omega) only [allW, allR, Nat.reduceLT, ↓reduceIte, hn]
    have n6 := to6.next
    exact wround_next k (by omega) ⟨q, _, o6, hz, by omega, by rw [List.length_append, List.length_singleton]; omega, hR6, hto.trans kk, cA.to kk, cB.to kk, by omega, by simp only [n_put, hn], by simp only [get_put, ↓reduceIte, Nat.reduceEqDiff, h0], by simp only [get_put, ↓reduceIte, Nat.reduceEqDiff, h4], by simp only [get_put, ↓reduceIte, Nat.reduceEqDiff, h5]⟩
  have d2 : ¬ ((x : Nat) : Int) < 256 := by omega
  rw [if_neg cl] at hz
  have cB3 := cB.to kk3
  obtain ⟨xb, hcb, hxb, hxbo, -, -, -, -⟩ := id cB3
  have lallb := hcb.loadAll (P := Try.prog) agCode (by rw [codeV_length]; exact szCode) (c := 18) (by rw [codeV_length])
  simp (config := { maxSteps := 1000000, implicitDefEqProofs := false }) (disch := omega) only [allW, allR, allL, allB, evalAll, Nat.reduceLT, Nat.reduceEqDiff, ↓reduceIte, allW, allR, evalAll, Nat.reduceLT, Nat.reduceEqDiff, ↓reduceIte, hn, h0, h5, ext20, ext21, valEq_t2, eq_false d1, eq_false d2, lallb]
  refine (copyP_any hL base t3 jr jx ic D P q m M hM o1 hR3 hb3 hlen hPm hm x (by omega) (by omega) _ B ⟨xb, rfl, hxb, hxbo⟩ hBl).mono ?_
  intro v t4 hO
  cases hcx : copyX D m B x q P with
  | error e =>
    rw [hcx] at hO hz
    obtain ⟨he, rfl, hst6⟩ := hO
    have c0 : ¬ (e : Int) = 0 := by omega
    simp (config := { maxSteps := 1000000, implicitDefEqProofs := false }) (disch := omega) only [allW, allR, Nat.reduceLT, Nat.reduceEqDiff, ↓reduceIte, hn, eq_false c0]
    exact hQ _ _ _ ⟨rfl, by simp only [n_put, hn], _, by simp only [get_put, ↓reduceIte]; rfl, by rw [← hz]; exact ⟨he, rfl, (stayAll _ _ k3).trans hst6⟩⟩
  | ok y =>
    obtain ⟨r, P'⟩ := y
    rw [hcx] at hO hz
    obtain ⟨rfl, o6, hR6, to6⟩ := hO
    have kk := kk3.trans to6
    have hcl := copyX_le hcx hPm
    simp (config := { maxSteps := 1000000, implicitDefEqProofs := false }) (disch := omega) only [allW, allR, Nat.reduceLT, ↓reduceIte, hn]
    have n6 := to6.next
    exact wround_next k (by omega) ⟨r, P', o6, hz, by omega, hcl.2.2, hR6, hto.trans kk, cA.to kk, cB.to kk, by omega, by simp only [n_put, hn], by simp only [get_put, ↓reduceIte, Nat.reduceEqDiff, h0], by simp only [get_put, ↓reduceIte, Nat.reduceEqDiff, h4], by simp only [get_put, ↓reduceIte, Nat.reduceEqDiff, h5]⟩
theorem xor16b {n k : Nat} (hn : n < 65536) (hk : k < 65536) : (IntKind.i64.wrap (((BitVec.ofInt IntKind.i64.bits (n : Int) ^^^ BitVec.ofInt IntKind.i64.bits (k : Int)).toNat : Nat) : Int) = 65535) = (n + k = 65535) := by
  have e1 : IntKind.i64.bits = 64 := rfl
  rw [e1]
  have hx : (BitVec.ofInt 64 (n : Int) ^^^ BitVec.ofInt 64 (k : Int)).toNat = n ^^^ k := by
    rw [BitVec.toNat_xor, BitVec.ofInt_natCast, BitVec.ofInt_natCast, BitVec.toNat_ofNat, BitVec.toNat_ofNat, Nat.mod_eq_of_lt (by omega), Nat.mod_eq_of_lt (by omega)]
  have hlt : n ^^^ k < 65536 := Nat.xor_lt_two_pow (n := 16) hn hk
  rw [hx, wrapI (by omega)]
  have key : (65535 ^^^ k) = 65535 - k := by
    have := xor16 (m := k) hk
    rw [e1, wrapI (by
      rw [BitVec.toNat_xor, BitVec.ofInt_natCast]
      have e2 : (BitVec.ofInt 64 65535) = BitVec.ofNat 64 65535 := rfl
      rw [e2, BitVec.toNat_ofNat, BitVec.toNat_ofNat, Nat.mod_eq_of_lt (by omega), Nat.mod_eq_of_lt (by omega)]
      have : k ^^^ 65535 < 2 ^ 16 := Nat.xor_lt_two_pow (n := 16) hk (by omega)
      have : (2 : Nat) ^ 16 = 65536 := by decide
      omega)] at this
    rw [BitVec.toNat_xor, BitVec.ofInt_natCast] at this
    have e2 : (BitVec.ofInt 64 65535) = BitVec.ofNat 64 65535 := rfl
    rw [e2, BitVec.toNat_ofNat, BitVec.toNat_ofNat, Nat.mod_eq_of_lt (by omega), Nat.mod_eq_of_lt (by omega)] at this
    rw [Nat.xor_comm]
    omega
  refine propext ⟨fun h => ?_, fun h => ?_⟩
  · have h : n ^^^ k = 65535 := by omega
    have : n = 65535 ^^^ k := by rw [← h, Nat.xor_assoc, Nat.xor_self, Nat.xor_zero]
    omega
  · have : n = 65535 ^^^ k := by omega
    rw [this, Nat.xor_assoc, Nat.xor_self, Nat.xor_zero]; rfl
theorem alignB {base : Nat} {s : ASt} {jx ic : Nat} {D : List UInt8} {a : Nat} (h : BitIs base s jx ic D (8 * a)) : ∃ now, BtAt base s jx ic D (8 * a) a now 0 := by
  obtain ⟨q, now, left, h, h7⟩ := h
  have he := h.e
  obtain rfl : left = 0 := by omega
  obtain rfl : q = a := by omega
  exact ⟨now, h⟩
set_option maxHeartbeats 8000000 in
theorem storedP_any {lib : Prims} (hL : NoL lib) (base : Nat) (s : ASt) (jr jx ic : Nat) (D P : List UInt8) (p m : Nat) (M : Int) (hM : m = M.toNat) (o : Value) (h : Rs base s jr jx ic D p P M o) (hb : base ≤ s.next) (hlen : D.length ≤ 1000000) (hPm : P.length ≤ m) (hm : m ≤ 100000000) :
    Runs Try.prog lib 53 [rptr jr] s fun v s' => OutP base jr jx ic D M o s v s' (storedX D m p P) := by
  obtain ⟨a, ha⟩ : ∃ a, a = (p + 7) / 8 := ⟨_, rfl⟩
  have hpD := h.bit.le
  have hlt := h.bit.lt
  have stayAll : ∀ o' t, RTo jr jx ic o s o' t → Stay base s t := fun o' t k => k.stay h.lr hlt.2.2.1 hlt.2.2.2.1 h.fresh hb
  refine Runs.enter 60 Try.func53 rfl (hL _ rfl) rfl rfl ?_
  intro f hn hf
  have h0 : f.get 0 = rptr jr := hf 0
  clear hf
  have r0 := h.t.load (P := Try.prog) agBitsQ (off := 0) (c := 4) rfl (by simp)
  simp (config := { maxSteps := 1000000, implicitDefEqProofs := false }) (disch := omega) only [allW, allR, evalAll, Nat.reduceLT, Nat.reduceEqDiff, ↓reduceIte, hn, h0, rfld0, r0]
  refine (align_any (hL _ rfl) base s jx ic D p h.bit hb).mono ?_
  rintro _ s1 ⟨hB1, to1⟩
  rw [← ha] at hB1
  have hR1 := h.bits hB1 to1
  have hb1 : base ≤ s1.next := by have := to1.next; omega
  have r0 := hR1.t.load (P := Try.prog) agBitsQ (off := 0) (c := 4) rfl (by simp)
  unfold storedX
  rw [← ha]
  simp (config := { maxSteps := 1000000, implicitDefEqProofs := false }) (disch := omega) only [allW, allR, evalAll, Nat.reduceLT, Nat.reduceEqDiff, ↓reduceIte, hn, h0, rfld0, r0]
  refine (number_any hL base s1 jx ic D (8 * a) 16 hB1 hb1 (by omega) hlen).mono ?_
  intro v s2 hN
  by_cases c1 : 8 * a + 16 ≤ 8 * D.length
  rotate_left
  · rw [takeE_no c1] at hN
    obtain ⟨-, rfl, hto⟩ := hN
    rw [if_neg (show ¬ 8 * a + 32 ≤ 8 * D.length by omega)]
    simp (config := { maxSteps := 1000000, implicitDefEqProofs := false }) (disch := omega) only [allW, allR, wfn_ret, oneOf, Nat.reduceLT, Nat.reduceEqDiff, ↓reduceIte, hn, ext20, ext21, eq_false (show ¬ (2 : Int) = 0 by decide), Try.results53]
    exact ⟨by decide, rfl, stayAll _ _ (btoR (to1.trans hto))⟩
  rw [takeE_ok c1] at hN
  obtain ⟨rfl, hB2, to2⟩ := hN
  have hR2 := hR1.bits hB2 to2
  have to2 := to1.trans to2
  have hb2 : base ≤ s2.next := by have := to2.next; omega
  have r0 := hR2.t.load (P := Try.prog) agBitsQ (off := 0) (c := 4) rfl (by simp)
  have hnl := bitsN_lt D (8 * a) 16
  obtain ⟨n, hnn⟩ : ∃ n, n = bitsN D (8 * a) 16 := ⟨_, rfl⟩
  rw [← hnn] at hnl ⊢
  have hp16 : (2 : Nat) ^ 16 = 65536 := by decide
  simp (config := { maxSteps := 1000000, implicitDefEqProofs := false }) (disch := omega) only [allW, allR, evalAll, Nat.reduceLT, Nat.reduceEqDiff, ↓reduceIte, hn, h0, ext20, ext21, rfld0, r0]
  refine (number_any hL base s2 jx ic D (8 * a + 16) 16 hB2 hb2 (by omega) hlen).mono ?_
  intro v s3 hN
  by_cases c2 : 8 * a + 16 + 16 ≤ 8 * D.length
  rotate_left
  · rw [takeE_no c2] at hN
    obtain ⟨-, rfl, hto⟩ := hN
    rw [if_neg (show ¬ 8 * a + 32 ≤ 8 * D.length by omega)]
    simp (config := { maxSteps := 1000000, implicitDefEqProofs := false }) (disch := omega) only [allW, allR, wfn_ret, oneOf, Nat.reduceLT, Nat.reduceEqDiff, ↓reduceIte, hn, ext20, ext21, eq_false (show ¬ (2 : Int) = 0 by decide), Try.results53]
    exact ⟨by decide, rfl, stayAll _ _ (btoR (to2.trans hto))⟩
  rw [takeE_ok c2] at hN
  obtain ⟨rfl, hB3, to3⟩ := hN
  have hR3 := hR2.bits hB3 to3
  have to3 := to2.trans to3
  have hb3 : base ≤ s3.next := by have := to3.next; omega
  have hkl := bitsN_lt D (8 * a + 16) 16
  obtain ⟨k, hkk⟩ : ∃ k, k = bitsN D (8 * a + 16) 16 := ⟨_, rfl⟩
  rw [← hkk] at hkl ⊢
  rw [if_pos (show 8 * a + 32 ≤ 8 * D.length by omega)]
  have hx := xor16b (n := n) (k := k) (by omega) (by omega)
  by_cases cx : n + k = 65535
  rotate_left
  · rw [if_neg cx]
    have hx : (IntKind.i64.wrap (((BitVec.ofInt IntKind.i64.bits (n : Int) ^^^ BitVec.ofInt IntKind.i64.bits (k : Int)).toNat : Nat) : Int) = 65535) = False := by rw [hx]; exact eq_false cx
    simp (config := { maxSteps := 1000000, implicitDefEqProofs := false }) (disch := omega) only [allW, allR, wfn_ret, oneOf, Nat.reduceLT, Nat.reduceEqDiff, ↓reduceIte, hn, ext20, ext21, bin_xor, hx, Try.results53]
    exact ⟨by decide, rfl, stayAll _ _ (btoR to3)⟩
  rw [if_pos cx]
  have hx : (IntKind.i64.wrap (((BitVec.ofInt IntKind.i64.bits (n : Int) ^^^ BitVec.ofInt IntKind.i64.bits (k : Int)).toNat : Nat) : Int) = 65535) = True := by rw [hx]; exact eq_true cx
  rw [show 8 * a + 16 + 16 = 8 * (a + 4) by omega] at hR3
  simp (config := { maxSteps := 1000000, implicitDefEqProofs := false }) (disch := omega) only [allW, allR, Nat.reduceLT, Nat.reduceEqDiff, ↓reduceIte, hn, ext20, ext21, bin_xor, hx]
  refine Comes.loopOut (fun z f t => ∃ (i : Nat) (P1 : List UInt8) (o1 : Value), z = n - i ∧ i ≤ n ∧ stoF D m (n - i) (a + 4 + i) P1 = stoF D m n (a + 4) P ∧ P1.length ≤ m ∧ Rs base t jr jx ic D (8 * (a + 4 + i)) P1 M o1 ∧ RTo jr jx ic o s o1 t ∧ base ≤ t.next ∧ f.n = 60 ∧ f.get 0 = rptr jr ∧ f.get 39 = .int .i64 (n : Nat) ∧ f.get 40 = .int .i64 (i : Nat))
    (fun z f t => f.n = 60 ∧ ((z = .exit 0 ∧ ∃ (q : Nat) (P1 : List UInt8) (o1 : Value), stoF D m n (a + 4) P = .ok (q, P1) ∧ Rs base t jr jx ic D q P1 M o1 ∧ RTo jr jx ic o s o1 t) ∨ (z = .ret ∧ ∃ e : Nat, stoF D m n (a + 4) P = .error e ∧ 0 < e ∧ f.get 2 = .int .i64 (e : Nat) ∧ Stay base s t)))
    ⟨0, P, o, rfl, by omega, rfl, hPm, hR3, btoR to3, hb3, by simp only [n_put, hn], by simp only [get_put, ↓reduceIte, Nat.reduceEqDiff, h0], by simp only [get_put, ↓reduceIte, Nat.reduceEqDiff], by simp only [get_put, ↓reduceIte]; rfl⟩ ?_ ?_
  rotate_left
  · clear hn h0 f
    rintro z f t ⟨hn, (⟨rfl, q, P1, o1, hrp, hR, hto⟩ | ⟨rfl, e, hrp, he, h2, hst⟩)⟩
    · simp (config := { maxSteps := 1000000, implicitDefEqProofs := false }) (disch := omega) only [allW, wfn_ret, oneOf, Nat.reduceLT, ↓reduceIte, hn, Try.results53]
      rw [hrp]
      exact ⟨rfl, o1, hR, hto⟩
    · simp (config := { maxSteps := 1000000, implicitDefEqProofs := false }) (disch := omega) only [allW, wfn_ret, oneOf, Nat.reduceLT, ↓reduceIte, hn, h2, Try.results53]
      rw [hrp]
      exact ⟨he, rfl, hst⟩
  clear hn h0 f r0 hR1 hR2 hR3 hB1 hB2 hB3 to1 to2 to3
  rintro Q hQ z f t ⟨i, P1, o1, rfl, hi, hst, hP1, hR, hto, hbt, hn, h0, h39, h40⟩
  by_cases hin : i < n
  rotate_left
  · obtain rfl : i = n := by omega
    have e1 : ¬ ((i : Nat) : Int) < ((i : Nat) : Int) := by omega
    rw [Nat.sub_self, stoF] at hst
    simp (config := { maxSteps := 1000000, implicitDefEqProofs := false }) (disch := omega) only [allW, Nat.reduceLT, ↓reduceIte, hn, h39, h40, eq_false e1]
    exact hQ _ _ _ ⟨by simp only [n_put, hn], .inl ⟨rfl, _, P1, o1, hst.symm, hR, hto⟩⟩
  have e1 : ((i : Nat) : Int) < ((n : Nat) : Int) := by omega
  rw [show n - i = (n - (i + 1)) + 1 by omega, stoF] at hst
  obtain ⟨now, hBt⟩ := alignB hR.bit
  have hcp : a + 4 + i ≤ D.length := hBt.c.choose_spec.2.2.2
  have r0 := hR.t.load (P := Try.prog) agBitsQ (off := 0) (c := 4) rfl (by simp)
  have g0 := hBt.t.load (P := Try.prog) bagCur (off := 0) (c := 4) rfl (by simp)
  simp (config := { maxSteps := 1000000, implicitDefEqProofs := false }) (disch := omega) only [allW, allR, evalAll, Nat.reduceLT, Nat.reduceEqDiff, ↓reduceIte, hn, h0, h39, h40, eq_true e1, rfld0, r0, bfld0, g0]
  refine (next_any (hL _ rfl) (hL _ rfl) (hL _ rfl) (hL _ rfl) (hL _ rfl) base t ic D (a + 4 + i) hBt.c hbt (by omega)).mono ?_
  rintro _ t3 ⟨rfl, hc3, ht3⟩
  have kb : BTo jx ic t t3 := BTo.turns ht3
  by_cases r3 : a + 4 + i < D.length
  rotate_left
  · rw [if_neg r3] at hst
    have hby : byteAt D ((a + 4 + i : Nat) : Int) = -1 := by unfold byteAt; rw [if_neg (by omega)]
    simp (config := { maxSteps := 1000000, implicitDefEqProofs := false }) (disch := omega) only [allW, Nat.reduceLT, ↓reduceIte, hn, hby, eq_true (show (-1 : Int) < 0 by decide)]
    exact hQ _ _ _ ⟨by simp only [n_put, hn], .inr ⟨rfl, 2, hst.symm, by decide, by simp only [get_put, ↓reduceIte]; rfl, stayAll _ _ (hto.trans (btoR kb))⟩⟩
  rw [if_pos r3] at hst
  have hc8 := (D.getD (a + 4 + i) 0).toNat_lt
  have hby : byteAt D ((a + 4 + i : Nat) : Int) = ((D.getD (a + 4 + i) 0).toNat : Int) := by unfold byteAt; rw [if_pos (by omega), Int.toNat_natCast]
  have hcv : IntKind.u8.wrap (((D.getD (a + 4 + i) 0).toNat : Nat) : Int) = (((D.getD (a + 4 + i) 0).toNat : Nat) : Int) := by rw [wrapu8]; omega
  have d1 : ¬ (((D.getD (a + 4 + i) 0).toNat : Nat) : Int) < 0 := by omega
  rw [Nat.min_eq_left (by omega)] at hc3
  have hB4 : BitIs base t3 jx ic D (8 * (a + 4 + (i + 1))) := ⟨a + 4 + i + 1, now, 0, ⟨hc3, hBt.t.turns ht3 (cptr_ne (fun e => hBt.ne e.symm)), by omega, by omega, fun h => by omega, hBt.now, hBt.lx, hBt.lc, hBt.ne⟩, by omega⟩
  have hR4 := hR.bits hB4 kb
  have hb4 : base ≤ t3.next := by have := kb.next; omega
  simp (config := { maxSteps := 1000000, implicitDefEqProofs := false }) (disch := omega) only [allW, allR, evalAll, Nat.reduceLT, Nat.reduceEqDiff, ↓reduceIte, hn, h0, hby, eq_false d1, conv_int Try.underlying3 Try.underlying5, hcv]
  refine (putP_any hL base t3 jr jx ic D P1 _ m M hM (D.getD (a + 4 + i) 0) o1 hR4 hb4 (by omega)).mono ?_
  intro v t6 hO
  by_cases cm : m ≤ P1.length
  · rw [if_pos cm] at hO hst
    obtain ⟨-, rfl, hst6⟩ := hO
    simp (config := { maxSteps := 1000000, implicitDefEqProofs := false }) (disch := omega) only [allW, allR, Nat.reduceLT, Nat.reduceEqDiff, ↓reduceIte, hn, eq_false (show ¬ ((7 : Nat) : Int) = 0 by decide)]
    exact hQ _ _ _ ⟨by simp only [n_put, hn], .inr ⟨rfl, 7, hst.symm, by decide, by simp only [get_put, ↓reduceIte], (stayAll _ _ (hto.trans (btoR kb))).trans hst6⟩⟩
  rw [if_neg cm] at hO hst
  obtain ⟨rfl, o6, hR6, to6⟩ := hO
  simp (config := { maxSteps := 1000000, implicitDefEqProofs := false }) (disch := omega) only [allW, allR, Nat.reduceLT, Nat.reduceEqDiff, ↓reduceIte, hn, h40, wrapI]
  have n6 := to6.next
  exact wround_next (n - (i + 1)) (by omega) ⟨i + 1, _, o6, rfl, by omega, hst, by rw [List.length_append, List.length_singleton]; omega, hR6, hto.trans ((btoR kb).trans to6), by omega, by simp only [n_put, hn], by simp only [get_put, ↓reduceIte, Nat.reduceEqDiff, h0], by simp only [get_put, ↓reduceIte, Nat.reduceEqDiff, h39], by simp only [get_put, ↓reduceIte]; rfl⟩
end Go.Proofs.Ytnclklboogdoiaa
