/-
  Inflate, the program: numbers, symbols, what is put.
-/
import Derived.Test.YtnclklboogdoiaaBitsT
import Derived.Test.YtnclklboogdoiaaNfG
set_option linter.unusedSimpArgs false
set_option linter.unusedVariables false
set_option maxRecDepth 100000
namespace Go.Cl.Nf
open Go.Cl.Fx Go.Cl.Sto
theorem idx_getD_flat (C : List Nat) : ∀ m n, 1 ≤ n → n ≤ m → ∀ r, r < C.count n → (flatA C (n - 1)).length + r < (flatA C m).length ∧ (flatA C m).getD ((flatA C (n - 1)).length + r) 0 = (idx C n).getD r 0
  | 0, n, h1, h2, r, hr => by omega
  | m + 1, n, h1, h2, r, hr => by
    have hl := idx_length C (m + 1)
    by_cases c : n = m + 1
    · subst c
      simp only [flatA, Nat.add_sub_cancel]
      refine ⟨by rw [List.length_append, hl]; omega, ?_⟩
      rw [List.getD_eq_getElem?_getD, List.getElem?_append_right (by omega), Nat.add_sub_cancel_left, List.getD_eq_getElem?_getD]
    · obtain ⟨k1, k2⟩ := idx_getD_flat C m n h1 (by omega) r hr
      simp only [flatA]
      refine ⟨by rw [List.length_append]; omega, ?_⟩
      rw [List.getD_eq_getElem?_getD, List.getElem?_append_left k1, ← List.getD_eq_getElem?_getD, k2]
theorem cn_pos (C : List Nat) {n : Nat} (h : 1 ≤ n) : cn C n = C.count n := if_neg (by omega)
theorem flat_next (C : List Nat) (n : Nat) : (flatA C (n + 1)).length = (flatA C n).length + C.count (n + 1) := by
  simp only [flatA]; rw [List.length_append, idx_length]
theorem count_two (C : List Nat) : ∀ m, (flatA C m).length ≤ C.length := by
  have key : ∀ (L : List Nat) (m : Nat), (flatA L m).length = (L.filter (fun x => decide (1 ≤ x ∧ x ≤ m))).length := by
    intro L m
    induction m with
    | zero =>
      rw [show L.filter (fun x => decide (1 ≤ x ∧ x ≤ 0)) = [] from List.filter_eq_nil_iff.2 (fun x _ => by simp; omega)]
      rfl
    | succ m ih =>
      rw [flat_next, ih]
      clear ih
      induction L with
      | nil => rfl
      | cons a r ih =>
        simp only [List.filter_cons, List.count_cons]
        by_cases c1 : a = m + 1
        · subst c1
          have c4 : (decide (1 ≤ m + 1 ∧ m + 1 ≤ m)) = false := decide_eq_false (by omega)
          have c5 : (decide (1 ≤ m + 1 ∧ m + 1 ≤ m + 1)) = true := decide_eq_true (by omega)
          have c6 : (m + 1 == m + 1) = true := by simp
          rw [c4, c5, c6]
          simp only [if_true, List.length_cons]
          rw [if_neg (by decide)]
          omega
        · by_cases c2 : 1 ≤ a ∧ a ≤ m
          · have c3 : 1 ≤ a ∧ a ≤ m + 1 := by omega
            have c4 : (decide (1 ≤ a ∧ a ≤ m)) = true := decide_eq_true c2
            have c5 : (decide (1 ≤ a ∧ a ≤ m + 1)) = true := decide_eq_true c3
            have c6 : (a == m + 1) = false := by simpa using c1
            rw [c4, c5, c6]
            simp only [if_true, List.length_cons]
            rw [if_neg (by decide)]
            omega
          · have c3 : ¬ (1 ≤ a ∧ a ≤ m + 1) := by omega
            have c4 : (decide (1 ≤ a ∧ a ≤ m)) = false := decide_eq_false c2
            have c5 : (decide (1 ≤ a ∧ a ≤ m + 1)) = false := decide_eq_false c3
            have c6 : (a == m + 1) = false := by simpa using c1
            rw [c4, c5, c6]
            simpa using ih
  intro m
  rw [key]
  exact List.length_filter_le _ _
theorem arrAt {P : Program} {t e : TypeId} {m : Nat} (hu : P.underlying t = some (.array m e)) (hsz : sizeB P e = some 1) (i o c : Nat) {x : Int} (h0 : 0 ≤ x) (hx : x < m) (kk : IntKind) :
    indexAddrA P t (.pointer (some ⟨i, o, some c⟩)) (.int kk x) = some (.pointer (some ⟨i, o + x.toNat, some c⟩)) := by
  obtain ⟨k, rfl⟩ : ∃ k : Nat, x = k := ⟨x.toNat, by omega⟩
  have hb : Nat.blt k m = true := by rw [Nat.blt_eq]; omega
  show indexAddrA P t _ (.int kk (Int.ofNat k)) = _
  unfold indexAddrA
  rw [hu]
  simp only [hsz, hb, if_true, Nat.mul_one, Int.toNat_natCast]
end Go.Cl.Nf
namespace Go.Proofs.Ytnclklboogdoiaa
open Go.Cl Go.Cl.Rw Go.Cl.Sto Go.Cl.Fx Go.Cl.Nf Go.Cl.Bt
def nfp : List Nat := [11, 12, 13, 14, 52, 68, 65, 53, 67, 66, 54, 70, 74, 71, 56, 73, 72, 69, 55, 31, 19, 15, 29, 18, 30, 17, 28]
def NoL (lib : Prims) : Prop := ∀ g, nfp.contains g = true → lib.at g = none
theorem ext20 (a b : Value) : extractA (.tuple #[a, b]) 0 = some a := rfl
theorem ext21 (a b : Value) : extractA (.tuple #[a, b]) 1 = some b := rfl
theorem BitIs.le {base : Nat} {s : ASt} {jx ic : Nat} {D : List UInt8} {p : Nat} (h : BitIs base s jx ic D p) : p ≤ 8 * D.length := by
  obtain ⟨q, now, left, h, -⟩ := h
  have := h.e
  have := h.c.choose_spec.2.2.2
  omega
theorem BitIs.lt {base : Nat} {s : ASt} {jx ic : Nat} {D : List UInt8} {p : Nat} (h : BitIs base s jx ic D p) : jx < s.next ∧ ic < s.next ∧ base ≤ jx ∧ base ≤ ic ∧ jx ≠ ic := by
  obtain ⟨q, now, left, h, -⟩ := h
  exact ⟨h.t.lt, h.c.choose_spec.1.lt, h.lx, h.lc, h.ne⟩
theorem BitIs.keeps {base : Nat} {s s' : ASt} {jx ic : Nat} {D : List UInt8} {p : Nat} (h : BitIs base s jx ic D p) (hb : base ≤ s.next) (k : Stay s.next s s') : BitIs base s' jx ic D p := by
  obtain ⟨q, now, left, h, h7⟩ := h
  exact ⟨q, now, left, ⟨h.c.keeps hb k, h.t.keeps k, h.e, h.l8, h.r, h.now, h.lx, h.lc, h.ne⟩, h7⟩
def NumR (base jx ic : Nat) (D : List UInt8) (p n : Nat) (s : ASt) (v : Value) (s' : ASt) : Except Nat Nat → Prop
  | .ok x => v = .tuple #[.int .i64 (x : Nat), .int .i64 0] ∧ BitIs base s' jx ic D (p + n) ∧ BTo jx ic s s'
  | .error e => e = 2 ∧ v = .tuple #[.int .i64 0, .int .i64 2] ∧ BTo jx ic s s'
set_option maxHeartbeats 4000000 in
theorem number_any {lib : Prims} (hL : NoL lib) (base : Nat) (s : ASt) (jx ic : Nat) (D : List UInt8) (p n : Nat) (h : BitIs base s jx ic D p) (hb : base ≤ s.next) (hn16 : n ≤ 16) (hlen : D.length ≤ 1000000) :
    Runs Try.prog lib 52 [xptr jx, .int .i64 (n : Nat)] s fun v s' => NumR base jx ic D p n s v s' (takeE D p n) := by
  refine Runs.enter 13 Try.func52 rfl (hL _ rfl) rfl rfl ?_
  intro f hn hf
  have h0 : f.get 0 = xptr jx := hf 0
  have h1 : f.get 1 = .int .i64 (n : Nat) := hf 1
  clear hf
  simp (config := { maxSteps := 1000000, implicitDefEqProofs := false }) (disch := omega) only [allW, allR, evalAll, Nat.reduceLT, Nat.reduceEqDiff, ↓reduceIte, hn, h0, h1]
  refine (take_anyT (hL _ rfl) (hL _ rfl) (hL _ rfl) (hL _ rfl) (hL _ rfl) (hL _ rfl) base s jx ic D p (n : Nat) h hb hlen).mono ?_
  rintro _ s1 ⟨rfl, hB, hto⟩
  by_cases c : p + n ≤ 8 * D.length
  · have ht : takes D p (n : Nat) := ⟨by omega, by omega, by omega⟩
    rw [if_pos ht, Int.toNat_natCast] at hB
    have e1 : tookIs D p (n : Nat) = ((bitsN D p n : Nat) : Int) := by unfold tookIs; rw [if_pos ht, Int.toNat_natCast]
    have d1 : ¬ ((bitsN D p n : Nat) : Int) < 0 := by omega
    simp (config := { maxSteps := 1000000, implicitDefEqProofs := false }) (disch := omega) only [allW, wfn_ret, oneOf, Nat.reduceLT, Nat.reduceEqDiff, ↓reduceIte, hn, e1, eq_false d1, Try.results52]
    rw [takeE_ok c]
    exact ⟨rfl, hB, hto⟩
  · have ht : ¬ takes D p (n : Nat) := fun h => c (by have := h.2.2; omega)
    have e1 : tookIs D p (n : Nat) = -1 := by unfold tookIs; rw [if_neg ht]
    have d1 : (-1 : Int) < 0 := by decide
    simp (config := { maxSteps := 1000000, implicitDefEqProofs := false }) (disch := omega) only [allW, wfn_ret, oneOf, Nat.reduceLT, Nat.reduceEqDiff, ↓reduceIte, hn, e1, eq_true d1, Try.results52]
    rw [takeE_no c]
    exact ⟨rfl, rfl, hto⟩
set_option maxHeartbeats 4000000 in
theorem bitP_any {lib : Prims} (hL : NoL lib) (base : Nat) (s : ASt) (jx ic : Nat) (D : List UInt8) (p : Nat) (h : BitIs base s jx ic D p) (hb : base ≤ s.next) (hlen : D.length ≤ 1000000) :
    Runs Try.prog lib 12 [xptr jx] s fun v s' => v = .int .i64 (if p + 1 ≤ 8 * D.length then ((bit D p : Nat) : Int) else -1) ∧ (p + 1 ≤ 8 * D.length → BitIs base s' jx ic D (p + 1)) ∧ BTo jx ic s s' := by
  refine Runs.enter 5 Try.func12 rfl (hL _ rfl) rfl rfl ?_
  intro f hn hf
  have h0 : f.get 0 = xptr jx := hf 0
  clear hf
  simp (config := { maxSteps := 1000000, implicitDefEqProofs := false }) (disch := omega) only [allW, allR, evalAll, Nat.reduceLT, Nat.reduceEqDiff, ↓reduceIte, hn, h0]
  refine (take_anyT (hL _ rfl) (hL _ rfl) (hL _ rfl) (hL _ rfl) (hL _ rfl) (hL _ rfl) base s jx ic D p 1 h hb hlen).mono ?_
  rintro _ s1 ⟨rfl, hB, hto⟩
  simp (config := { maxSteps := 1000000, implicitDefEqProofs := false }) (disch := omega) only [allW, wfn_ret, oneOf, Nat.reduceLT, ↓reduceIte, hn, Try.results12]
  by_cases c : p + 1 ≤ 8 * D.length
  · have ht : takes D p 1 := ⟨by omega, by omega, by omega⟩
    rw [if_pos ht] at hB
    refine ⟨?_, fun _ => hB, hto⟩
    unfold tookIs
    rw [if_pos ht, if_pos c]
    show Value.int .i64 ((bitsN D p 1 : Nat) : Int) = _
    rw [bitsN_one]
  · have ht : ¬ takes D p 1 := fun h => c (by have := h.2.2; omega)
    refine ⟨?_, fun h => absurd h c, hto⟩
    unfold tookIs
    rw [if_neg ht, if_neg c]
theorem szArr : sizeB Try.prog 89 = some 16 := by kernel_rfl
theorem szIntsS : sizeB Try.prog 63 = some 1 := by kernel_rfl
theorem agIntsS : isAggB Try.prog 63 = some false := by kernel_rfl
theorem szCode : sizeB Try.prog 91 = some 17 := by kernel_rfl
theorem agCode : isAggB Try.prog 91 = some true := by kernel_rfl
theorem uArr : Try.prog.underlying 89 = some (.array 16 3) := Try.underlying89
theorem kfld0 (i o c : Nat) : fieldAddrA Try.prog 91 (.pointer (some ⟨i, o, some c⟩)) 0 = some (.pointer (some ⟨i, o + 0, some c⟩)) := by
  unfold fieldAddrA; rw [Try.underlying91]; simp [szArr]
theorem kfld1 (i o c : Nat) : fieldAddrA Try.prog 91 (.pointer (some ⟨i, o, some c⟩)) 1 = some (.pointer (some ⟨i, o + 16, some c⟩)) := by
  unfold fieldAddrA; rw [Try.underlying91]; simp [szIntsS]
def codeV (C : List Nat) (sv : Value) : List Value := ((List.range 16).map fun n => Value.int .i64 ((cn C n : Nat) : Int)) ++ [sv]
theorem codeV_length (C : List Nat) (sv : Value) : (codeV C sv).length = 17 := by simp [codeV]
theorem codeV_at (C : List Nat) (sv : Value) {n : Nat} (h : n < 16) : (codeV C sv).getD n undef = .int .i64 ((cn C n : Nat) : Int) := by
  unfold codeV
  rw [List.getD_eq_getElem?_getD, List.getElem?_append_left (by simpa using h), List.getElem?_map, List.getElem?_range h]; rfl
theorem codeV_sv (C : List Nat) (sv : Value) : (codeV C sv).getD 16 undef = sv := by simp [codeV, List.getD_eq_getElem?_getD]
def Syms (jx ic : Nat) (s : ASt) (sv : Value) (C : List Nat) : Prop := Sees s 1 sv (flatA C 15).length (natsV (flatA C 15)) ∧ ∀ i, idOf sv = some i → i < s.next ∧ i ≠ jx ∧ i ≠ ic
theorem seesTo {s s' : ASt} {z : Nat} {v : Value} {n : Nat} {L : List Value} (h : Sees s z v n L) (hn : s.next ≤ s'.next) (hs : ∀ i, idOf v = some i → i < s.next → s'.heap.get i = s.heap.get i) : Sees s' z v n L := by
  cases h with
  | nil => exact .nil
  | bare i off => exact .bare i off
  | of i off n c b l hi hb hz hl hc hlen hoff ht =>
    refine .of i off _ c b _ (Nat.lt_of_lt_of_le hi hn) ?_ hz hl hc hlen hoff ht
    simp only [ASt.blk?, hs i rfl hi]; exact hb
theorem Syms.to {jx ic : Nat} {s s' : ASt} {sv : Value} {C : List Nat} (h : Syms jx ic s sv C) (k : BTo jx ic s s') : Syms jx ic s' sv C :=
  ⟨seesTo h.1 k.next (fun i hi hl => k.get i hl (h.2 i hi).2.1 (h.2 i hi).2.2), fun i hi => ⟨Nat.lt_of_lt_of_le (h.2 i hi).1 k.next, (h.2 i hi).2⟩⟩
def SymP (base jx ic : Nat) (D : List UInt8) (s : ASt) (v : Value) (s' : ASt) : Except Nat (Nat × Nat) → Prop
  | .ok (x, q) => v = .tuple #[.int .i64 (x : Nat), .int .i64 0] ∧ BitIs base s' jx ic D q ∧ BTo jx ic s s'
  | .error e => 0 < e ∧ v = .tuple #[.int .i64 0, .int .i64 (e : Nat)] ∧ BTo jx ic s s'
set_option maxHeartbeats 8000000 in
theorem symP_any {lib : Prims} (hL : NoL lib) (base : Nat) (s : ASt) (jx ic : Nat) (D : List UInt8) (p : Nat) (h : BitIs base s jx ic D p) (hb : base ≤ s.next) (hlen : D.length ≤ 1000000) (C : List Nat) (sv : Value) (hC : Syms jx ic s sv C) (hCl : C.length ≤ 1000) :
    Runs Try.prog lib 68 [xptr jx, .agg (codeV C sv).toArray] s fun v s' => SymP base jx ic D s v s' (sym D C p) := by
  refine Runs.enter 54 Try.func68 rfl (hL _ rfl) rfl rfl ?_
  intro f hn hf
  have h0 : f.get 0 = xptr jx := hf 0
  have h1 : f.get 1 = .agg (codeV C sv).toArray := hf 1
  clear hf
  simp (config := { maxSteps := 1000000, implicitDefEqProofs := false }) (disch := omega) only [allW, Nat.reduceLT, ↓reduceIte, hn, h1]
  refine wstep_newPtr ?_
  intro s1 hth hst1 hnx1
  obtain ⟨jc, hjc⟩ : ∃ j, j = s.next := ⟨_, rfl⟩
  rw [← hjc] at hth
  have hlc := codeV_length C sv
  have h1B : BTo jx ic s s1 := ⟨hst1.next, fun i hi _ _ => hst1.get i hi⟩
  have hC1 := hC.to h1B
  have hp15 : (2 : Nat) ^ 15 = 32768 := by decide
  have hflat := count_two C
  simp (config := { maxSteps := 1000000, implicitDefEqProofs := false }) (disch := omega) only [allW, Nat.reduceLT, Nat.reduceAdd, ↓reduceIte, hn, ← hjc, hlc]
  refine Comes.loopOut (fun z f t => ∃ k : Nat, z = 15 - k ∧ k ≤ 15 ∧ p + k ≤ 8 * D.length ∧ symF D C p (15 - k) k = sym D C p ∧ fst C k + cn C k ≤ hi D p k ∧ BitIs base t jx ic D (p + k) ∧ BTo jx ic s1 t ∧ Thing t jc (codeV C sv) ∧ Syms jx ic t sv C ∧ f.n = 54 ∧ f.get 0 = xptr jx ∧ f.get 3 = .pointer (some ⟨jc, 0, some 18⟩) ∧ f.get 6 = .int .i64 (hi D p k : Nat) ∧ f.get 7 = .int .i64 ((fst C k + cn C k : Nat) : Int) ∧ f.get 8 = .int .i64 ((flatA C k).length : Nat) ∧ f.get 9 = .int .i64 ((k : Int) + 1))
    (fun z f t => (z = .ret ∧ f.n = 54 ∧ ∃ v e : Value, f.get 4 = v ∧ f.get 5 = e ∧ SymP base jx ic D s (.tuple #[v, e]) t (sym D C p)) ∨ (z = .exit 0 ∧ f.n = 54 ∧ sym D C p = .error 4 ∧ BTo jx ic s t))
    ⟨0, rfl, by omega, h.le, rfl, by simp [fst, cn, hi], h.keeps hb hst1, BTo.refl _ _ _, hth, hC1, by simp only [n_put, hn], by simp only [get_put, ↓reduceIte, Nat.reduceEqDiff, h0], by simp only [get_put, ↓reduceIte, Nat.reduceEqDiff], by simp only [get_put, ↓reduceIte, Nat.reduceEqDiff]; rfl, by simp only [get_put, ↓reduceIte, Nat.reduceEqDiff]; rfl, by simp only [get_put, ↓reduceIte, Nat.reduceEqDiff]; rfl, by simp only [get_put, ↓reduceIte]; rfl⟩ ?_ ?_
  · have hjx := h.lt
    clear hn h0 h1 f hth h hC hC1
    rintro Q hQ z f t ⟨k, rfl, hk, hkD, hsy, hle, hB, hto, hth, hS, hn, h0, h3, h6, h7, h8, h9⟩
    by_cases hk15 : k < 15
    rotate_left
    · obtain rfl : k = 15 := by omega
      have d1 : ¬ ((15 : Nat) : Int) + 1 ≤ 15 := by omega
      simp (config := { maxSteps := 1000000, implicitDefEqProofs := false }) (disch := omega) only [allW, Nat.reduceLT, ↓reduceIte, hn, h9, eq_false d1]
      exact hQ _ _ _ (.inr ⟨rfl, by simp only [n_put, hn], hsy.symm, h1B.trans hto⟩)
    have d1 : (k : Int) + 1 ≤ 15 := by omega
    have hkp : 2 ^ k ≤ 2 ^ 15 := Nat.pow_le_pow_right (by omega) (by omega)
    have hhl := hi_lt D p k
    rw [show 15 - k = (15 - (k + 1)) + 1 by omega, symF] at hsy
    have hbt : base ≤ t.next := by have := hto.next; omega
    simp (config := { maxSteps := 1000000, implicitDefEqProofs := false }) (disch := omega) only [allW, allR, evalAll, Nat.reduceLT, Nat.reduceEqDiff, ↓reduceIte, hn, h0, h9, eq_true d1]
    refine (bitP_any hL base t jx ic D (p + k) hB hbt hlen).mono ?_
    rintro _ t1 ⟨rfl, hB1, to1⟩
    have hto1 := h1B.trans (hto.trans to1)
    by_cases hroom : p + (k + 1) ≤ 8 * D.length
    rotate_left
    · rw [if_neg hroom] at hsy
      have d2 : (-1 : Int) < 0 := by decide
      rw [if_neg (show ¬ p + k + 1 ≤ 8 * D.length by omega)]
      simp (config := { maxSteps := 1000000, implicitDefEqProofs := false }) (disch := omega) only [allW, Nat.reduceLT, ↓reduceIte, hn, eq_true d2]
      refine hQ _ _ _ (.inl ⟨rfl, by simp only [n_put, hn], _, _, by simp only [get_put, ↓reduceIte, Nat.reduceEqDiff]; rfl, by simp only [get_put, ↓reduceIte]; rfl, ?_⟩)
      rw [← hsy]
      exact ⟨by decide, rfl, hto1⟩
    rw [if_pos hroom] at hsy
    have hB1 := hB1 hroom
    rw [if_pos (show p + k + 1 ≤ 8 * D.length by omega)]
    have hbl := bit_lt D (p + k)
    have d2 : ¬ ((bit D (p + k) : Nat) : Int) < 0 := by omega
    have hjc1 : jc < t1.next := by have := hto.next; have := to1.next; omega
    have hth1 : Thing t1 jc (codeV C sv) := by
      obtain ⟨i1, low, z, i2, i3⟩ := hth
      exact ⟨Nat.lt_of_lt_of_le i1 to1.next, low, z, by simp only [ASt.blk?, to1.get jc i1 (by omega) (by omega)]; exact i2, i3⟩
    have hS1 := hS.to to1
    have hsh := shlT Try.prog 3 .u64 (x := hi D p k) (by omega)
    have hor := orTwo (x := hi D p k) (b := bit D (p + k)) (by omega) hbl
    have ehi : 2 * hi D p k + bit D (p + k) = hi D p (k + 1) := rfl
    rw [ehi] at hor
    have hsf := shlT Try.prog 3 .u64 (x := fst C k + cn C k) (by omega)
    have efst : (fst C k + cn C k) * 2 ^ 1 = fst C (k + 1) := by simp only [fst]; omega
    rw [efst] at hsf
    have hge : fst C (k + 1) ≤ hi D p (k + 1) := by rw [← ehi]; simp only [fst]; omega
    have e1 : ((hi D p (k + 1) : Nat) : Int) - ((fst C (k + 1) : Nat) : Int) = ((hi D p (k + 1) - fst C (k + 1) : Nat) : Int) := by omega
    have hhl1 := hi_lt D p (k + 1)
    have hkp1 : 2 ^ (k + 1) ≤ 2 ^ 15 := Nat.pow_le_pow_right (by omega) (by omega)
    have hcn : cn C (k + 1) = C.count (k + 1) := cn_pos C (by omega)
    have ek : ((k : Int) + 1).toNat = k + 1 := by omega
    have ik := arrAt (P := Try.prog) uArr szInt jc 0 18 (x := (k : Int) + 1) (by omega) (by omega) .i64
    rw [ek, Nat.zero_add] at ik
    have lk := hth1.load (P := Try.prog) agInt (off := k + 1) (c := 18) (by rw [hlc]) (by rw [hlc]; omega)
    rw [codeV_at C sv (by omega)] at lk
    have lsv := hth1.load (P := Try.prog) agIntsS (off := 16) (c := 18) (by rw [hlc]) (by rw [hlc]; omega)
    rw [codeV_sv] at lsv
    have hfl := hflat 15
    have hfk := hflat k
    by_cases hat : symAt D C p (k + 1)
    · rw [if_pos hat] at hsy
      have d3 : ((hi D p (k + 1) - fst C (k + 1) : Nat) : Int) < ((cn C (k + 1) : Nat) : Int) := by have := hat.2; omega
      obtain ⟨q1, q2⟩ := idx_getD_flat C 15 (k + 1) (by omega) (by omega) (hi D p (k + 1) - fst C (k + 1)) (by have := hat.2; omega)
      rw [Nat.add_sub_cancel] at q1 q2
      have e2 : ((flatA C k).length : Int) + ((hi D p (k + 1) : Nat) : Int) - ((fst C (k + 1) : Nat) : Int) = (((flatA C k).length + (hi D p (k + 1) - fst C (k + 1)) : Nat) : Int) := by omega
      have is := hS1.1.indexAddr (P := Try.prog) (k := .i64) (x := (((flatA C k).length + (hi D p (k + 1) - fst C (k + 1)) : Nat) : Int)) uIntsF szInt (by omega) (by omega)
      rw [Int.toNat_natCast] at is
      have ls := hS1.1.load1 (P := Try.prog) agInt q1
      rw [natsV_getD q1, q2] at ls
      simp (config := { maxSteps := 1000000, implicitDefEqProofs := false }) (disch := omega) only [allW, Nat.reduceLT, Nat.reduceEqDiff, ↓reduceIte, hn, h3, h6, h7, h8, h9, eq_false d2, hsh, bin_or, hor, hsf, wrapI, e1, kfld0, kfld1, ik, lk, eq_true d3, lsv, e2, is, ls]
      refine hQ _ _ _ (.inl ⟨rfl, by simp only [n_put, hn], _, _, by simp only [get_put, ↓reduceIte, Nat.reduceEqDiff]; rfl, by simp only [get_put, ↓reduceIte]; rfl, ?_⟩)
      rw [← hsy]
      exact ⟨rfl, hB1, hto1⟩
    · rw [if_neg hat] at hsy
      have hnot : cn C (k + 1) ≤ hi D p (k + 1) - fst C (k + 1) := by
        rw [hcn]
        rcases Nat.lt_or_ge (hi D p (k + 1) - fst C (k + 1)) (C.count (k + 1)) with c | c
        · exact absurd ⟨hge, by omega⟩ hat
        · exact c
      have d3 : ¬ ((hi D p (k + 1) - fst C (k + 1) : Nat) : Int) < ((cn C (k + 1) : Nat) : Int) := by omega
      have e2 : ((fst C (k + 1) : Nat) : Int) + ((cn C (k + 1) : Nat) : Int) = ((fst C (k + 1) + cn C (k + 1) : Nat) : Int) := by omega
      have hfn := flat_next C k
      have e3 : (((flatA C k).length : Nat) : Int) + ((cn C (k + 1) : Nat) : Int) = (((flatA C (k + 1)).length : Nat) : Int) := by omega
      have hfk1 := hflat (k + 1)
      simp (config := { maxSteps := 1000000, implicitDefEqProofs := false }) (disch := omega) only [allW, Nat.reduceLT, Nat.reduceEqDiff, ↓reduceIte, hn, h3, h6, h7, h8, h9, eq_false d2, hsh, bin_or, hor, hsf, wrapI, e1, kfld0, ik, lk, eq_false d3, e2, e3]
      exact wround_next (15 - (k + 1)) (by omega) ⟨k + 1, rfl, by omega, by omega, hsy, by omega, hB1, hto.trans to1, hth1, hS1, by simp only [n_put, hn], by simp only [get_put, ↓reduceIte, Nat.reduceEqDiff, h0], by simp only [get_put, ↓reduceIte, Nat.reduceEqDiff, h3], by simp only [get_put, ↓reduceIte, Nat.reduceEqDiff], by simp only [get_put, ↓reduceIte, Nat.reduceEqDiff], by simp only [get_put, ↓reduceIte, Nat.reduceEqDiff], by simp only [get_put, ↓reduceIte]; rfl⟩
  clear hn h0 h1 f
  rintro z f t (⟨rfl, hn, v, e, h4, h5, hR⟩ | ⟨rfl, hn, hsy, hto⟩)
  · simp (config := { maxSteps := 1000000, implicitDefEqProofs := false }) (disch := omega) only [allW, wfn_ret, oneOf, Nat.reduceLT, ↓reduceIte, hn, h4, h5, Try.results68]
    exact hR
  · simp (config := { maxSteps := 1000000, implicitDefEqProofs := false }) (disch := omega) only [allW, wfn_ret, oneOf, Nat.reduceLT, Nat.reduceEqDiff, ↓reduceIte, hn, Try.results68]
    rw [hsy]
    exact ⟨by decide, rfl, hto⟩
theorem agBitsQ : isAggB Try.prog 25 = some false := by kernel_rfl
theorem szBitsQ : sizeB Try.prog 25 = some 1 := by kernel_rfl
theorem rfld0 (i o c : Nat) : fieldAddrA Try.prog 54 (.pointer (some ⟨i, o, some c⟩)) 0 = some (.pointer (some ⟨i, o + 0, some c⟩)) := by
  unfold fieldAddrA; rw [Try.underlying54]; simp [szBitsQ]
theorem rfld1 (i o c : Nat) : fieldAddrA Try.prog 54 (.pointer (some ⟨i, o, some c⟩)) 1 = some (.pointer (some ⟨i, o + 1, some c⟩)) := by
  unfold fieldAddrA; rw [Try.underlying54]; simp [szInt]
theorem rfld2 (i o c : Nat) : fieldAddrA Try.prog 54 (.pointer (some ⟨i, o, some c⟩)) 2 = some (.pointer (some ⟨i, o + 2, some c⟩)) := by
  unfold fieldAddrA; rw [Try.underlying54]; simp [szSl]
abbrev rptr (j : Nat) : Value := .pointer (some ⟨j, 0, some 4⟩)
structure Rs (base : Nat) (s : ASt) (jr jx ic : Nat) (D : List UInt8) (p : Nat) (P : List UInt8) (M : Int) (o : Value) : Prop where
  bit : BitIs base s jx ic D p
  t : Thing s jr [xptr jx, .int .i64 M, o]
  own : Own s 1 o P.length (ofBytes P)
  fresh : Fresh base o
  nr : idOf o ≠ some jr
  nx : idOf o ≠ some jx
  nc : idOf o ≠ some ic
  rx : jr ≠ jx
  rc : jr ≠ ic
  lr : base ≤ jr
structure RTo (jr jx ic : Nat) (o : Value) (s : ASt) (o' : Value) (s' : ASt) : Prop where
  next : s.next ≤ s'.next
  get : ∀ i, i < s.next → i ≠ jr → i ≠ jx → i ≠ ic → idOf o ≠ some i → s'.heap.get i = s.heap.get i
  id : idOf o' = idOf o ∨ ∃ i, idOf o' = some i ∧ s.next ≤ i
theorem RTo.refl (jr jx ic : Nat) (o : Value) (s : ASt) : RTo jr jx ic o s o s := ⟨Nat.le_refl _, fun _ _ _ _ _ _ => rfl, .inl rfl⟩
theorem RTo.trans {jr jx ic : Nat} {o o' o'' : Value} {s s' s'' : ASt} (h : RTo jr jx ic o s o' s') (k : RTo jr jx ic o' s' o'' s'') : RTo jr jx ic o s o'' s'' := by
  refine ⟨Nat.le_trans h.next k.next, fun i hi h1 h2 h4 h3 => ?_, ?_⟩
  · rw [k.get i (Nat.lt_of_lt_of_le hi h.next) h1 h2 h4 ?_, h.get i hi h1 h2 h4 h3]
    rcases h.id with e | ⟨q, e, hq⟩
    · rw [e]; exact h3
    · rw [e]; intro q2; injection q2 with q2; omega
  · rcases k.id with e | ⟨q, e, hq⟩
    · rcases h.id with e2 | ⟨q, e2, hq⟩
      · exact .inl (by rw [e, e2])
      · exact .inr ⟨q, by rw [e, e2], hq⟩
    · exact .inr ⟨q, e, Nat.le_trans h.next hq⟩
theorem RTo.stay {jr jx ic base : Nat} {o o' : Value} {s s' : ASt} (h : RTo jr jx ic o s o' s') (h1 : base ≤ jr) (h2 : base ≤ jx) (h4 : base ≤ ic) (h3 : Fresh base o) (hb : base ≤ s.next) : Stay base s s' :=
  ⟨h.next, fun i hi => h.get i (by omega) (by omega) (by omega) (by omega) (fun e => by have := h3 i e; omega)⟩
theorem btoR {jr jx ic : Nat} {o : Value} {s s' : ASt} (h : BTo jx ic s s') : RTo jr jx ic o s o s' := ⟨h.next, fun i hi _ h2 h4 _ => h.get i hi h2 h4, .inl rfl⟩
theorem RTo.kept {jr jx ic : Nat} {o o' : Value} {s t t' : ASt} (h : RTo jr jx ic o s o' t) (k : Stay t.next t t') : RTo jr jx ic o s o' t' :=
  ⟨Nat.le_trans h.next k.next, fun i hi h1 h2 h4 h3 => (k.get i (Nat.lt_of_lt_of_le hi h.next)).trans (h.get i hi h1 h2 h4 h3), h.id⟩
theorem thingTo {s s' : ASt} {i : Nat} {cs : List Value} (h : Thing s i cs) (hn : s.next ≤ s'.next) (hg : s'.heap.get i = s.heap.get i) : Thing s' i cs := by
  obtain ⟨i1, low, z, i2, i3⟩ := h
  exact ⟨Nat.lt_of_lt_of_le i1 hn, low, z, by simp only [ASt.blk?, hg]; exact i2, i3⟩
theorem ownTo {s s' : ASt} {z : Nat} {v : Value} {n : Nat} {L : List Value} (h : Own s z v n L) (hn : s.next ≤ s'.next) (hs : ∀ i, idOf v = some i → i < s.next → s'.heap.get i = s.heap.get i) : Own s' z v n L := by
  cases h with
  | nil => exact .nil
  | of i n low l hi hb hl hlen =>
    refine .of i _ low _ (Nat.lt_of_lt_of_le hi hn) ?_ hl hlen
    simp only [ASt.blk?, hs i rfl hi]; exact hb
theorem Rs.bits {base : Nat} {s s' : ASt} {jr jx ic : Nat} {D P : List UInt8} {p p' : Nat} {M : Int} {o : Value} (h : Rs base s jr jx ic D p P M o) (hB : BitIs base s' jx ic D p') (k : BTo jx ic s s') : Rs base s' jr jx ic D p' P M o :=
  ⟨hB, thingTo h.t k.next (k.get jr h.t.lt h.rx h.rc), ownTo h.own k.next (fun i hi hl => k.get i hl (fun e => h.nx (by rw [hi, e])) (fun e => h.nc (by rw [hi, e]))), h.fresh, h.nr, h.nx, h.nc, h.rx, h.rc, h.lr⟩
theorem Rs.keeps {base : Nat} {s s' : ASt} {jr jx ic : Nat} {D P : List UInt8} {p : Nat} {M : Int} {o : Value} (h : Rs base s jr jx ic D p P M o) (hb : base ≤ s.next) (k : Stay s.next s s') : Rs base s' jr jx ic D p P M o :=
  ⟨h.bit.keeps hb k, h.t.keeps k, h.own.keeps k, h.fresh, h.nr, h.nx, h.nc, h.rx, h.rc, h.lr⟩
theorem Syms.rto {jr jx ic : Nat} {o o' : Value} {s s' : ASt} {sv : Value} {C : List Nat} (h : Syms jx ic s sv C) (hr : ∀ i, idOf sv = some i → i ≠ jr ∧ idOf o ≠ some i) (k : RTo jr jx ic o s o' s') : Syms jx ic s' sv C :=
  ⟨seesTo h.1 k.next (fun i hi hl => k.get i hl (hr i hi).1 (h.2 i hi).2.1 (h.2 i hi).2.2 (hr i hi).2), fun i hi => ⟨Nat.lt_of_lt_of_le (h.2 i hi).1 k.next, (h.2 i hi).2⟩⟩
def OutP (base jr jx ic : Nat) (D : List UInt8) (M : Int) (o : Value) (s : ASt) (v : Value) (s' : ASt) : Except Nat (Nat × List UInt8) → Prop
  | .ok (q, P) => v = .int .i64 0 ∧ ∃ o', Rs base s' jr jx ic D q P M o' ∧ RTo jr jx ic o s o' s'
  | .error e => 0 < e ∧ v = .int .i64 (e : Nat) ∧ Stay base s s'
set_option maxHeartbeats 4000000 in
theorem putP_any {lib : Prims} (hL : NoL lib) (base : Nat) (s : ASt) (jr jx ic : Nat) (D P : List UInt8) (p m : Nat) (M : Int) (hM : m = M.toNat) (c : UInt8) (o : Value) (h : Rs base s jr jx ic D p P M o) (hb : base ≤ s.next) (hPl : P.length ≤ 100000000) :
    Runs Try.prog lib 65 [rptr jr, .int .u8 c.toNat] s fun v s' => OutP base jr jx ic D M o s v s' (if m ≤ P.length then .error 7 else .ok (p, P ++ [c])) := by
  have hbl := h.bit.lt
  refine Runs.enter 25 Try.func65 rfl (hL _ rfl) rfl rfl ?_
  intro f hn hf
  have h0 : f.get 0 = rptr jr := hf 0
  have h1 : f.get 1 = .int .u8 c.toNat := hf 1
  clear hf
  have r0 := h.t.load (P := Try.prog) agBitsQ (off := 0) (c := 4) rfl (by simp)
  have r1 := h.t.load (P := Try.prog) agInt (off := 1) (c := 4) rfl (by simp)
  have r2 := h.t.load (P := Try.prog) agSl (off := 2) (c := 4) rfl (by simp)
  by_cases cm : m ≤ P.length
  · have c1 : (P.length : Int) ≥ M := by omega
    simp (config := { maxSteps := 1000000, implicitDefEqProofs := false }) (disch := omega) only [allW, allR, wfn_ret, oneOf, evalAll, Nat.reduceLT, Nat.reduceEqDiff, ↓reduceIte, hn, h0, rfld1, rfld2, r1, r2, h.own.sees.lenA Try.underlying22, h.own.self, eq_true c1, Try.results65]
    rw [if_pos cm]
    exact ⟨by decide, rfl, Stay.refl _ _⟩
  have c1 : ¬ (P.length : Int) ≥ M := by omega
  simp (config := { maxSteps := 1000000, implicitDefEqProofs := false }) (disch := omega) only [allW, allR, evalAll, partsA, Nat.reduceLT, Nat.reduceEqDiff, ↓reduceIte, hn, h0, h1, rfld1, rfld2, r1, r2, h.own.sees.lenA Try.underlying22, h.own.self, eq_false c1, build1 Try.underlying22 szU8 zU8]
  refine wstep_append_lit Try.underlying22 szU8 byU8 zU8 rfl h.own (by simp only [get_put, ↓reduceIte, Nat.reduceEqDiff]) (by decide) (by simp only [n_put, hn]; decide) (by simp only [n_put, hn]; decide) (by rfl) (by decide) rfl (by omega) (by omega) h.fresh hb ?_
  intro bs o2 s2 ho2 hF2 hst2 ht2 hid2
  have hne : ∀ j, j < s.next → idOf o ≠ some j → idOf o2 ≠ some j := fun j hj hne => by
    rcases hid2 with e | ⟨i, e, hi⟩
    · rw [e]; exact hne
    · rw [e]; intro q; injection q with q; omega
  have hnr := hne jr h.t.lt h.nr
  have hnx := hne jx hbl.1 h.nx
  have hnc := hne ic hbl.2.1 h.nc
  have hr2 := h.t.turns ht2 h.nr
  simp (config := { maxSteps := 1000000, implicitDefEqProofs := false }) (disch := omega) only [allW, Nat.reduceLT, Nat.reduceEqDiff, ↓reduceIte, hn, rfld2]
  refine wstep_store szSl hr2 rfl (by simp) ho2.sees.okCell ?_
  intro s3 hr3 hn3 hs3
  simp (config := { maxSteps := 1000000, implicitDefEqProofs := false }) (disch := omega) only [allW, wfn_ret, oneOf, Nat.reduceLT, ↓reduceIte, hn, Try.results65]
  rw [if_neg cm]
  have hst3 := hst2.trans (Stay.ofPut hn3 hs3 h.lr)
  obtain ⟨q, now, left, hB, h7⟩ := h.bit
  have hB3 : BitIs base s3 jx ic D p := by
    have hb2 : base ≤ s2.next := Nat.le_trans hb hst2.next
    have c2 := (hB.c.turns hb h.fresh ht2 h.nc).turns hb2 (fresh_cptr h.lr) (Turns.ofPut (i := jr) (o := 0) (c := some 3) hn3 hs3) (cptr_ne h.rc)
    exact ⟨q, now, left, ⟨c2, (hB.t.turns ht2 h.nx).turns (Turns.ofPut (i := jr) (o := 0) (c := none) hn3 hs3) (fun e => h.rx (by injection e)), hB.e, hB.l8, hB.r, hB.now, hB.lx, hB.lc, hB.ne⟩, h7⟩
  refine ⟨rfl, o2, ⟨hB3, hr3, ?_, hF2, hnr, hnx, hnc, h.rx, h.rc, h.lr⟩, ⟨by have := ht2.next; omega, fun i hi h1 _ _ h3 => by rw [hs3 i h1, ht2.get i hi h3], hid2⟩⟩
  rw [ofBytes_append, List.length_append]
  exact ho2.ofPut hn3 hs3 hnr
end Go.Proofs.Ytnclklboogdoiaa
set_option linter.unusedSimpArgs false
set_option linter.unusedVariables false
set_option maxRecDepth 100000
namespace Go.Cl.Nf
open Go.Cl.Fx Go.Cl.Sto
theorem cn_take_next {C : List Nat} {i : Nat} (hi : i < C.length) (n : Nat) : cn (C.take (i + 1)) n = cn (C.take i) n + if C.getD i 0 = n ∧ n ≠ 0 then 1 else 0 := by
  unfold cn
  by_cases h : n = 0
  · subst h; simp
  · rw [if_neg h, if_neg h, take_countS hi]
    by_cases c : C.getD i 0 = n
    · rw [if_pos c, if_pos ⟨c, h⟩]
    · rw [if_neg c, if_neg (fun q => c q.1)]
theorem cn_take_le (C : List Nat) (i n : Nat) : cn (C.take i) n ≤ C.length := by
  unfold cn
  split
  · omega
  · exact Nat.le_trans List.count_le_length (by rw [List.length_take]; omega)
theorem flat_loop (C : List Nat) (n : Nat) : flatA C n ++ idxA C (n + 1) C.length = flatA C (n + 1) := rfl
def rowsC : List (Nat × Nat) → List Nat
  | [] => []
  | (a, b) :: r => List.replicate a b ++ rowsC r
def rowsV (L : List (Nat × Nat)) : List Value := L.flatMap fun p => [.int .i64 (p.1 : Nat), .int .i64 (p.2 : Nat)]
theorem rowsV_at : ∀ {L : List (Nat × Nat)} {i : Nat}, i < L.length → ((rowsV L).drop (i * 2)).take 2 = [.int .i64 ((L.getD i (0, 0)).1 : Nat), .int .i64 ((L.getD i (0, 0)).2 : Nat)]
  | [], i, h => by simp at h
  | p :: r, 0, h => rfl
  | p :: r, i + 1, h => by
    have := rowsV_at (L := r) (i := i) (by simpa using h)
    show ((List.drop ((i + 1) * 2) ([Value.int .i64 (p.1 : Nat), Value.int .i64 (p.2 : Nat)] ++ rowsV r))).take 2 = _
    rw [show (i + 1) * 2 = 2 + i * 2 by omega, ← List.drop_drop]
    exact this
theorem rowsC_take : ∀ {L : List (Nat × Nat)} {i : Nat}, i < L.length → rowsC (L.take (i + 1)) = rowsC (L.take i) ++ List.replicate (L.getD i (0, 0)).1 (L.getD i (0, 0)).2
  | [], i, h => by simp at h
  | (a, b) :: r, 0, h => by simp [rowsC]
  | (a, b) :: r, i + 1, h => by
    have := rowsC_take (L := r) (i := i) (by simpa using h)
    simp only [List.take_succ_cons, rowsC]
    rw [this, List.append_assoc]; rfl
end Go.Cl.Nf
namespace Go.Proofs.Ytnclklboogdoiaa
open Go.Cl Go.Cl.Rw Go.Cl.Sto Go.Cl.Fx Go.Cl.Nf Go.Cl.Bt
theorem zCode : zeroB Try.prog 91 = some (.agg (codeV [] (.slice none 0 0)).toArray) := by kernel_rfl
theorem pCode : plainV (.agg (codeV [] (.slice none 0 0)).toArray) = true := by kernel_rfl
theorem codeV_next {C : List Nat} {i : Nat} (hi : i < C.length) (h0 : 0 < C.getD i 0) (h15 : C.getD i 0 ≤ 15) (sv : Value) : (codeV (C.take i) sv).set (C.getD i 0) (.int .i64 ((cn (C.take i) (C.getD i 0) + 1 : Nat) : Int)) = codeV (C.take (i + 1)) sv := by
  refine List.ext_getElem (by rw [List.length_set, codeV_length, codeV_length]) (fun j h1 h2 => ?_)
  rw [codeV_length] at h2
  have e : ∀ (T : List Nat) (hj : j < (codeV T sv).length), (codeV T sv)[j] = (codeV T sv).getD j undef := fun T hj => by rw [List.getD_eq_getElem?_getD, List.getElem?_eq_getElem hj]; rfl
  rw [List.getElem_set]
  by_cases c : C.getD i 0 = j
  · rw [if_pos c, e, codeV_at _ _ (by omega), cn_take_next hi, if_pos ⟨c, by omega⟩, c]
  · rw [if_neg c, e, e]
    by_cases c16 : j < 16
    · rw [codeV_at _ _ c16, codeV_at _ _ c16, cn_take_next hi, if_neg (fun q => c q.1), Nat.add_zero]
    · obtain rfl : j = 16 := by omega
      rw [codeV_sv, codeV_sv]
theorem codeV_same {C : List Nat} {i : Nat} (hi : i < C.length) (h0 : ¬ 0 < C.getD i 0) (sv : Value) : codeV (C.take (i + 1)) sv = codeV (C.take i) sv := by
  unfold codeV
  congr 1
  refine List.map_congr_left (fun n _ => ?_)
  rw [cn_take_next hi, if_neg (fun q => by omega), Nat.add_zero]
theorem codeV_setS (C : List Nat) (sv sw : Value) : (codeV C sv).set 16 sw = codeV C sw := by
  refine List.ext_getElem (by rw [List.length_set, codeV_length, codeV_length]) (fun j h1 h2 => ?_)
  rw [codeV_length] at h2
  have e : ∀ (T : Value) (hj : j < (codeV C T).length), (codeV C T)[j] = (codeV C T).getD j undef := fun T hj => by rw [List.getD_eq_getElem?_getD, List.getElem?_eq_getElem hj]; rfl
  rw [List.getElem_set]
  by_cases c : 16 = j
  · subst c; rw [if_pos rfl, e, codeV_sv]
  · rw [if_neg c, e, e, codeV_at _ _ (by omega), codeV_at _ _ (by omega)]
theorem codeV_ok (C : List Nat) {sv : Value} (h : okCell sv = true) : (codeV C sv).all okCell = true := by
  unfold codeV
  rw [List.all_append, Bool.and_eq_true]
  exact ⟨by rw [List.all_map, List.all_eq_true]; intro n _; rfl, by simp [h]⟩
theorem valEqL_ofAll : ∀ {l : List Value}, (∀ v ∈ l, valEq1 v v = true) → valEqL l l = true
  | [], _ => rfl
  | v :: l, h => by
    simp only [valEqL, Bool.and_eq_true]
    exact ⟨h v (List.mem_cons_self ..), valEqL_ofAll (fun w hw => h w (List.mem_cons_of_mem _ hw))⟩
theorem valEq_code {s : ASt} {sv : Value} {n : Nat} {L : List Value} (C : List Nat) (h : Sees s 1 sv n L) : valEq (.agg (codeV C sv).toArray) (.agg (codeV C sv).toArray) = true := by
  show valEqL (codeV C sv) (codeV C sv) = true
  refine valEqL_ofAll (fun v hv => ?_)
  unfold codeV at hv
  rcases List.mem_append.1 hv with hv | hv
  · obtain ⟨n, -, rfl⟩ := List.mem_map.1 hv
    simp [valEq1]
  · rw [List.mem_singleton.1 hv]
    cases h <;> simp [valEq1]
def MadeR (s : ASt) (C : List Nat) (v : Value) (s' : ASt) : Prop := ∃ sv, v = .tuple #[.agg (codeV C sv).toArray, .bool (decide (mayC C))] ∧ Own s' 1 sv (flatA C 15).length (natsV (flatA C 15)) ∧ Fresh s.next sv ∧ Stay s.next s s'
set_option maxHeartbeats 8000000 in
theorem made_any {lib : Prims} (hL : NoL lib) (s : ASt) (x : Value) (C : List Nat) (hx : Sees s 1 x C.length (natsV C)) (hlen : C.length ≤ 1000) (h15 : Le15 C) :
    Runs Try.prog lib 66 [x] s (MadeR s C) := by
  refine Runs.enter 67 Try.func66 rfl (hL _ rfl) rfl rfl ?_
  intro f hn hf
  have h0 : f.get 0 = x := hf 0
  clear hf
  simp (config := { maxSteps := 1000000, implicitDefEqProofs := false }) (disch := omega) only [allW, ↓reduceIte, zCode, pCode]
  refine wstep_newPtr ?_
  intro s1 hr1 hst1 hnx1
  obtain ⟨j2, hj2⟩ : ∃ j, j = s.next := ⟨_, rfl⟩
  rw [← hj2] at hr1
  simp (config := { maxSteps := 1000000, implicitDefEqProofs := false }) (disch := omega) only [allW, Nat.reduceLT, Nat.reduceAdd, ↓reduceIte, hn, ← hj2, codeV_length, zCode, pCode]
  refine wstep_newPtr ?_
  intro s2 hc2 hst2 hnx2
  obtain ⟨j4, hj4⟩ : ∃ j, j = s1.next := ⟨_, rfl⟩
  rw [← hj4] at hc2
  have hr2 := hr1.keeps hst2
  have hst12 : Stay s.next s s2 := hst1.trans (hst2.weaken (by omega))
  have hx2 := hx.keeps hst12
  simp (config := { maxSteps := 1000000, implicitDefEqProofs := false }) (disch := omega) only [allW, evalAll, Nat.reduceLT, Nat.reduceEqDiff, Nat.reduceAdd, ↓reduceIte, hn, h0, ← hj4, codeV_length, hx2.lenA uIntsF]
  refine Comes.loopOut (fun z f t => ∃ i : Nat, z = C.length - i ∧ i ≤ C.length ∧ Thing t j2 (codeV [] (.slice none 0 0)) ∧ Thing t j4 (codeV (C.take i) (.slice none 0 0)) ∧ Stay s.next s t ∧ t.next = s2.next ∧ f.n = 67 ∧ f.get 0 = x ∧ f.get 2 = .pointer (some ⟨j2, 0, some 18⟩) ∧ f.get 4 = .pointer (some ⟨j4, 0, some 18⟩) ∧ f.get 5 = .int .i64 (sumC (C.take i) : Nat) ∧ f.get 6 = .int .i64 (manyC (C.take i) : Nat) ∧ f.get 12 = x ∧ f.get 13 = .int .i64 (C.length : Nat) ∧ f.get 14 = .int .i64 (i : Nat))
    (fun z f t => z = .exit 0 ∧ Thing t j2 (codeV [] (.slice none 0 0)) ∧ Thing t j4 (codeV C (.slice none 0 0)) ∧ Stay s.next s t ∧ t.next = s2.next ∧ f.n = 67 ∧ f.get 0 = x ∧ f.get 2 = .pointer (some ⟨j2, 0, some 18⟩) ∧ f.get 4 = .pointer (some ⟨j4, 0, some 18⟩) ∧ f.get 5 = .int .i64 (sumC C : Nat) ∧ f.get 6 = .int .i64 (manyC C : Nat))
    ⟨0, rfl, by omega, hr2, hc2, hst12, rfl, by simp only [n_put, hn], by simp only [get_put, ↓reduceIte, Nat.reduceEqDiff, h0], by simp only [get_put, ↓reduceIte, Nat.reduceEqDiff], by simp only [get_put, ↓reduceIte, Nat.reduceEqDiff], by simp only [get_put, ↓reduceIte, Nat.reduceEqDiff]; rfl, by simp only [get_put, ↓reduceIte, Nat.reduceEqDiff]; rfl, by simp only [get_put, ↓reduceIte, Nat.reduceEqDiff], by simp only [get_put, ↓reduceIte, Nat.reduceEqDiff], by simp only [get_put, ↓reduceIte]; rfl⟩ ?_ ?_
  · clear hn h0 f hr1 hr2 hc2 hst1 hst2 hst12 hx2
    rintro Q hQ z f t ⟨i, rfl, hi, hr, hc, hst, hnt, hn, h0, h2, h4, h5, h6, h12, h13, h14⟩
    have hxt := hx.keeps hst
    by_cases hic : i < C.length
    rotate_left
    · obtain rfl : i = C.length := by omega
      have d1 : ¬ ((C.length : Nat) : Int) < ((C.length : Nat) : Int) := by omega
      rw [List.take_length] at hc h5 h6
      simp (config := { maxSteps := 1000000, implicitDefEqProofs := false }) (disch := omega) only [allW, Nat.reduceLT, ↓reduceIte, hn, h13, h14, eq_false d1]
      exact hQ _ _ _ ⟨rfl, hr, hc, hst, hnt, by simp only [n_put, hn], by simp only [get_put, ↓reduceIte, Nat.reduceEqDiff, h0], by simp only [get_put, ↓reduceIte, Nat.reduceEqDiff, h2], by simp only [get_put, ↓reduceIte, Nat.reduceEqDiff, h4], by simp only [get_put, ↓reduceIte, Nat.reduceEqDiff, h5], by simp only [get_put, ↓reduceIte, Nat.reduceEqDiff, h6]⟩
    have d1 : (i : Int) < ((C.length : Nat) : Int) := by omega
    have hi1 := hxt.indexAddr (P := Try.prog) (k := .i64) (x := (i : Int)) uIntsF szInt (by omega) (by omega)
    rw [Int.toNat_natCast] at hi1
    have k1 := hxt.load1 (P := Try.prog) agInt hic
    rw [natsV_getD hic] at k1
    have hs := sumC_next hic
    have hm := manyC_next hic
    have hc15 := h15 i
    have hsl := sumC_le (C.take i)
    have hml := manyC_le (C.take i)
    have htl : (C.take i).length = i := by rw [List.length_take]; omega
    by_cases e1 : 0 < C.getD i 0
    · have d3 : ((C.getD i 0 : Nat) : Int) > 0 := by omega
      rw [if_pos e1] at hs hm
      have e2 : (15 : Int) - ((C.getD i 0 : Nat) : Int) = ((15 - C.getD i 0 : Nat) : Int) := by omega
      have hsh := shlI Try.prog 3 .i64 (b := 1) (by decide) (k := 15 - C.getD i 0) (by omega)
      rw [Nat.one_mul] at hsh
      have hsh : binA Try.prog .shl 3 (.int .i64 1) (.int .i64 ((15 - C.getD i 0 : Nat) : Int)) = some (.int .i64 ((2 ^ (15 - C.getD i 0) : Nat) : Int)) := hsh
      have hpw : 2 ^ (15 - C.getD i 0) ≤ 2 ^ 15 := Nat.pow_le_pow_right (by omega) (by omega)
      have hp2 : (2 : Nat) ^ 15 = 32768 := by decide
      generalize 2 ^ (15 - C.getD i 0) = W at hs hsh hpw
      have e3 : ((sumC (C.take i) : Nat) : Int) + ((W : Nat) : Int) = ((sumC (C.take (i + 1)) : Nat) : Int) := by omega
      have e4 : ((manyC (C.take i) : Nat) : Int) + 1 = ((manyC (C.take (i + 1)) : Nat) : Int) := by omega
      have ik := arrAt (P := Try.prog) uArr szInt j4 0 18 (x := ((C.getD i 0 : Nat) : Int)) (by omega) (by omega) .i64
      rw [Int.toNat_natCast, Nat.zero_add] at ik
      have lk := hc.load (P := Try.prog) agInt (off := C.getD i 0) (c := 18) (by rw [codeV_length]) (by rw [codeV_length]; omega)
      rw [codeV_at _ _ (by omega)] at lk
      have hcl := cn_take_le C i (C.getD i 0)
      have e5 : ((cn (C.take i) (C.getD i 0) : Nat) : Int) + 1 = ((cn (C.take i) (C.getD i 0) + 1 : Nat) : Int) := by omega
      simp (config := { maxSteps := 1000000, implicitDefEqProofs := false }) (disch := omega) only [allW, Nat.reduceLT, Nat.reduceEqDiff, ↓reduceIte, hn, h4, h12, h13, h14, eq_true d1, hi1, k1, eq_true d3, kfld0, ik, lk, wrapI, e5]
      refine wstep_store szInt hc (by rw [codeV_length]) (by rw [codeV_length]; omega) rfl ?_
      intro t2 hc2 hn2 hs2
      rw [codeV_next hic e1 hc15] at hc2
      simp (config := { maxSteps := 1000000, implicitDefEqProofs := false }) (disch := omega) only [allW, Nat.reduceLT, Nat.reduceEqDiff, ↓reduceIte, hn, h5, h6, h14, e2, wrapI, hsh, e3, e4]
      exact wround_next (C.length - (i + 1)) (by omega) ⟨i + 1, rfl, by omega, hr.ofPut hn2 hs2 (by omega), hc2, hst.trans (Stay.ofPut hn2 hs2 (by omega)), by omega, by simp only [n_put, hn], by simp only [get_put, ↓reduceIte, Nat.reduceEqDiff, h0], by simp only [get_put, ↓reduceIte, Nat.reduceEqDiff, h2], by simp only [get_put, ↓reduceIte, Nat.reduceEqDiff, h4], by simp only [get_put, ↓reduceIte, Nat.reduceEqDiff], by simp only [get_put, ↓reduceIte, Nat.reduceEqDiff], by simp only [get_put, ↓reduceIte, Nat.reduceEqDiff, h12], by simp only [get_put, ↓reduceIte, Nat.reduceEqDiff, h13], by simp only [get_put, ↓reduceIte]; rfl⟩
    · have d3 : ¬ ((C.getD i 0 : Nat) : Int) > 0 := by omega
      rw [if_neg e1] at hs hm
      simp (config := { maxSteps := 1000000, implicitDefEqProofs := false }) (disch := omega) only [allW, Nat.reduceLT, Nat.reduceEqDiff, ↓reduceIte, hn, h12, h13, h14, eq_true d1, hi1, k1, eq_false d3, wrapI]
      exact wround_next (C.length - (i + 1)) (by omega) ⟨i + 1, rfl, by omega, hr, by rw [codeV_same hic e1]; exact hc, hst, hnt, by simp only [n_put, hn], by simp only [get_put, ↓reduceIte, Nat.reduceEqDiff, h0], by simp only [get_put, ↓reduceIte, Nat.reduceEqDiff, h2], by simp only [get_put, ↓reduceIte, Nat.reduceEqDiff, h4], by simp only [get_put, ↓reduceIte, Nat.reduceEqDiff, h5]; rw [hs, Nat.add_zero], by simp only [get_put, ↓reduceIte, Nat.reduceEqDiff, h6]; rw [hm, Nat.add_zero], by simp only [get_put, ↓reduceIte, Nat.reduceEqDiff, h12], by simp only [get_put, ↓reduceIte, Nat.reduceEqDiff, h13], by simp only [get_put, ↓reduceIte]; rfl⟩
  clear hn h0 f hr1 hr2 hc2 hst1 hst2 hst12 hx2
  rintro z f t ⟨rfl, hr, hc, hst, hnt, hn, h0, h2, h4, h5, h6⟩
  have hflat := count_two C
  simp (config := { maxSteps := 1000000, implicitDefEqProofs := false }) (disch := omega) only [allW, Nat.reduceLT, ↓reduceIte, hn]
  refine Comes.loopOut (fun z f t => ∃ (k : Nat) (y : Value), z = 15 - k ∧ k ≤ 15 ∧ Thing t j2 (codeV [] (.slice none 0 0)) ∧ Thing t j4 (codeV C y) ∧ Own t 1 y (flatA C k).length (natsV (flatA C k)) ∧ Fresh s2.next y ∧ Stay s.next s t ∧ s2.next ≤ t.next ∧ f.n = 67 ∧ f.get 0 = x ∧ f.get 2 = .pointer (some ⟨j2, 0, some 18⟩) ∧ f.get 4 = .pointer (some ⟨j4, 0, some 18⟩) ∧ f.get 5 = .int .i64 (sumC C : Nat) ∧ f.get 6 = .int .i64 (manyC C : Nat) ∧ f.get 9 = .int .i64 ((k : Int) + 1))
    (fun z f t => z = .exit 2 ∧ ∃ y : Value, Thing t j2 (codeV [] (.slice none 0 0)) ∧ Thing t j4 (codeV C y) ∧ Own t 1 y (flatA C 15).length (natsV (flatA C 15)) ∧ Fresh s2.next y ∧ Stay s.next s t ∧ f.n = 67 ∧ f.get 2 = .pointer (some ⟨j2, 0, some 18⟩) ∧ f.get 4 = .pointer (some ⟨j4, 0, some 18⟩) ∧ f.get 5 = .int .i64 (sumC C : Nat) ∧ f.get 6 = .int .i64 (manyC C : Nat))
    ⟨0, _, rfl, by omega, hr, hc, .nil, Fresh.nil _, hst, by omega, by simp only [n_put, hn], by simp only [get_put, ↓reduceIte, Nat.reduceEqDiff, h0], by simp only [get_put, ↓reduceIte, Nat.reduceEqDiff, h2], by simp only [get_put, ↓reduceIte, Nat.reduceEqDiff, h4], by simp only [get_put, ↓reduceIte, Nat.reduceEqDiff, h5], by simp only [get_put, ↓reduceIte, Nat.reduceEqDiff, h6], by simp only [get_put, ↓reduceIte]; rfl⟩ ?_ ?_
  · clear hn h0 h2 h4 h5 h6 f hr hc hst hnt
    rintro Q hQ z f t ⟨k, y, rfl, hk, hr, hc, hy, hyF, hst, hnt, hn, h0, h2, h4, h5, h6, h9⟩
    by_cases hk15 : k < 15
    rotate_left
    · obtain rfl : k = 15 := by omega
      have d1 : ¬ ((15 : Nat) : Int) + 1 ≤ 15 := by omega
      simp (config := { maxSteps := 1000000, implicitDefEqProofs := false }) (disch := omega) only [allW, Nat.reduceLT, ↓reduceIte, hn, h9, eq_false d1]
      exact hQ _ _ _ ⟨rfl, y, hr, hc, hy, hyF, hst, by simp only [n_put, hn], by simp only [get_put, ↓reduceIte, Nat.reduceEqDiff, h2], by simp only [get_put, ↓reduceIte, Nat.reduceEqDiff, h4], by simp only [get_put, ↓reduceIte, Nat.reduceEqDiff, h5], by simp only [get_put, ↓reduceIte, Nat.reduceEqDiff, h6]⟩
    have d1 : (k : Int) + 1 ≤ 15 := by omega
    have hxt := hx.keeps hst
    simp (config := { maxSteps := 1000000, implicitDefEqProofs := false }) (disch := omega) only [allW, evalAll, Nat.reduceLT, Nat.reduceEqDiff, ↓reduceIte, hn, h0, h9, eq_true d1, hxt.lenA uIntsF]
    refine Comes.loopOut (fun z f t => ∃ (i : Nat) (y : Value), z = C.length - i ∧ i ≤ C.length ∧ Thing t j2 (codeV [] (.slice none 0 0)) ∧ Thing t j4 (codeV C y) ∧ Own t 1 y (flatA C k ++ idxA C (k + 1) i).length (natsV (flatA C k ++ idxA C (k + 1) i)) ∧ Fresh s2.next y ∧ Stay s.next s t ∧ s2.next ≤ t.next ∧ f.n = 67 ∧ f.get 0 = x ∧ f.get 2 = .pointer (some ⟨j2, 0, some 18⟩) ∧ f.get 4 = .pointer (some ⟨j4, 0, some 18⟩) ∧ f.get 5 = .int .i64 (sumC C : Nat) ∧ f.get 6 = .int .i64 (manyC C : Nat) ∧ f.get 9 = .int .i64 ((k : Int) + 1) ∧ f.get 39 = x ∧ f.get 40 = .int .i64 (C.length : Nat) ∧ f.get 41 = .int .i64 (i : Nat))
      (fun z f t => z = .exit 4 ∧ ∃ y : Value, Thing t j2 (codeV [] (.slice none 0 0)) ∧ Thing t j4 (codeV C y) ∧ Own t 1 y (flatA C (k + 1)).length (natsV (flatA C (k + 1))) ∧ Fresh s2.next y ∧ Stay s.next s t ∧ s2.next ≤ t.next ∧ f.n = 67 ∧ f.get 0 = x ∧ f.get 2 = .pointer (some ⟨j2, 0, some 18⟩) ∧ f.get 4 = .pointer (some ⟨j4, 0, some 18⟩) ∧ f.get 5 = .int .i64 (sumC C : Nat) ∧ f.get 6 = .int .i64 (manyC C : Nat) ∧ f.get 9 = .int .i64 ((k : Int) + 1))
      ⟨0, y, rfl, by omega, hr, hc, by simp only [idxA, List.append_nil]; exact hy, hyF, hst, hnt, by simp only [n_put, hn], by simp only [get_put, ↓reduceIte, Nat.reduceEqDiff, h0], by simp only [get_put, ↓reduceIte, Nat.reduceEqDiff, h2], by simp only [get_put, ↓reduceIte, Nat.reduceEqDiff, h4], by simp only [get_put, ↓reduceIte, Nat.reduceEqDiff, h5], by simp only [get_put, ↓reduceIte, Nat.reduceEqDiff, h6], by simp only [get_put, ↓reduceIte, Nat.reduceEqDiff, h9], by simp only [get_put, ↓reduceIte, Nat.reduceEqDiff], by simp only [get_put, ↓reduceIte, Nat.reduceEqDiff], by simp only [get_put, ↓reduceIte]; rfl⟩ ?_ ?_
    · clear hn h0 h2 h4 h5 h6 h9 f hr hc hy hyF hst hnt hxt
      rintro Q2 hQ2 z f t ⟨i, y, rfl, hi, hr, hc, hy, hyF, hst, hnt, hn, h0, h2, h4, h5, h6, h9, h39, h40, h41⟩
      have hxt := hx.keeps hst
      by_cases hic : i < C.length
      rotate_left
      · obtain rfl : i = C.length := by omega
        have d2 : ¬ ((C.length : Nat) : Int) < ((C.length : Nat) : Int) := by omega
        rw [flat_loop] at hy
        simp (config := { maxSteps := 1000000, implicitDefEqProofs := false }) (disch := omega) only [allW, Nat.reduceLT, ↓reduceIte, hn, h40, h41, eq_false d2]
        exact hQ2 _ _ _ ⟨rfl, y, hr, hc, hy, hyF, hst, hnt, by simp only [n_put, hn], by simp only [get_put, ↓reduceIte, Nat.reduceEqDiff, h0], by simp only [get_put, ↓reduceIte, Nat.reduceEqDiff, h2], by simp only [get_put, ↓reduceIte, Nat.reduceEqDiff, h4], by simp only [get_put, ↓reduceIte, Nat.reduceEqDiff, h5], by simp only [get_put, ↓reduceIte, Nat.reduceEqDiff, h6], by simp only [get_put, ↓reduceIte, Nat.reduceEqDiff, h9]⟩
      have d2 : (i : Int) < ((C.length : Nat) : Int) := by omega
      have hi1 := hxt.indexAddr (P := Try.prog) (k := .i64) (x := (i : Int)) uIntsF szInt (by omega) (by omega)
      rw [Int.toNat_natCast] at hi1
      have k1 := hxt.load1 (P := Try.prog) agInt hic
      rw [natsV_getD hic] at k1
      by_cases e1 : C.getD i 0 = k + 1
      · have d3 : ((C.getD i 0 : Nat) : Int) = (k : Int) + 1 := by omega
        have lsv := hc.load (P := Try.prog) agIntsS (off := 16) (c := 18) (by rw [codeV_length]) (by rw [codeV_length]; omega)
        rw [codeV_sv] at lsv
        have hlen2 : (flatA C k ++ idxA C (k + 1) i).length ≤ 3000 := by
          have h1 := hflat k
          have h2 := idxA_length C (k + 1) i (by omega)
          have h3 : (C.take i).count (k + 1) ≤ (C.take i).length := List.count_le_length
          rw [List.length_take] at h3
          rw [List.length_append]; omega
        simp (config := { maxSteps := 1000000, implicitDefEqProofs := false }) (disch := omega) only [allW, partsA, Nat.reduceLT, Nat.reduceEqDiff, ↓reduceIte, hn, h4, h9, h39, h40, h41, eq_true d2, hi1, k1, eq_true d3, kfld1, lsv, build1 uIntsF szInt zIntF]
        refine wstep_append_lit uIntsF szInt byIntF zIntF rfl hy (by simp only [get_put, ↓reduceIte, Nat.reduceEqDiff]) (by decide) (by simp only [n_put, hn]; decide) (by simp only [n_put, hn]; decide) (by rfl) (by decide) rfl (by omega) (by omega) hyF hnt ?_
        intro bs y2 t2 hy2 hyF2 hst2 ht2 hid2
        have hj2y : idOf y ≠ some j2 := fun e => by have := hyF _ e; omega
        have hj4y : idOf y ≠ some j4 := fun e => by have := hyF _ e; omega
        have hj4y2 : idOf y2 ≠ some j4 := fun e => by have := hyF2 _ e; omega
        have hr2 := hr.turns ht2 hj2y
        have hc2 := hc.turns ht2 hj4y
        have e6 : natsV (flatA C k ++ idxA C (k + 1) i) ++ [Value.int .i64 (i : Nat)] = natsV (flatA C k ++ idxA C (k + 1) (i + 1)) := by
          simp only [idxA]
          rw [if_pos e1, ← List.append_assoc]
          exact natsV_app _ [i]
        have e7 : (flatA C k ++ idxA C (k + 1) i).length + 1 = (flatA C k ++ idxA C (k + 1) (i + 1)).length := by
          simp only [idxA]
          rw [if_pos e1, ← List.append_assoc]
          simp only [List.length_append, List.length_singleton]
        rw [e6, e7] at hy2
        simp (config := { maxSteps := 1000000, implicitDefEqProofs := false }) (disch := omega) only [allW, Nat.reduceLT, Nat.reduceEqDiff, ↓reduceIte, hn, h4, kfld1]
        refine wstep_store szIntsS hc2 (by rw [codeV_length]) (by rw [codeV_length]; omega) hy2.sees.okCell ?_
        intro t3 hc3 hn3 hs3
        rw [codeV_setS] at hc3
        simp (config := { maxSteps := 1000000, implicitDefEqProofs := false }) (disch := omega) only [allW, Nat.reduceLT, Nat.reduceEqDiff, ↓reduceIte, hn, h41, wrapI]
        have hn2' := ht2.next
        exact wround_next (C.length - (i + 1)) (by omega) ⟨i + 1, y2, rfl, by omega, hr2.ofPut hn3 hs3 (by omega), hc3, hy2.ofPut hn3 hs3 hj4y2, hyF2, (hst.trans (hst2.weaken (by omega))).trans (Stay.ofPut hn3 hs3 (by omega)), by omega, by simp only [n_put, hn], by simp only [get_put, ↓reduceIte, Nat.reduceEqDiff, h0], by simp only [get_put, ↓reduceIte, Nat.reduceEqDiff, h2], by simp only [get_put, ↓reduceIte, Nat.reduceEqDiff, h4], by simp only [get_put, ↓reduceIte, Nat.reduceEqDiff, h5], by simp only [get_put, ↓reduceIte, Nat.reduceEqDiff, h6], by simp only [get_put, ↓reduceIte, Nat.reduceEqDiff, h9], by simp only [get_put, ↓reduceIte, Nat.reduceEqDiff, h39], by simp only [get_put, ↓reduceIte, Nat.reduceEqDiff, h40], by simp only [get_put, ↓reduceIte]; rfl⟩
      · have d3 : ¬ ((C.getD i 0 : Nat) : Int) = (k : Int) + 1 := by omega
        have e8 : idxA C (k + 1) (i + 1) = idxA C (k + 1) i := by simp only [idxA]; rw [if_neg e1, List.append_nil]
        simp (config := { maxSteps := 1000000, implicitDefEqProofs := false }) (disch := omega) only [allW, Nat.reduceLT, Nat.reduceEqDiff, ↓reduceIte, hn, h9, h39, h40, h41, eq_true d2, hi1, k1, eq_false d3, wrapI]
        exact wround_next (C.length - (i + 1)) (by omega) ⟨i + 1, y, rfl, by omega, hr, hc, by rw [e8]; exact hy, hyF, hst, hnt, by simp only [n_put, hn], by simp only [get_put, ↓reduceIte, Nat.reduceEqDiff, h0], by simp only [get_put, ↓reduceIte, Nat.reduceEqDiff, h2], by simp only [get_put, ↓reduceIte, Nat.reduceEqDiff, h4], by simp only [get_put, ↓reduceIte, Nat.reduceEqDiff, h5], by simp only [get_put, ↓reduceIte, Nat.reduceEqDiff, h6], by simp only [get_put, ↓reduceIte, Nat.reduceEqDiff, h9], by simp only [get_put, ↓reduceIte, Nat.reduceEqDiff, h39], by simp only [get_put, ↓reduceIte, Nat.reduceEqDiff, h40], by simp only [get_put, ↓reduceIte]; rfl⟩
    clear hn h0 h2 h4 h5 h6 h9 f hr hc hy hyF hst hnt hxt
    rintro z f t ⟨rfl, y, hr, hc, hy, hyF, hst, hnt, hn, h0, h2, h4, h5, h6, h9⟩
    simp (config := { maxSteps := 1000000, implicitDefEqProofs := false }) (disch := omega) only [allW, Nat.reduceLT, ↓reduceIte, hn, h9, wrapI]
    exact wround_next (15 - (k + 1)) (by omega) ⟨k + 1, y, rfl, by omega, hr, hc, hy, hyF, hst, hnt, by simp only [n_put, hn], by simp only [get_put, ↓reduceIte, Nat.reduceEqDiff, h0], by simp only [get_put, ↓reduceIte, Nat.reduceEqDiff, h2], by simp only [get_put, ↓reduceIte, Nat.reduceEqDiff, h4], by simp only [get_put, ↓reduceIte, Nat.reduceEqDiff, h5], by simp only [get_put, ↓reduceIte, Nat.reduceEqDiff, h6], by simp only [get_put, ↓reduceIte]; rfl⟩
  clear hn h0 h2 h4 h5 h6 f hr hc hst hnt
  rintro z f t ⟨rfl, y, hr, hc, hy, hyF, hst, hn, h2, h4, h5, h6⟩
  have lall := hc.loadAll (P := Try.prog) agCode (by rw [codeV_length]; exact szCode) (c := 18) (by rw [codeV_length])
  have hmz : (if sumC C = 32768 then true else if sumC C < 32768 then decide (((manyC C : Nat) : Int) ≤ 1) else false) = decide (mayC C) := by
    by_cases c1 : sumC C = 32768
    · rw [if_pos c1]; exact (decide_eq_true (.inl c1)).symm
    · rw [if_neg c1]
      by_cases c2 : sumC C < 32768
      · rw [if_pos c2]
        exact decide_eq_decide.2 ⟨fun h => .inr ⟨c2, by omega⟩, fun h => by rcases h with h | h <;> omega⟩
      · rw [if_neg c2]; exact (decide_eq_false (fun h => by rcases h with h | h <;> omega)).symm
  have fin : ∀ (t' : ASt) (b : Bool), Thing t' j2 (codeV C y) → t'.next = t.next → (∀ i, i ≠ j2 → t'.heap.get i = t.heap.get i) → b = decide (mayC C) → MadeR s C (.tuple #[.agg (codeV C y).toArray, .bool b]) t' := fun t' b h1 h2 h3 h4 => by
    subst h4
    exact ⟨y, rfl, hy.ofPut h2 h3 (fun e => by have := hyF _ e; omega), fun i hi => by have := hyF i hi; omega, hst.trans (Stay.ofPut h2 h3 (by omega))⟩
  by_cases c1 : sumC C = 32768
  · have d1 : ((sumC C : Nat) : Int) = 32768 := by omega
    rw [if_pos c1] at hmz
    simp (config := { maxSteps := 1000000, implicitDefEqProofs := false }) (disch := omega) only [allW, allR, Nat.reduceLT, Nat.reduceEqDiff, ↓reduceIte, undef, hn, h2, h4, h5, lall, eq_true d1]
    refine wstep_storeAll szCode (by decide) hr (codeV_length _ _) rfl (codeV_length _ _) (codeV_ok C hy.sees.okCell) ?_
    intro t2 hr2 hn2 hs2
    have lall2 := hr2.loadAll (P := Try.prog) agCode (by rw [codeV_length]; exact szCode) (c := 18) (by rw [codeV_length])
    simp (config := { maxSteps := 1000000, implicitDefEqProofs := false }) (disch := omega) only [allW, wfn_ret, oneOf, Nat.reduceLT, Nat.reduceEqDiff, ↓reduceIte, undef, hn, h2, resultsA_cell, lall2, Try.results66]
    exact fin t2 true hr2 hn2 hs2 hmz
  have d1 : ¬ ((sumC C : Nat) : Int) = 32768 := by omega
  rw [if_neg c1] at hmz
  by_cases c2 : sumC C < 32768
  · have d2 : ((sumC C : Nat) : Int) < 32768 := by omega
    rw [if_pos c2] at hmz
    simp (config := { maxSteps := 1000000, implicitDefEqProofs := false }) (disch := omega) only [allW, allR, Nat.reduceLT, Nat.reduceEqDiff, ↓reduceIte, hn, h2, h4, h5, h6, lall, eq_false d1, eq_true d2]
    refine wstep_storeAll szCode (by decide) hr (codeV_length _ _) rfl (codeV_length _ _) (codeV_ok C hy.sees.okCell) ?_
    intro t2 hr2 hn2 hs2
    have lall2 := hr2.loadAll (P := Try.prog) agCode (by rw [codeV_length]; exact szCode) (c := 18) (by rw [codeV_length])
    simp (config := { maxSteps := 1000000, implicitDefEqProofs := false }) (disch := omega) only [allW, wfn_ret, oneOf, Nat.reduceLT, Nat.reduceEqDiff, ↓reduceIte, undef, hn, h2, resultsA_cell, lall2, Try.results66]
    exact fin t2 _ hr2 hn2 hs2 hmz
  · have d2 : ¬ ((sumC C : Nat) : Int) < 32768 := by omega
    rw [if_neg c2] at hmz
    simp (config := { maxSteps := 1000000, implicitDefEqProofs := false }) (disch := omega) only [allW, allR, Nat.reduceLT, Nat.reduceEqDiff, ↓reduceIte, undef, hn, h2, h4, h5, lall, eq_false d1, eq_false d2]
    refine wstep_storeAll szCode (by decide) hr (codeV_length _ _) rfl (codeV_length _ _) (codeV_ok C hy.sees.okCell) ?_
    intro t2 hr2 hn2 hs2
    have lall2 := hr2.loadAll (P := Try.prog) agCode (by rw [codeV_length]; exact szCode) (c := 18) (by rw [codeV_length])
    simp (config := { maxSteps := 1000000, implicitDefEqProofs := false }) (disch := omega) only [allW, wfn_ret, oneOf, Nat.reduceLT, Nat.reduceEqDiff, ↓reduceIte, undef, hn, h2, resultsA_cell, lall2, Try.results66]
    exact fin t2 false hr2 hn2 hs2 hmz
theorem szArr2 : sizeB Try.prog 106 = some 2 := by kernel_rfl
theorem agArr2 : isAggB Try.prog 106 = some true := by kernel_rfl
theorem zArr2 : zeroB Try.prog 106 = some (.agg #[.int .i64 0, .int .i64 0]) := by kernel_rfl
theorem pArr2 : plainV (.agg #[.int .i64 0, .int .i64 0]) = true := rfl
theorem uArr2 : Try.prog.underlying 106 = some (.array 2 3) := Try.underlying106
theorem uRows : Try.prog.underlying 113 = some (.slice 106) := Try.underlying113
theorem rowsC_len : ∀ L : List (Nat × Nat), (∀ x ∈ L, x.1 ≤ 200) → (rowsC L).length ≤ 200 * L.length
  | [], _ => Nat.le_refl _
  | (a, b) :: r, h => by
    have h1 := h (a, b) (by simp)
    have h2 := rowsC_len r (fun x hx => h x (by simp [hx]))
    simp only [rowsC, List.length_append, List.length_replicate, List.length_cons]
    have h1 : a ≤ 200 := h1
    omega
def NatsR (s : ASt) (C : List Nat) (v : Value) (s' : ASt) : Prop := Own s' 1 v C.length (natsV C) ∧ Fresh s.next v ∧ Stay s.next s s'
set_option maxHeartbeats 8000000 in
theorem rows_any {lib : Prims} (hL : NoL lib) (s : ASt) (x : Value) (L : List (Nat × Nat)) (hx : Sees s 2 x L.length (rowsV L)) (hlen : L.length ≤ 10) (h15 : ∀ x ∈ L, x.1 ≤ 200) :
    Runs Try.prog lib 67 [x] s (NatsR s (rowsC L)) := by
  refine Runs.enter 24 Try.func67 rfl (hL _ rfl) rfl rfl ?_
  intro f hn hf
  have h0 : f.get 0 = x := hf 0
  clear hf
  simp (config := { maxSteps := 1000000, implicitDefEqProofs := false }) (disch := omega) only [allW, evalAll, Nat.reduceLT, Nat.reduceEqDiff, ↓reduceIte, hn, h0, hx.lenA uRows]
  refine Comes.loopOut (fun z f t => ∃ (i : Nat) (y : Value), z = L.length - i ∧ i ≤ L.length ∧ Own t 1 y (rowsC (L.take i)).length (natsV (rowsC (L.take i))) ∧ Fresh s.next y ∧ Stay s.next s t ∧ f.n = 24 ∧ f.get 3 = y ∧ f.get 6 = x ∧ f.get 7 = .int .i64 (L.length : Nat) ∧ f.get 8 = .int .i64 (i : Nat))
    (fun z f t => z = .exit 0 ∧ f.n = 24 ∧ ∃ y, f.get 3 = y ∧ NatsR s (rowsC L) y t)
    ⟨0, _, rfl, by omega, .nil, Fresh.nil _, Stay.refl _ _, by simp only [n_put, hn], by simp only [get_put, ↓reduceIte, Nat.reduceEqDiff], by simp only [get_put, ↓reduceIte, Nat.reduceEqDiff], by simp only [get_put, ↓reduceIte, Nat.reduceEqDiff], by simp only [get_put, ↓reduceIte]; rfl⟩ ?_ ?_
  · clear hn h0 f
    rintro Q hQ z f t ⟨i, y, rfl, hi, hy, hyF, hst, hn, h3, h6, h7, h8⟩
    have hxt := hx.keeps hst
    by_cases hic : i < L.length
    rotate_left
    · obtain rfl : i = L.length := by omega
      have d1 : ¬ ((L.length : Nat) : Int) < ((L.length : Nat) : Int) := by omega
      rw [List.take_length] at hy
      simp (config := { maxSteps := 1000000, implicitDefEqProofs := false }) (disch := omega) only [allW, Nat.reduceLT, ↓reduceIte, hn, h7, h8, eq_false d1]
      exact hQ _ _ _ ⟨rfl, by simp only [n_put, hn], y, by simp only [get_put, ↓reduceIte, Nat.reduceEqDiff, h3], hy, hyF, hst⟩
    have d1 : (i : Int) < ((L.length : Nat) : Int) := by omega
    have hi1 := hxt.indexAddr (P := Try.prog) (k := .i64) (x := (i : Int)) uRows szArr2 (by omega) (by omega)
    rw [Int.toNat_natCast] at hi1
    have k1 := hxt.loadAgg (P := Try.prog) agArr2 szArr2 hic
    rw [rowsV_at hic] at k1
    have hmem : L.getD i (0, 0) ∈ L := by rw [List.getD_eq_getElem?_getD, List.getElem?_eq_getElem hic]; exact List.getElem_mem hic
    have ha := h15 _ hmem
    have htk := rowsC_take hic
    have hlr := rowsC_len (L.take i) (fun x hx => h15 x (List.mem_of_mem_take hx))
    have hlt : (L.take i).length = i := by rw [List.length_take]; omega
    generalize hab : L.getD i (0, 0) = ab at k1 ha htk
    simp (config := { maxSteps := 1000000, implicitDefEqProofs := false }) (disch := omega) only [allW, Nat.reduceLT, Nat.reduceEqDiff, ↓reduceIte, hn, h6, h7, h8, eq_true d1, hi1, k1, zArr2, pArr2]
    refine wstep_newPtr ?_
    intro t1 he1 hst1 hnx1
    obtain ⟨je, hje⟩ : ∃ j, j = t.next := ⟨_, rfl⟩
    rw [← hje] at he1
    have hy1 := hy.keeps hst1
    simp (config := { maxSteps := 1000000, implicitDefEqProofs := false }) (disch := omega) only [allW, Nat.reduceLT, Nat.reduceEqDiff, ↓reduceIte, hn, ← hje]
    refine wstep_storeAll szArr2 (by decide) he1 rfl rfl rfl rfl ?_
    intro t2 he2 hn2 hs2
    have hy2 := hy1.ofPut hn2 hs2 (fun e => by have := hy.idlt _ e; omega)
    have he2 : Thing t2 je [.int .i64 (ab.1 : Nat), .int .i64 (ab.2 : Nat)] := he2
    have hst2 : Stay s.next s t2 := (hst.trans (hst1.weaken (by have := hst.next; omega))).trans (Stay.ofPut hn2 hs2 (by have := hst.next; omega))
    have w0 := he2.load (P := Try.prog) agInt (off := 0) (c := 3) rfl (by simp)
    have w1 := he2.load (P := Try.prog) agInt (off := 1) (c := 3) rfl (by simp)
    have i0 := arrAt (P := Try.prog) uArr2 szInt je 0 3 (x := 0) (by omega) (by omega) .i64
    have i1 := arrAt (P := Try.prog) uArr2 szInt je 0 3 (x := 1) (by omega) (by omega) .i64
    have i0 : indexAddrA Try.prog 106 (.pointer (some ⟨je, 0, some 3⟩)) (.int .i64 0) = some (.pointer (some ⟨je, 0, some 3⟩)) := i0
    have i1 : indexAddrA Try.prog 106 (.pointer (some ⟨je, 0, some 3⟩)) (.int .i64 1) = some (.pointer (some ⟨je, 1, some 3⟩)) := i1
    simp (config := { maxSteps := 1000000, implicitDefEqProofs := false }) (disch := omega) only [allW, allR, Nat.reduceLT, Nat.reduceAdd, ↓reduceIte, hn, List.length_cons, List.length_nil, i0, w0]
    refine Comes.loopOut (fun z f t' => ∃ (j : Nat) (y : Value), z = ab.1 - j ∧ j ≤ ab.1 ∧ Own t' 1 y (rowsC (L.take i) ++ List.replicate j ab.2).length (natsV (rowsC (L.take i) ++ List.replicate j ab.2)) ∧ Fresh s.next y ∧ (∀ q, idOf y = some q → q ≠ je) ∧ Thing t' je [.int .i64 (ab.1 : Nat), .int .i64 (ab.2 : Nat)] ∧ Stay s.next s t' ∧ je < t'.next ∧ f.n = 24 ∧ f.get 3 = y ∧ f.get 5 = .pointer (some ⟨je, 0, some 3⟩) ∧ f.get 6 = x ∧ f.get 7 = .int .i64 (L.length : Nat) ∧ f.get 8 = .int .i64 (i : Nat) ∧ f.get 13 = .int .i64 (ab.1 : Nat) ∧ f.get 14 = .int .i64 (j : Nat))
      (fun z f t' => z = .exit 2 ∧ ∃ (y : Value), Own t' 1 y (rowsC (L.take (i + 1))).length (natsV (rowsC (L.take (i + 1)))) ∧ Fresh s.next y ∧ Stay s.next s t' ∧ f.n = 24 ∧ f.get 3 = y ∧ f.get 6 = x ∧ f.get 7 = .int .i64 (L.length : Nat) ∧ f.get 8 = .int .i64 (i : Nat))
      ⟨0, y, rfl, by omega, by simpa using hy2, hyF, fun q hq => by have := hy.idlt q hq; omega, he2, hst2, he2.lt, by simp only [n_put, hn], by simp only [get_put, ↓reduceIte, Nat.reduceEqDiff, h3], by simp only [get_put, ↓reduceIte, Nat.reduceEqDiff], by simp only [get_put, ↓reduceIte, Nat.reduceEqDiff, h6], by simp only [get_put, ↓reduceIte, Nat.reduceEqDiff, h7], by simp only [get_put, ↓reduceIte, Nat.reduceEqDiff, h8], by simp only [get_put, ↓reduceIte, Nat.reduceEqDiff], by simp only [get_put, ↓reduceIte]; rfl⟩ ?_ ?_
    · clear hn h3 h6 h7 h8 f
      rintro Q2 hQ2 z f t' ⟨j, y, rfl, hj, hy, hyF, hyj, he, hst, hjl, hn, h3, h5, h6, h7, h8, h13, h14⟩
      by_cases hja : j < ab.1
      rotate_left
      · obtain rfl : j = ab.1 := by omega
        have d2 : ¬ ((ab.1 : Nat) : Int) < ((ab.1 : Nat) : Int) := by omega
        rw [← htk] at hy
        simp (config := { maxSteps := 1000000, implicitDefEqProofs := false }) (disch := omega) only [allW, allR, Nat.reduceLT, ↓reduceIte, hn, h13, h14, eq_false d2]
        exact hQ2 _ _ _ ⟨rfl, y, hy, hyF, hst, by simp only [n_put, hn], by simp only [get_put, ↓reduceIte, Nat.reduceEqDiff, h3], by simp only [get_put, ↓reduceIte, Nat.reduceEqDiff, h6], by simp only [get_put, ↓reduceIte, Nat.reduceEqDiff, h7], by simp only [get_put, ↓reduceIte, Nat.reduceEqDiff, h8]⟩
      have d2 : (j : Int) < ((ab.1 : Nat) : Int) := by omega
      have w1 := he.load (P := Try.prog) agInt (off := 1) (c := 3) rfl (by simp)
      have hl3 : (rowsC (L.take i) ++ List.replicate j ab.2).length ≤ 3000 := by rw [List.length_append, List.length_replicate]; omega
      simp (config := { maxSteps := 1000000, implicitDefEqProofs := false }) (disch := omega) only [allW, allR, partsA, Nat.reduceLT, Nat.reduceEqDiff, ↓reduceIte, hn, h3, h5, h13, h14, eq_true d2, i1, w1, build1 uIntsF szInt zIntF]
      refine wstep_append_lit uIntsF szInt byIntF zIntF rfl hy (by simp only [get_put, ↓reduceIte, Nat.reduceEqDiff]) (by decide) (by simp only [n_put, hn]; decide) (by simp only [n_put, hn]; decide) (by rfl) (by decide) rfl (by omega) (by omega) hyF hst.next ?_
      intro bs y2 t6 hy2 hF2 hst2 ht2 hid2
      have e6 : natsV (rowsC (L.take i) ++ List.replicate j ab.2) ++ [Value.int .i64 (ab.2 : Nat)] = natsV (rowsC (L.take i) ++ List.replicate (j + 1) ab.2) := by
        rw [List.replicate_succ', ← List.append_assoc]
        exact natsV_app _ [ab.2]
      have e7 : (rowsC (L.take i) ++ List.replicate j ab.2).length + 1 = (rowsC (L.take i) ++ List.replicate (j + 1) ab.2).length := by
        simp only [List.length_append, List.length_replicate]; omega
      rw [e6, e7] at hy2
      simp (config := { maxSteps := 1000000, implicitDefEqProofs := false }) (disch := omega) only [allW, Nat.reduceLT, Nat.reduceEqDiff, ↓reduceIte, hn, h14, wrapI]
      have hn6 := ht2.next
      exact wround_next (ab.1 - (j + 1)) (by omega) ⟨j + 1, y2, rfl, by omega, hy2, hF2, fun q hq => by
        rcases hid2 with e | ⟨w, e, hw⟩
        · exact hyj q (by rw [← e]; exact hq)
        · rw [e] at hq; injection hq with hq; omega, he.turns ht2 (fun e => hyj je e rfl), hst.trans (hst2.weaken (by have := hst.next; omega)), by omega, by simp only [n_put, hn], by simp only [get_put, ↓reduceIte, Nat.reduceEqDiff], by simp only [get_put, ↓reduceIte, Nat.reduceEqDiff, h5], by simp only [get_put, ↓reduceIte, Nat.reduceEqDiff, h6], by simp only [get_put, ↓reduceIte, Nat.reduceEqDiff, h7], by simp only [get_put, ↓reduceIte, Nat.reduceEqDiff, h8], by simp only [get_put, ↓reduceIte, Nat.reduceEqDiff, h13], by simp only [get_put, ↓reduceIte]; rfl⟩
    clear hn h3 h6 h7 h8 f
    rintro z f t' ⟨rfl, y, hy, hyF, hst, hn, h3, h6, h7, h8⟩
    simp (config := { maxSteps := 1000000, implicitDefEqProofs := false }) (disch := omega) only [allW, Nat.reduceLT, ↓reduceIte, hn, h8, wrapI]
    exact wround_next (L.length - (i + 1)) (by omega) ⟨i + 1, y, rfl, by omega, hy, hyF, hst, by simp only [n_put, hn], by simp only [get_put, ↓reduceIte, Nat.reduceEqDiff, h3], by simp only [get_put, ↓reduceIte, Nat.reduceEqDiff, h6], by simp only [get_put, ↓reduceIte, Nat.reduceEqDiff, h7], by simp only [get_put, ↓reduceIte]; rfl⟩
  clear hn h0 f
  rintro z f t ⟨rfl, hn, y, h3, hR⟩
  simp (config := { maxSteps := 1000000, implicitDefEqProofs := false }) (disch := omega) only [allW, wfn_ret, oneOf, Nat.reduceLT, ↓reduceIte, hn, h3, Try.results67]
  exact hR
theorem fixed_rows : rowsC [(144, 8), (112, 9), (24, 7), (8, 8)] = fixedL := by decide +kernel
theorem fixed_rowsD : rowsC [(32, 5)] = fixedD := by decide +kernel
theorem bPair (a b : Int) : buildA Try.prog 106 [(0, .int .i64 a), (1, .int .i64 b)] = some (.agg #[.int .i64 a, .int .i64 b]) := by
  unfold buildA; rw [uArr2, zArr2]
  have c1 : ∀ a : Int, (Value.int .i64 a).cells.toList = [.int .i64 a] := fun _ => rfl
  simp only [fillA, c1]
  simp [szInt, plainV, plain1, cells_agg, setAt]
theorem bRows4 (s : ASt) : buildSliceA Try.prog s 113 4 [(0, .agg #[.int .i64 144, .int .i64 8]), (1, .agg #[.int .i64 112, .int .i64 9]), (2, .agg #[.int .i64 24, .int .i64 7]), (3, .agg #[.int .i64 8, .int .i64 8])] = newSlice s (rowsV [(144, 8), (112, 9), (24, 7), (8, 8)]) 4 2 := by
  unfold buildSliceA; rw [uRows]; simp only [szArr2, zArr2]; rfl
theorem bRows1 (s : ASt) : buildSliceA Try.prog s 113 1 [(0, .agg #[.int .i64 32, .int .i64 5])] = newSlice s (rowsV [(32, 5)]) 1 2 := by
  unfold buildSliceA; rw [uRows]; simp only [szArr2, zArr2]; rfl
def FixR (s : ASt) (v : Value) (s' : ASt) : Prop := ∃ sa sb, v = .tuple #[.agg (codeV fixedL sa).toArray, .agg (codeV fixedD sb).toArray] ∧ Own s' 1 sa (flatA fixedL 15).length (natsV (flatA fixedL 15)) ∧ Own s' 1 sb (flatA fixedD 15).length (natsV (flatA fixedD 15)) ∧ Fresh s.next sa ∧ Fresh s.next sb ∧ Stay s.next s s'
set_option maxHeartbeats 8000000 in
theorem fixedP_any {lib : Prims} (hL : NoL lib) (s : ASt) : Runs Try.prog lib 54 [] s (FixR s) := by
  refine Runs.enter 25 Try.func54 rfl (hL _ rfl) rfl rfl ?_
  intro f hn hf
  clear hf
  simp (config := { maxSteps := 1000000, implicitDefEqProofs := false }) (disch := omega) only [allW, ↓reduceIte, zCode, pCode]
  refine wstep_newPtr ?_
  intro s1 hp1 hst1 hnx1
  obtain ⟨j0, hj0⟩ : ∃ j, j = s.next := ⟨_, rfl⟩
  rw [← hj0] at hp1
  simp (config := { maxSteps := 1000000, implicitDefEqProofs := false }) (disch := omega) only [allW, Nat.reduceLT, Nat.reduceAdd, ↓reduceIte, hn, ← hj0, codeV_length, zCode, pCode]
  refine wstep_newPtr ?_
  intro s2 hq2 hst2 hnx2
  obtain ⟨j1, hj1⟩ : ∃ j, j = s1.next := ⟨_, rfl⟩
  rw [← hj1] at hq2
  have hp2 := hp1.keeps hst2
  have k2 : Stay s.next s s2 := hst1.trans (hst2.weaken (by omega))
  simp (config := { maxSteps := 1000000, implicitDefEqProofs := false }) (disch := omega) only [allW, partsA, Nat.reduceLT, Nat.reduceEqDiff, Nat.reduceAdd, ↓reduceIte, hn, ← hj1, codeV_length, bPair, bRows4]
  refine wstep_newSlice (by rfl) ?_
  intro yr s3 hyr hyrF k3
  simp (config := { maxSteps := 1000000, implicitDefEqProofs := false }) (disch := omega) only [allW, allR, evalAll, Nat.reduceLT, ↓reduceIte, hn]
  refine (rows_any hL s3 yr [(144, 8), (112, 9), (24, 7), (8, 8)] hyr.sees (by decide) (by decide)).mono ?_
  rintro ya s4 ⟨hya, hyaF, k4⟩
  rw [fixed_rows] at hya
  simp (config := { maxSteps := 1000000, implicitDefEqProofs := false }) (disch := omega) only [allW, allR, evalAll, Nat.reduceLT, ↓reduceIte, hn]
  refine (made_any hL s4 ya fixedL hya.sees (by rw [show fixedL.length = 288 from fixL_length]; decide) fixedL_le).mono ?_
  rintro _ s5 ⟨sa, rfl, hsa, hsaF, k5⟩
  have n3 := k3.next
  have n4 := k4.next
  have n5 := k5.next
  have k35 : Stay s2.next s2 s5 := (k3.trans (k4.weaken n3)).trans (k5.weaken (by omega))
  simp (config := { maxSteps := 1000000, implicitDefEqProofs := false }) (disch := omega) only [allW, Nat.reduceLT, Nat.reduceEqDiff, ↓reduceIte, hn, ext20, ext21, zCode, pCode]
  refine wstep_newPtr ?_
  intro s6 hc6 hst6 hnx6
  obtain ⟨j2, hj2⟩ : ∃ j, j = s5.next := ⟨_, rfl⟩
  rw [← hj2] at hc6
  have hsa6 := hsa.keeps hst6
  simp (config := { maxSteps := 1000000, implicitDefEqProofs := false }) (disch := omega) only [allW, Nat.reduceLT, Nat.reduceEqDiff, Nat.reduceAdd, ↓reduceIte, hn, ← hj2, codeV_length]
  refine wstep_storeAll szCode (by decide) hc6 (codeV_length _ _) rfl (codeV_length _ _) (codeV_ok _ hsa.sees.okCell) ?_
  intro s7 hc7 hn7 hs7
  have hsa7 := hsa6.ofPut hn7 hs7 (fun e => by have := hsa.idlt _ e; omega)
  have k7 : Stay s2.next s2 s7 := (k35.trans (hst6.weaken (by omega))).trans (Stay.ofPut hn7 hs7 (by omega))
  simp (config := { maxSteps := 1000000, implicitDefEqProofs := false }) (disch := omega) only [allW, partsA, Nat.reduceLT, Nat.reduceEqDiff, ↓reduceIte, hn, bPair, bRows1]
  refine wstep_newSlice (by rfl) ?_
  intro yr2 s8 hyr2 hyrF2 k8
  simp (config := { maxSteps := 1000000, implicitDefEqProofs := false }) (disch := omega) only [allW, allR, evalAll, Nat.reduceLT, ↓reduceIte, hn]
  refine (rows_any hL s8 yr2 [(32, 5)] hyr2.sees (by decide) (by decide)).mono ?_
  rintro yb s9 ⟨hyb, hybF, k9⟩
  rw [fixed_rowsD] at hyb
  simp (config := { maxSteps := 1000000, implicitDefEqProofs := false }) (disch := omega) only [allW, allR, evalAll, Nat.reduceLT, ↓reduceIte, hn]
  refine (made_any hL s9 yb fixedD hyb.sees (by decide) fixedD_le).mono ?_
  rintro _ s10 ⟨sb, rfl, hsb, hsbF, k10⟩
  have n8 := k8.next
  have n9 := k9.next
  have n10 := k10.next
  have k810 : Stay s7.next s7 s10 := (k8.trans (k9.weaken n8)).trans (k10.weaken (by omega))
  have hc10 := hc7.keeps k810
  have hsa10 := hsa7.keeps k810
  simp (config := { maxSteps := 1000000, implicitDefEqProofs := false }) (disch := omega) only [allW, Nat.reduceLT, Nat.reduceEqDiff, ↓reduceIte, hn, ext20, ext21, zCode, pCode]
  refine wstep_newPtr ?_
  intro s11 hd11 hst11 hnx11
  obtain ⟨j4, hj4⟩ : ∃ j, j = s10.next := ⟨_, rfl⟩
  rw [← hj4] at hd11
  have hsb11 := hsb.keeps hst11
  have hsa11 := hsa10.keeps hst11
  have hc11 := hc10.keeps hst11
  simp (config := { maxSteps := 1000000, implicitDefEqProofs := false }) (disch := omega) only [allW, Nat.reduceLT, Nat.reduceEqDiff, Nat.reduceAdd, ↓reduceIte, hn, ← hj4, codeV_length]
  refine wstep_storeAll szCode (by decide) hd11 (codeV_length _ _) rfl (codeV_length _ _) (codeV_ok _ hsb.sees.okCell) ?_
  intro s12 hd12 hn12 hs12
  have hsb12 := hsb11.ofPut hn12 hs12 (fun e => by have := hsb.idlt _ e; omega)
  have hsa12 := hsa11.ofPut hn12 hs12 (fun e => by have := hsa10.idlt _ e; omega)
  have hc12 := hc11.ofPut hn12 hs12 (by have := hc10.lt; omega)
  have kk : Stay s2.next s2 s12 := ((k7.trans (k810.weaken (by have := k7.next; omega))).trans (hst11.weaken (by have := k7.next; omega))).trans (Stay.ofPut hn12 hs12 (by have := k7.next; omega))
  have hp12 := hp2.keeps kk
  have hq12 := hq2.keeps kk
  have lc := hc12.loadAll (P := Try.prog) agCode (by rw [codeV_length]; exact szCode) (c := 18) (by rw [codeV_length])
  have ld := hd12.loadAll (P := Try.prog) agCode (by rw [codeV_length]; exact szCode) (c := 18) (by rw [codeV_length])
  simp (config := { maxSteps := 1000000, implicitDefEqProofs := false }) (disch := omega) only [allW, Nat.reduceLT, Nat.reduceEqDiff, ↓reduceIte, hn]
  obtain ⟨A, hA⟩ : ∃ A : Nat → Bool, A = fun j => decide (j < s12.next ∧ j ≠ j0 ∧ j ≠ j1) := ⟨_, rfl⟩
  have hAl : ∀ j, A j = true → j < s12.next := by
    intro j h
    rw [hA] at h
    exact (of_decide_eq_true h).1
  have hA0 : A j0 = false := by rw [hA]; exact decide_eq_false (fun h => h.2.1 rfl)
  have hA1 : A j1 = false := by rw [hA]; exact decide_eq_false (fun h => h.2.2 rfl)
  have hsq := Stay.spare s12 0
  have hnq : (spare s12 0).next = s12.next + 0 := spare_next _ _
  have hj2l := hc12.lt
  have hj4l := hd12.lt
  have l2 : ∀ k, LA.lowV A (some (.pointer (some ⟨j2, k, some 18⟩))) = true := fun k => LA.lowV_ptr (A := A) (i := j2) (by rw [hA]; exact decide_eq_true ⟨hj2l, by omega, by omega⟩)
  have l4 : ∀ k, LA.lowV A (some (.pointer (some ⟨j4, k, some 18⟩))) = true := fun k => LA.lowV_ptr (A := A) (i := j4) (by rw [hA]; exact decide_eq_true ⟨hj4l, by omega, by omega⟩)
  have ve : ∀ (C : List Nat) (v : Value) (n : Nat) (L : List Value), Own s12 1 v n L → valEq (.agg (codeV C v).toArray) (.agg (codeV C v).toArray) = true := fun C v n L h => valEq_code C h.sees
  have hcq := (hc12.keeps hsq).loadAll (P := Try.prog) agCode (by rw [codeV_length]; exact szCode) (c := 18) (by rw [codeV_length])
  have hdq := (hd12.keeps hsq).loadAll (P := Try.prog) agCode (by rw [codeV_length]; exact szCode) (c := 18) (by rw [codeV_length])
  refine LB.Drawn.looseK A hAl 2 0 (by kernel_rfl) (by kernel_rfl) ?_
  simp (config := { maxSteps := 1000000, implicitDefEqProofs := false }) (disch := omega) only [allW, allL, allB, Nat.reduceLT, Nat.reduceEqDiff, ↓reduceIte, hn, hcq, hdq, l2, l4, ve _ _ _ _ hsa12, ve _ _ _ _ hsb12]
  refine LB.sstep_storeAll szCode (by decide) (hp12.keeps hsq) (codeV_length _ _) rfl (codeV_length _ _) (codeV_ok _ hsa.sees.okCell) (fun _ => hA0) ?_
  intro t1 ht1 nt1 et1
  have hdq1 := ((hd12.keeps hsq).ofPut nt1 et1 (by omega)).loadAll (P := Try.prog) agCode (by rw [codeV_length]; exact szCode) (c := 18) (by rw [codeV_length])
  try simp (config := { maxSteps := 1000000, implicitDefEqProofs := false }) (disch := omega) only [allW, allB, Nat.add_one_sub_one, Nat.reduceLT, Nat.reduceEqDiff, ↓reduceIte, hn]
  refine LB.sstep_storeAll szCode (by decide) ((hq12.keeps hsq).ofPut nt1 et1 (by omega)) (codeV_length _ _) rfl (codeV_length _ _) (codeV_ok _ hsb.sees.okCell) (fun _ => hA1) ?_
  intro t2 ht2 nt2 et2
  have ht12 : Thing t2 j0 _ := ht1.ofPut nt2 et2 (by omega)
  have la := ht12.loadAll (P := Try.prog) agCode (by rw [List.toList_toArray, codeV_length]; exact szCode) (c := 18) (by rw [List.toList_toArray, codeV_length])
  have lb := ht2.loadAll (P := Try.prog) agCode (by rw [List.toList_toArray, codeV_length]; exact szCode) (c := 18) (by rw [List.toList_toArray, codeV_length])
  simp (config := { maxSteps := 1000000, implicitDefEqProofs := false }) (disch := omega) only [allW, allB, Nat.sub_self, oneOf, Nat.reduceLT, Nat.reduceEqDiff, ↓reduceIte, allW, wfn_ret, oneOf, Nat.reduceLT, Nat.reduceEqDiff, ↓reduceIte, hn, resultsA_cell, la, lb, Try.results54]
  have fin : ∀ y (n : Nat) (L : List Value), Own s12 1 y n L → (∀ i, idOf y = some i → j1 < i) → Own t2 1 y n L := fun y n L h1 h2 => ((h1.keeps hsq).ofPut nt1 et1 (fun e => by have := h2 _ e; omega)).ofPut nt2 et2 (fun e => by have := h2 _ e; omega)
  have k7n := k7.next
  exact ⟨sa, sb, rfl, fin _ _ _ hsa12 (fun i hi => by have := hsaF i hi; omega), fin _ _ _ hsb12 (fun i hi => by have := hsbF i hi; omega), fun i hi => by have := hsaF i hi; omega, fun i hi => by have := hsbF i hi; omega, (((k2.trans (kk.weaken (by omega))).trans (hsq.weaken (by have := kk.next; omega))).trans (Stay.ofPut nt1 et1 (by omega))).trans (Stay.ofPut nt2 et2 (by omega))⟩
end Go.Proofs.Ytnclklboogdoiaa
set_option linter.unusedSimpArgs false
set_option linter.unusedVariables false
set_option maxRecDepth 100000
namespace Go.Cl.Nf
open Go.Cl.Fx Go.Cl.Sto
def gradeX (D : List UInt8) (s g from_ p : Nat) : Except Nat (Nat × Nat) :=
  if s < 2 * g then .ok (from_ + s, p) else match takeE D p (s / g - 1) with
    | .error e => .error e
    | .ok x => .ok (from_ + (g + s % g) * 2 ^ (s / g - 1) + x, p + (s / g - 1))
def lenXX (D : List UInt8) (s p : Nat) : Except Nat (Nat × Nat) := match takeE D p (lenW s) with | .error e => .error e | .ok x => .ok (lenOf s x, p + lenW s)
def dstXX (D : List UInt8) (s p : Nat) : Except Nat (Nat × Nat) := match takeE D p (dstW s) with | .error e => .error e | .ok x => .ok (dstOf s x, p + dstW s)
theorem gradeX_len (D : List UInt8) {s p : Nat} (h1 : 257 ≤ s) (h2 : s < 285) (hp : p ≤ 8 * D.length) : gradeX D (s - 257) 4 3 p = lenXX D s p := by
  unfold gradeX lenXX
  by_cases c : s ≤ 264
  · have ew : lenW s = 0 := by unfold lenW; rw [if_pos (.inl c)]
    rw [if_pos (by omega), ew, takeE_ok (by omega)]
    dsimp only
    have eo : lenOf s (bitsN D p 0) = s - 254 := by unfold lenOf; rw [if_pos c]
    rw [eo, show 3 + (s - 257) = s - 254 by omega, Nat.add_zero]
  · have ew : lenW s = (s - 261) / 4 := by unfold lenW; rw [if_neg (by omega)]
    have e1 : (s - 257) / 4 - 1 = (s - 261) / 4 := by omega
    have e2 : (s - 257) % 4 = (s - 265) % 4 := by omega
    rw [if_neg (by omega), ew, e1, e2]
    cases takeE D p ((s - 261) / 4) with
    | error e => rfl
    | ok x =>
      dsimp only
      have eo : lenOf s x = (4 + (s - 265) % 4) * 2 ^ ((s - 261) / 4) + 3 + x := by unfold lenOf; rw [if_neg c, if_neg (by omega)]
      rw [eo]
      generalize (4 + (s - 265) % 4) * 2 ^ ((s - 261) / 4) = X
      rw [show 3 + X + x = X + 3 + x by omega]
theorem gradeX_dst (D : List UInt8) {s p : Nat} (hp : p ≤ 8 * D.length) : gradeX D s 2 1 p = dstXX D s p := by
  unfold gradeX dstXX
  by_cases c : s ≤ 3
  · have ew : dstW s = 0 := by unfold dstW; rw [if_pos c]
    rw [if_pos (by omega), ew, takeE_ok (by omega)]
    dsimp only
    have eo : dstOf s (bitsN D p 0) = s + 1 := by unfold dstOf; rw [if_pos c]
    rw [eo, Nat.add_comm 1 s]; rfl
  · have ew : dstW s = s / 2 - 1 := by unfold dstW; rw [if_neg c]
    rw [if_neg (by omega), ew]
    cases takeE D p (s / 2 - 1) with
    | error e => rfl
    | ok x =>
      dsimp only
      have eo : dstOf s x = (2 + s % 2) * 2 ^ (s / 2 - 1) + 1 + x := by unfold dstOf; rw [if_neg c]
      rw [eo]
      generalize (2 + s % 2) * 2 ^ (s / 2 - 1) = X
      rw [show 1 + X + x = X + 1 + x by omega]
theorem copyX_eq (D : List UInt8) (M : Nat) (B : List Nat) (s p : Nat) (P : List UInt8) : copyX D M B s p P = if 285 < s then .error 4 else bindX (lenXX D s p) fun a => bindX (sym D B a.2) fun c => if 30 ≤ c.1 then .error 4 else bindX (dstXX D c.1 c.2) fun b => if P.length < b.1 then .error 4 else bindX (rep M b.1 a.1 P) fun P' => .ok (b.2, P') := by
  unfold copyX lenXX
  split
  · rfl
  cases takeE D p (lenW s) with
  | error e => rfl
  | ok x =>
    dsimp only
    rw [bindX_ok]
    dsimp only
    cases sym D B (p + lenW s) with
    | error e => rfl
    | ok c =>
      rw [bindX_ok]
      dsimp only
      split
      · rfl
      unfold dstXX
      cases takeE D c.2 (dstW c.1) with
      | error e => rfl
      | ok y =>
        dsimp only
        rw [bindX_ok]
        dsimp only
        split
        · rfl
        cases rep M (dstOf c.1 y) (lenOf s x) P with
        | error e => rfl
        | ok P' => rfl
end Go.Cl.Nf
namespace Go.Proofs.Ytnclklboogdoiaa
open Go.Cl Go.Cl.Rw Go.Cl.Sto Go.Cl.Fx Go.Cl.Nf Go.Cl.Bt
def GrdR (base jr jx ic : Nat) (D P : List UInt8) (M : Int) (o : Value) (s : ASt) (v : Value) (s' : ASt) : Except Nat (Nat × Nat) → Prop
  | .ok (x, q) => v = .tuple #[.int .i64 (x : Nat), .int .i64 0] ∧ Rs base s' jr jx ic D q P M o ∧ BTo jx ic s s'
  | .error e => 0 < e ∧ (∃ n : Int, v = .tuple #[.int .i64 n, .int .i64 (e : Nat)]) ∧ BTo jx ic s s'
set_option maxHeartbeats 8000000 in
theorem gradedP_any {lib : Prims} (hL : NoL lib) (base : Nat) (s : ASt) (jr jx ic : Nat) (D P : List UInt8) (p : Nat) (M : Int) (o : Value) (h : Rs base s jr jx ic D p P M o) (hb : base ≤ s.next) (hlen : D.length ≤ 1000000) (q g fr : Nat) (hg : (g = 4 ∧ q ≤ 27) ∨ (g = 2 ∧ q ≤ 29)) (hfr : fr ≤ 10) :
    Runs Try.prog lib 73 [rptr jr, .int .i64 (q : Nat), .int .i64 (g : Nat), .int .i64 (fr : Nat)] s fun v s' => GrdR base jr jx ic D P M o s v s' (gradeX D q g fr p) := by
  refine Runs.enter 45 Try.func73 rfl (hL _ rfl) rfl rfl ?_
  intro f hn hf
  have h0 : f.get 0 = rptr jr := hf 0
  have h1 : f.get 1 = .int .i64 (q : Nat) := hf 1
  have h2 : f.get 2 = .int .i64 (g : Nat) := hf 2
  have h3 : f.get 3 = .int .i64 (fr : Nat) := hf 3
  clear hf
  have r0 := h.t.load (P := Try.prog) agBitsQ (off := 0) (c := 4) rfl (by simp)
  unfold gradeX
  by_cases c1 : q < 2 * g
  · have d1 : (q : Int) < 2 * (g : Int) := by omega
    have e1 : (fr : Int) + (q : Int) = ((fr + q : Nat) : Int) := by omega
    rw [if_pos c1]
    simp (config := { maxSteps := 1000000, implicitDefEqProofs := false }) (disch := omega) only [allW, wfn_ret, oneOf, Nat.reduceLT, Nat.reduceEqDiff, ↓reduceIte, hn, h1, h2, h3, wrapI, eq_true d1, e1, Try.results73]
    exact ⟨rfl, h, BTo.refl _ _ _⟩
  have d1 : ¬ (q : Int) < 2 * (g : Int) := by omega
  rw [if_neg c1]
  have hgz : ¬ (g : Int) = 0 := by omega
  have q4 : (q : Int).tdiv (g : Int) = ((q / g : Nat) : Int) := by rw [Int.tdiv_eq_ediv_of_nonneg (by omega)]; rfl
  have r4 : (q : Int).tmod (g : Int) = ((q % g : Nat) : Int) := by rw [Int.tmod_eq_emod_of_nonneg (by omega)]; rfl
  have hqg : 2 ≤ q / g ∧ q / g ≤ 14 ∧ q % g ≤ 3 ∧ (g = 4 → q / g ≤ 6) := by rcases hg with ⟨rfl, h⟩ | ⟨rfl, h⟩ <;> omega
  have e2 : ((q / g : Nat) : Int) - 1 = ((q / g - 1 : Nat) : Int) := by omega
  have e3 : (g : Int) + ((q % g : Nat) : Int) = ((g + q % g : Nat) : Int) := by omega
  have hb13 : (g + q % g) * 2 ^ (q / g - 1) ≤ 100000 := by
    rcases hg with ⟨rfl, h⟩ | ⟨rfl, h⟩
    · have h1 : 2 ^ (q / 4 - 1) ≤ 2 ^ 5 := Nat.pow_le_pow_right (by omega) (by omega)
      have h2 : (4 + q % 4) * 2 ^ (q / 4 - 1) ≤ 7 * 2 ^ 5 := Nat.mul_le_mul (by omega) h1
      have h3 : (2 : Nat) ^ 5 = 32 := by decide
      omega
    · have h1 : 2 ^ (q / 2 - 1) ≤ 2 ^ 13 := Nat.pow_le_pow_right (by omega) (by omega)
      have h2 : (2 + q % 2) * 2 ^ (q / 2 - 1) ≤ 3 * 2 ^ 13 := Nat.mul_le_mul (by omega) h1
      have h3 : (2 : Nat) ^ 13 = 8192 := by decide
      omega
  have hsh := shlS Try.prog 3 .i64 (x := g + q % g) (k := q / g - 1) (by omega) (by omega)
  have hbl := bitsN_lt D p (q / g - 1)
  have hpw : 2 ^ (q / g - 1) ≤ 2 ^ 13 := Nat.pow_le_pow_right (by omega) (by omega)
  have hp13 : (2 : Nat) ^ 13 = 8192 := by decide
  generalize hX : (g + q % g) * 2 ^ (q / g - 1) = X at hb13 hsh
  simp (config := { maxSteps := 1000000, implicitDefEqProofs := false }) (disch := omega) only [allW, allR, evalAll, Nat.reduceLT, Nat.reduceEqDiff, ↓reduceIte, hn, h0, h1, h2, wrapI, eq_false d1, bin_quo, q4, e2, rfld0, r0]
  refine (number_any hL base s jx ic D p (q / g - 1) h.bit hb (by omega) hlen).mono ?_
  intro v s1 hN
  cases hx : takeE D p (q / g - 1) with
  | error e =>
    rw [hx] at hN
    obtain ⟨rfl, rfl, hto⟩ := hN
    have e4 : (fr : Int) + ((X : Nat) : Int) + 0 = ((fr + X : Nat) : Int) := by omega
    simp (config := { maxSteps := 1000000, implicitDefEqProofs := false }) (disch := omega) only [allW, wfn_ret, oneOf, Nat.reduceLT, Nat.reduceEqDiff, ↓reduceIte, hn, h1, h2, h3, ext20, ext21, bin_rem, r4, e3, wrapI, hsh, e4, Try.results73]
    exact ⟨by decide, ⟨_, rfl⟩, hto⟩
  | ok y =>
    rw [hx] at hN
    obtain ⟨rfl, hB, hto⟩ := hN
    have hy := (takeE_le hx).2
    have e4 : (fr : Int) + ((X : Nat) : Int) + ((y : Nat) : Int) = ((fr + X + y : Nat) : Int) := by omega
    simp (config := { maxSteps := 1000000, implicitDefEqProofs := false }) (disch := omega) only [allW, wfn_ret, oneOf, Nat.reduceLT, Nat.reduceEqDiff, ↓reduceIte, hn, h1, h2, h3, ext20, ext21, bin_rem, r4, e3, wrapI, hsh, e4, Try.results73]
    exact ⟨rfl, h.bits hB hto, hto⟩
set_option maxHeartbeats 8000000 in
theorem lengthP_any {lib : Prims} (hL : NoL lib) (base : Nat) (s : ASt) (jr jx ic : Nat) (D P : List UInt8) (p : Nat) (M : Int) (o : Value) (h : Rs base s jr jx ic D p P M o) (hb : base ≤ s.next) (hlen : D.length ≤ 1000000) (q : Nat) (hq : 257 ≤ q) (hq2 : q ≤ 400) :
    Runs Try.prog lib 72 [rptr jr, .int .i64 (q : Nat)] s fun v s' => GrdR base jr jx ic D P M o s v s' (if 285 < q then .error 4 else lenXX D q p) := by
  refine Runs.enter 16 Try.func72 rfl (hL _ rfl) rfl rfl ?_
  intro f hn hf
  have h0 : f.get 0 = rptr jr := hf 0
  have h1 : f.get 1 = .int .i64 (q : Nat) := hf 1
  clear hf
  have hpD := h.bit.le
  by_cases c1 : q = 285
  · have d1 : (q : Int) = 285 := by omega
    rw [if_neg (by omega)]
    have e : lenXX D q p = .ok (258, p) := by
      subst c1
      unfold lenXX
      have ew : lenW 285 = 0 := rfl
      rw [ew, takeE_ok (by omega)]; rfl
    rw [e]
    simp (config := { maxSteps := 1000000, implicitDefEqProofs := false }) (disch := omega) only [allW, wfn_ret, oneOf, Nat.reduceLT, Nat.reduceEqDiff, ↓reduceIte, hn, h1, eq_true d1, Try.results72]
    exact ⟨rfl, h, BTo.refl _ _ _⟩
  have d1 : ¬ (q : Int) = 285 := by omega
  by_cases c2 : 285 < q
  · have d2 : (q : Int) > 285 := by omega
    rw [if_pos c2]
    simp (config := { maxSteps := 1000000, implicitDefEqProofs := false }) (disch := omega) only [allW, wfn_ret, oneOf, Nat.reduceLT, Nat.reduceEqDiff, ↓reduceIte, hn, h1, eq_false d1, eq_true d2, Try.results72]
    exact ⟨by decide, ⟨_, rfl⟩, BTo.refl _ _ _⟩
  have d2 : ¬ (q : Int) > 285 := by omega
  rw [if_neg c2, ← gradeX_len D hq (by omega) hpD]
  have e1 : (q : Int) - 257 = ((q - 257 : Nat) : Int) := by omega
  simp (config := { maxSteps := 1000000, implicitDefEqProofs := false }) (disch := omega) only [allW, allR, evalAll, Nat.reduceLT, Nat.reduceEqDiff, ↓reduceIte, hn, h0, h1, eq_false d1, eq_false d2, wrapI, e1]
  refine (gradedP_any hL base s jr jx ic D P p M o h hb hlen (q - 257) 4 3 (.inl ⟨rfl, by omega⟩) (by omega)).mono ?_
  intro v s1 hG
  cases hx : gradeX D (q - 257) 4 3 p with
  | error e =>
    rw [hx] at hG
    obtain ⟨he, ⟨n, rfl⟩, hto⟩ := hG
    simp (config := { maxSteps := 1000000, implicitDefEqProofs := false }) (disch := omega) only [allW, wfn_ret, oneOf, Nat.reduceLT, Nat.reduceEqDiff, ↓reduceIte, hn, ext20, ext21, Try.results72]
    exact ⟨he, ⟨n, rfl⟩, hto⟩
  | ok y =>
    obtain ⟨y, r⟩ := y
    rw [hx] at hG
    obtain ⟨rfl, hR, hto⟩ := hG
    simp (config := { maxSteps := 1000000, implicitDefEqProofs := false }) (disch := omega) only [allW, wfn_ret, oneOf, Nat.reduceLT, Nat.reduceEqDiff, ↓reduceIte, hn, ext20, ext21, Try.results72]
    exact ⟨rfl, hR, hto⟩
def CodP (jr jx ic : Nat) (o : Value) (s : ASt) (v : Value) (C : List Nat) : Prop := ∃ sv, v = .agg (codeV C sv).toArray ∧ Syms jx ic s sv C ∧ (∀ i, idOf sv = some i → i ≠ jr ∧ idOf o ≠ some i)
theorem CodP.to {jr jx ic : Nat} {o o' v : Value} {s s' : ASt} {C : List Nat} (h : CodP jr jx ic o s v C) (k : RTo jr jx ic o s o' s') : CodP jr jx ic o' s' v C := by
  obtain ⟨sv, h1, h2, h3⟩ := h
  refine ⟨sv, h1, h2.rto h3 k, fun i hi => ⟨(h3 i hi).1, ?_⟩⟩
  rcases k.id with e | ⟨q, e, hq⟩
  · rw [e]; exact (h3 i hi).2
  · rw [e]; intro e2; injection e2 with e2; have := (h2.2 i hi).1; omega
theorem valEq_t2 (k : IntKind) (a b : Int) : valEq (.tuple #[.int k a, .int k b]) (.tuple #[.int k a, .int k b]) = true := by simp [valEq, valEqM, valEq2, valEq1]
set_option maxHeartbeats 8000000 in
theorem copyP_any {lib : Prims} (hL : NoL lib) (base : Nat) (s : ASt) (jr jx ic : Nat) (D P : List UInt8) (p m : Nat) (M : Int) (hM : m = M.toNat) (o : Value) (h : Rs base s jr jx ic D p P M o) (hb : base ≤ s.next) (hlen : D.length ≤ 1000000) (hPm : P.length ≤ m) (hm : m ≤ 100000000) (q : Nat) (hq : 257 ≤ q) (hq2 : q ≤ 400) (v : Value) (B : List Nat) (hB : CodP jr jx ic o s v B) (hBl : B.length ≤ 1000) :
    Runs Try.prog lib 69 [rptr jr, .int .i64 (q : Nat), v] s fun v s' => OutP base jr jx ic D M o s v s' (copyX D m B q p P) := by
  obtain ⟨sv, rfl, hS, hSo⟩ := hB
  rw [copyX_eq]
  have hlt := h.bit.lt
  refine Runs.enter 72 Try.func69 rfl (hL _ rfl) rfl rfl ?_
  intro f hn hf
  have h0 : f.get 0 = rptr jr := hf 0
  have h1 : f.get 1 = .int .i64 (q : Nat) := hf 1
  have h2 : f.get 2 = .agg (codeV B sv).toArray := hf 2
  clear hf
  simp (config := { maxSteps := 1000000, implicitDefEqProofs := false }) (disch := omega) only [allW, Nat.reduceLT, ↓reduceIte, hn, h2]
  refine wstep_newPtr ?_
  intro s1 hbx hst1 hnx1
  obtain ⟨jb, hjb⟩ : ∃ j, j = s.next := ⟨_, rfl⟩
  rw [← hjb] at hbx
  have hR1 := h.keeps hb hst1
  have hb1 : base ≤ s1.next := by omega
  have k1 : RTo jr jx ic o s o s1 := (RTo.refl jr jx ic o s).kept hst1
  have hol : ∀ i, idOf o = some i → i < s.next := fun i hi => h.own.idlt i hi
  have stayAll : ∀ o' t, RTo jr jx ic o s o' t → Stay base s t := fun o' t k => k.stay h.lr hlt.2.2.1 hlt.2.2.2.1 h.fresh hb
  simp (config := { maxSteps := 1000000, implicitDefEqProofs := false }) (disch := omega) only [allW, allR, evalAll, Nat.reduceLT, Nat.reduceEqDiff, Nat.reduceAdd, ↓reduceIte, hn, h0, h1, ← hjb, codeV_length]
  refine (lengthP_any hL base s1 jr jx ic D P p M o hR1 hb1 hlen q hq hq2).mono ?_
  intro v s2 hG
  by_cases cg : 285 < q
  · rw [if_pos cg] at hG ⊢
    obtain ⟨-, ⟨n, rfl⟩, hto⟩ := hG
    simp (config := { maxSteps := 1000000, implicitDefEqProofs := false }) (disch := omega) only [allW, allR, wfn_ret, oneOf, Nat.reduceLT, Nat.reduceEqDiff, ↓reduceIte, hn, ext20, ext21, eq_false (show ¬ ((4 : Nat) : Int) = 0 by decide), Try.results69]
    exact ⟨by decide, rfl, stayAll _ _ (k1.trans (btoR hto))⟩
  rw [if_neg cg] at hG ⊢
  cases hx : lenXX D q p with
  | error e =>
    rw [hx] at hG
    obtain ⟨he, ⟨n, rfl⟩, hto⟩ := hG
    have c0 : ¬ (e : Int) = 0 := by omega
    simp (config := { maxSteps := 1000000, implicitDefEqProofs := false }) (disch := omega) only [allW, allR, wfn_ret, oneOf, Nat.reduceLT, Nat.reduceEqDiff, ↓reduceIte, hn, ext20, ext21, eq_false c0, Try.results69]
    rw [bindX_err]
    exact ⟨he, rfl, stayAll _ _ (k1.trans (btoR hto))⟩
  | ok a =>
  obtain ⟨n, q2⟩ := a
  rw [hx] at hG
  obtain ⟨rfl, hR2, to2⟩ := hG
  rw [bindX_ok]
  dsimp only
  have hn1000 : n ≤ 1000 := by
    unfold lenXX at hx
    cases hy : takeE D p (lenW q) with
    | error e => rw [hy] at hx; cases hx
    | ok y =>
      rw [hy] at hx
      injection hx with hx
      injection hx with hx _
      have := (takeE_le hy).2
      have hbl := bitsN_lt D p (lenW q)
      rw [← hx]
      exact lenOf_le (by omega) (by omega)
  have k2 := k1.trans (btoR to2)
  have hb2 : base ≤ s2.next := by have := to2.next; omega
  have hbx2 := thingTo hbx to2.next (to2.get jb hbx.lt (by omega) (by omega))
  have hS2 := (hS.rto hSo k1).to to2
  have r0 := hR2.t.load (P := Try.prog) agBitsQ (off := 0) (c := 4) rfl (by simp)
  simp (config := { maxSteps := 1000000, implicitDefEqProofs := false }) (disch := omega) only [allW, allR, Nat.reduceLT, Nat.reduceEqDiff, ↓reduceIte, hn, ext20, ext21]
  obtain ⟨A, hA⟩ : ∃ A : Nat → Bool, A = fun j => decide (j < s2.next) := ⟨_, rfl⟩
  have hAl : ∀ j, A j = true → j < s2.next := by
    intro j h
    rw [hA] at h
    exact of_decide_eq_true h
  have hAo : ∀ j, j < s2.next → A j = true := fun j h => by rw [hA]; exact decide_eq_true h
  have hsq := Stay.spare s2 0
  have hnq : (spare s2 0).next = s2.next + 0 := spare_next _ _
  have hRq := hR2.keeps hb2 hsq
  have hbq := hbx2.keeps hsq
  have lr : ∀ k, LA.lowV A (some (.pointer (some ⟨jr, k, some 4⟩))) = true := fun k => LA.lowV_ptr (A := A) (i := jr) (hAo _ hR2.t.lt)
  have lb : ∀ k, LA.lowV A (some (.pointer (some ⟨jb, k, some 18⟩))) = true := fun k => LA.lowV_ptr (A := A) (i := jb) (hAo _ hbx2.lt)
  have r0q := hRq.t.load (P := Try.prog) agBitsQ (off := 0) (c := 4) rfl (by simp)
  have lall := hbq.loadAll (P := Try.prog) agCode (by rw [codeV_length]; exact szCode) (c := 18) (by rw [codeV_length])
  have kq : BTo jx ic s2 (spare s2 0) := ⟨by omega, fun i hi _ _ => hsq.get i hi⟩
  refine LB.Drawn.looseK A hAl 0 0 (by kernel_rfl) (by kernel_rfl) ?_
  simp (config := { maxSteps := 1000000, implicitDefEqProofs := false }) (disch := omega) only [allW, allR, allL, allB, Nat.reduceSub, evalAll, Nat.reduceLT, Nat.reduceEqDiff, ↓reduceIte, hn, h0, rfld0, r0q, lall, lr, lb, valEq_code B hS2.1]
  refine (symP_any hL base (spare s2 0) jx ic D q2 hRq.bit (by omega) hlen B sv (hS2.to kq) hBl).mono ?_
  intro v s3 hY
  refine ⟨fun h => h.elim, ?_⟩
  cases hy : sym D B q2 with
  | error e =>
    rw [hy] at hY
    obtain ⟨he, rfl, hto⟩ := hY
    have c0 : ¬ (e : Int) = 0 := by omega
    simp (config := { maxSteps := 1000000, implicitDefEqProofs := false }) (disch := omega) only [allW, allR, allL, allB, oneOf, Nat.reduceLT, Nat.reduceEqDiff, ↓reduceIte, allW, allR, wfn_ret, oneOf, Nat.reduceLT, Nat.reduceEqDiff, ↓reduceIte, hn, ext20, ext21, valEq_t2, eq_false c0, Try.results69]
    rw [bindX_err]
    exact ⟨he, rfl, stayAll _ _ (k2.trans (btoR (kq.trans hto)))⟩
  | ok c =>
  obtain ⟨c, q3⟩ := c
  rw [hy] at hY
  obtain ⟨rfl, hB3, to3⟩ := hY
  rw [bindX_ok]
  dsimp only
  have hR3 := hRq.bits hB3 to3
  have k3 := k2.trans (btoR (kq.trans to3))
  have hb3 : base ≤ s3.next := by have := to3.next; omega
  by_cases cc : 30 ≤ c
  · have d1 : ((c : Nat) : Int) ≥ 30 := by omega
    rw [if_pos cc]
    simp (config := { maxSteps := 1000000, implicitDefEqProofs := false }) (disch := omega) only [allW, allR, allL, allB, oneOf, Nat.reduceLT, Nat.reduceEqDiff, ↓reduceIte, allW, allR, wfn_ret, oneOf, Nat.reduceLT, Nat.reduceEqDiff, ↓reduceIte, hn, ext20, ext21, valEq_t2, eq_true d1, Try.results69]
    exact ⟨by decide, rfl, stayAll _ _ k3⟩
  have d1 : ¬ ((c : Nat) : Int) ≥ 30 := by omega
  rw [if_neg cc]
  simp (config := { maxSteps := 1000000, implicitDefEqProofs := false }) (disch := omega) only [allW, allR, allL, allB, evalAll, Nat.reduceLT, Nat.reduceEqDiff, ↓reduceIte, allW, allR, evalAll, Nat.reduceLT, Nat.reduceEqDiff, ↓reduceIte, hn, h0, ext20, ext21, valEq_t2, eq_false d1]
  refine (gradedP_any hL base s3 jr jx ic D P q3 M o hR3 hb3 hlen c 2 1 (.inr ⟨rfl, by omega⟩) (by omega)).mono ?_
  rw [gradeX_dst D hB3.le]
  intro v s4 hG4
  cases hz : dstXX D c q3 with
  | error e =>
    rw [hz] at hG4
    obtain ⟨he, ⟨n', rfl⟩, hto⟩ := hG4
    have c0 : ¬ (e : Int) = 0 := by omega
    simp (config := { maxSteps := 1000000, implicitDefEqProofs := false }) (disch := omega) only [allW, allR, wfn_ret, oneOf, Nat.reduceLT, Nat.reduceEqDiff, ↓reduceIte, hn, ext20, ext21, eq_false c0, Try.results69]
    rw [bindX_err]
    exact ⟨he, rfl, stayAll _ _ (k3.trans (btoR hto))⟩
  | ok b =>
  obtain ⟨d, q4⟩ := b
  rw [hz] at hG4
  obtain ⟨rfl, hR4, to4⟩ := hG4
  rw [bindX_ok]
  dsimp only
  have k4 := k3.trans (btoR to4)
  have hb4 : base ≤ s4.next := by have := to4.next; omega
  have hd1 : 1 ≤ d := by
    unfold dstXX at hz
    cases hy : takeE D q3 (dstW c) with
    | error e => rw [hy] at hz; cases hz
    | ok y =>
      rw [hy] at hz
      injection hz with hz
      injection hz with hz _
      rw [← hz]
      unfold dstOf
      split <;> omega
  have r2 := hR4.t.load (P := Try.prog) agSl (off := 2) (c := 4) rfl (by simp)
  have hlen4 := hR4.own.sees.lenA (P := Try.prog) Try.underlying22 (s2 := s4)
  by_cases cd : P.length < d
  · have d2 : ((d : Nat) : Int) > ((P.length : Nat) : Int) := by omega
    rw [if_pos cd]
    simp (config := { maxSteps := 1000000, implicitDefEqProofs := false }) (disch := omega) only [allW, allR, wfn_ret, oneOf, evalAll, Nat.reduceLT, Nat.reduceEqDiff, ↓reduceIte, hn, h0, ext20, ext21, rfld2, r2, hlen4, eq_true d2, Try.results69]
    exact ⟨by decide, rfl, stayAll _ _ k4⟩
  have d2 : ¬ ((d : Nat) : Int) > ((P.length : Nat) : Int) := by omega
  rw [if_neg cd]
  simp (config := { maxSteps := 1000000, implicitDefEqProofs := false }) (disch := omega) only [allW, allR, evalAll, Nat.reduceLT, Nat.reduceEqDiff, ↓reduceIte, hn, h0, ext20, ext21, rfld2, r2, hlen4, eq_false d2]
  refine Comes.loopOut (fun z f t => ∃ (i : Nat) (P1 : List UInt8) (o1 : Value), z = n - i ∧ i ≤ n ∧ rep m d (n - i) P1 = rep m d n P ∧ d ≤ P1.length ∧ P1.length ≤ m ∧ Rs base t jr jx ic D q4 P1 M o1 ∧ RTo jr jx ic o s o1 t ∧ base ≤ t.next ∧ f.n = 72 ∧ f.get 0 = rptr jr ∧ f.get 9 = .int .i64 (d : Nat) ∧ f.get 50 = .int .i64 (n : Nat) ∧ f.get 51 = .int .i64 (i : Nat))
    (fun z f t => f.n = 72 ∧ ((z = .exit 0 ∧ ∃ (P1 : List UInt8) (o1 : Value), rep m d n P = .ok P1 ∧ Rs base t jr jx ic D q4 P1 M o1 ∧ RTo jr jx ic o s o1 t) ∨ (z = .ret ∧ ∃ e : Nat, rep m d n P = .error e ∧ 0 < e ∧ f.get 6 = .int .i64 (e : Nat) ∧ Stay base s t)))
    ⟨0, P, o, rfl, by omega, rfl, by omega, hPm, hR4, k4, hb4, by simp only [n_put, hn], by simp only [get_put, ↓reduceIte, Nat.reduceEqDiff, h0], by simp only [get_put, ↓reduceIte, Nat.reduceEqDiff], by simp only [get_put, ↓reduceIte, Nat.reduceEqDiff], by simp only [get_put, ↓reduceIte]; rfl⟩ ?_ ?_
  rotate_left
  · clear hn h0 h1 h2 f
    rintro z f t ⟨hn, (⟨rfl, P1, o1, hrp, hR, hto⟩ | ⟨rfl, e, hrp, he, h6, hst⟩)⟩
    · simp (config := { maxSteps := 1000000, implicitDefEqProofs := false }) (disch := omega) only [allW, wfn_ret, oneOf, Nat.reduceLT, ↓reduceIte, hn, Try.results69]
      rw [hrp]
      exact ⟨rfl, o1, hR, hto⟩
    · simp (config := { maxSteps := 1000000, implicitDefEqProofs := false }) (disch := omega) only [allW, wfn_ret, oneOf, Nat.reduceLT, ↓reduceIte, hn, h6, Try.results69]
      rw [hrp]
      exact ⟨he, rfl, hst⟩
  clear hn h0 h1 h2 f r2 hlen4
  rintro Q hQ z f t ⟨i, P1, o1, rfl, hi, hrp, hdP, hP1, hR, hto, hbt, hn, h0, h9, h50, h51⟩
  by_cases hin : i < n
  rotate_left
  · obtain rfl : i = n := by omega
    have e1 : ¬ ((i : Nat) : Int) < ((i : Nat) : Int) := by omega
    rw [Nat.sub_self, rep] at hrp
    simp (config := { maxSteps := 1000000, implicitDefEqProofs := false }) (disch := omega) only [allW, Nat.reduceLT, ↓reduceIte, hn, h50, h51, eq_false e1]
    exact hQ _ _ _ ⟨by simp only [n_put, hn], .inl ⟨rfl, P1, o1, hrp.symm, hR, hto⟩⟩
  have e1 : ((i : Nat) : Int) < ((n : Nat) : Int) := by omega
  rw [show n - i = (n - (i + 1)) + 1 by omega, rep] at hrp
  simp (config := { maxSteps := 1000000, implicitDefEqProofs := false }) (disch := omega) only [allW, Nat.reduceLT, ↓reduceIte, hn, h50, h51, eq_true e1]
  obtain ⟨A2, hA2⟩ : ∃ A : Nat → Bool, A = fun j => decide (j < t.next) := ⟨_, rfl⟩
  have hAl2 : ∀ j, A2 j = true → j < t.next := by
    intro j h
    rw [hA2] at h
    exact of_decide_eq_true h
  have hAo2 : ∀ j, j < t.next → A2 j = true := fun j h => by rw [hA2]; exact decide_eq_true h
  refine LB.Drawn.looseK A2 hAl2 0 0 (by kernel_rfl) (by kernel_rfl) ?_
  have hsq := Stay.spare t 0
  have hnq : (spare t 0).next = t.next + 0 := spare_next _ _
  have kq : RTo jr jx ic o1 t o1 (spare t 0) := ⟨by omega, fun i hi _ _ _ _ => hsq.get i hi, .inl rfl⟩
  have lr : ∀ k, LA.lowV A2 (some (.pointer (some ⟨jr, k, some 4⟩))) = true := fun k => LA.lowV_ptr (A := A2) (i := jr) (hAo2 _ hR.t.lt)
  have lE := fun k => LA.lowV_elemOld hR.own.sees hAo2 (k := k)
  have lL := LA.lowL_sees hR.own.sees
  have hRq := hR.keeps hbt hsq
  have r2 := hRq.t.load (P := Try.prog) agSl (off := 2) (c := 4) rfl (by simp)
  have hlen5 := hRq.own.sees.lenA (P := Try.prog) Try.underlying22 (s2 := spare t 0)
  have hix : P1.length - d < P1.length := by omega
  have hi1 := hRq.own.sees.indexAddr (P := Try.prog) (k := .i64) (x := ((P1.length - d : Nat) : Int)) Try.underlying22 szU8 (by omega) (by omega)
  rw [Int.toNat_natCast] at hi1
  have k1 := hRq.own.sees.load1 (P := Try.prog) agU8 hix
  rw [ofBytes_getD hix] at k1
  have e2 : ((P1.length : Nat) : Int) - (d : Int) = ((P1.length - d : Nat) : Int) := by omega
  simp (config := { maxSteps := 1000000, implicitDefEqProofs := false }) (disch := omega) only [allW, allR, allL, allB, Nat.reduceSub, evalAll, Nat.reduceLT, Nat.reduceEqDiff, ↓reduceIte, hn, h0, h9, rfld2, r2, lr, lE, lL, hlen5, hR.own.self, wrapI, e2, hi1, k1]
  refine (putP_any hL base (spare t 0) jr jx ic D P1 q4 m M hM (P1.getD (P1.length - d) 0) o1 hRq (by omega) (by omega)).mono ?_
  intro v t6 hO
  refine ⟨fun h => h.elim, ?_⟩
  by_cases cm : m ≤ P1.length
  · rw [if_pos cm] at hO hrp
    obtain ⟨-, rfl, hst6⟩ := hO
    simp (config := { maxSteps := 1000000, implicitDefEqProofs := false }) (disch := omega) only [allW, allR, Nat.reduceLT, Nat.reduceEqDiff, ↓reduceIte, allW, allR, Nat.reduceLT, Nat.reduceEqDiff, ↓reduceIte, hn, eq_false (show ¬ ((7 : Nat) : Int) = 0 by decide)]
    exact hQ _ _ _ ⟨by simp only [n_put, hn], .inr ⟨rfl, 7, hrp.symm, by decide, by simp only [get_put, ↓reduceIte], (stayAll _ _ (hto.trans kq)).trans hst6⟩⟩
  rw [if_neg cm] at hO hrp
  obtain ⟨rfl, o6, hR6, to6⟩ := hO
  simp (config := { maxSteps := 1000000, implicitDefEqProofs := false }) (disch := omega) only [allW, allR, Nat.reduceLT, Nat.reduceEqDiff, ↓reduceIte, allW, allR, Nat.reduceLT, Nat.reduceEqDiff, ↓reduceIte, hn, h51, wrapI]
  have n6 := to6.next
  exact wround_next (n - (i + 1)) (by omega) ⟨i + 1, _, o6, rfl, by omega, hrp, by rw [List.length_append]; omega, by rw [List.length_append, List.length_singleton]; omega, hR6, hto.trans (kq.trans to6), by omega, by simp only [n_put, hn], by simp only [get_put, ↓reduceIte, Nat.reduceEqDiff, h0], by simp only [get_put, ↓reduceIte, Nat.reduceEqDiff, h9], by simp only [get_put, ↓reduceIte, Nat.reduceEqDiff, h50], by simp only [get_put, ↓reduceIte]; rfl⟩
end Go.Proofs.Ytnclklboogdoiaa
set_option linter.unusedSimpArgs false
set_option linter.unusedVariables false
set_option maxRecDepth 100000
namespace Go.Proofs.Ytnclklboogdoiaa
open Go.Cl Go.Cl.Rw Go.Cl.Sto Go.Cl.Fx Go.Cl.Nf Go.Cl.Bt
def CodB (jr jx ic : Nat) (o : Value) (s : ASt) (j : Nat) (C : List Nat) : Prop := ∃ sv, Thing s j (codeV C sv) ∧ Syms jx ic s sv C ∧ (∀ i, idOf sv = some i → i ≠ jr ∧ idOf o ≠ some i) ∧ j ≠ jr ∧ j ≠ jx ∧ j ≠ ic ∧ idOf o ≠ some j
theorem CodB.to {jr jx ic j : Nat} {o o' : Value} {s s' : ASt} {C : List Nat} (h : CodB jr jx ic o s j C) (k : RTo jr jx ic o s o' s') : CodB jr jx ic o' s' j C := by
  obtain ⟨sv, h1, h2, h3, h4, h5, h6, h7⟩ := h
  have key : ∀ i, i < s.next → idOf o ≠ some i → idOf o' ≠ some i := fun i hi hne => by
    rcases k.id with e | ⟨q, e, hq⟩
    · rw [e]; exact hne
    · rw [e]; intro e2; injection e2 with e2; omega
  exact ⟨sv, thingTo h1 k.next (k.get j h1.lt h4 h5 h6 h7), h2.rto h3 k, fun i hi => ⟨(h3 i hi).1, key i (h2.2 i hi).1 (h3 i hi).2⟩, h4, h5, h6, key j h1.lt h7⟩
set_option maxHeartbeats 8000000 in
theorem codedP_any {lib : Prims} (hL : NoL lib) (base : Nat) (s : ASt) (jr jx ic : Nat) (D P0 : List UInt8) (p0 m N : Nat) (M : Int) (hM : m = M.toNat) (o : Value) (h : Rs base s jr jx ic D p0 P0 M o) (hb : base ≤ s.next) (hlen : D.length ≤ 1000000) (hPm : P0.length ≤ m) (hm : m ≤ 100000000) (hN : 8 * D.length < N) (va vb : Value) (A B : List Nat) (hA : CodP jr jx ic o s va A) (hB : CodP jr jx ic o s vb B) (hAl : A.length ≤ 300) (hBl : B.length ≤ 1000) :
    Runs Try.prog lib 55 [rptr jr, va, vb] s fun v s' => OutP base jr jx ic D M o s v s' (codedX D m A B N p0 P0) := by
  obtain ⟨sa, rfl, hSa, hSao⟩ := hA
  obtain ⟨sb, rfl, hSb, hSbo⟩ := hB
  have hlt := h.bit.lt
  have hjrl := h.t.lt
  have hol : ∀ i, idOf o = some i → i < s.next := fun i hi => h.own.idlt i hi
  refine Runs.enter 39 Try.func55 rfl (hL _ rfl) rfl rfl ?_
  intro f hn hf
  have h0 : f.get 0 = rptr jr := hf 0
  have h1 : f.get 1 = .agg (codeV A sa).toArray := hf 1
  have h2 : f.get 2 = .agg (codeV B sb).toArray := hf 2
  clear hf
  simp (config := { maxSteps := 1000000, implicitDefEqProofs := false }) (disch := omega) only [allW, Nat.reduceLT, ↓reduceIte, hn, h1]
  refine wstep_newPtr ?_
  intro s1 hc1 hst1 hnx1
  obtain ⟨ja, hja⟩ : ∃ j, j = s.next := ⟨_, rfl⟩
  rw [← hja] at hc1
  simp (config := { maxSteps := 1000000, implicitDefEqProofs := false }) (disch := omega) only [allW, Nat.reduceLT, Nat.reduceEqDiff, Nat.reduceAdd, ↓reduceIte, hn, h2, ← hja, codeV_length]
  refine wstep_newPtr ?_
  intro s2 hd2 hst2 hnx2
  obtain ⟨jb, hjb⟩ : ∃ j, j = s1.next := ⟨_, rfl⟩
  rw [← hjb] at hd2
  have hst12 : Stay s.next s s2 := hst1.trans (hst2.weaken (by omega))
  have k2 : RTo jr jx ic o s o s2 := (RTo.refl jr jx ic o s).kept hst12
  have hR2 := h.keeps hb hst12
  have cA : CodB jr jx ic o s2 ja A := ⟨sa, hc1.keeps hst2, hSa.rto hSao k2, hSao, by omega, by omega, by omega, fun e => by have := hol _ e; omega⟩
  have cB : CodB jr jx ic o s2 jb B := ⟨sb, hd2, hSb.rto hSbo k2, hSbo, by omega, by omega, by omega, fun e => by have := hol _ e; omega⟩
  obtain ⟨R, hR⟩ : ∃ R, R = codedX D m A B N p0 P0 := ⟨_, rfl⟩
  rw [← hR]
  have stayAll : ∀ o' t, RTo jr jx ic o s o' t → Stay base s t := fun o' t k => k.stay h.lr hlt.2.2.1 hlt.2.2.2.1 h.fresh hb
  simp (config := { maxSteps := 1000000, implicitDefEqProofs := false }) (disch := omega) only [allW, Nat.reduceLT, Nat.reduceAdd, ↓reduceIte, hn, ← hjb, codeV_length]
  refine Comes.loopOut (fun z f t => ∃ (p : Nat) (P : List UInt8) (o1 : Value), codedX D m A B z p P = R ∧ 8 * D.length < p + z ∧ P.length ≤ m ∧ Rs base t jr jx ic D p P M o1 ∧ RTo jr jx ic o s o1 t ∧ CodB jr jx ic o1 t ja A ∧ CodB jr jx ic o1 t jb B ∧ base ≤ t.next ∧ f.n = 39 ∧ f.get 0 = rptr jr ∧ f.get 4 = .pointer (some ⟨ja, 0, some 18⟩) ∧ f.get 5 = .pointer (some ⟨jb, 0, some 18⟩))
    (fun z f t => z = .ret ∧ f.n = 39 ∧ ∃ v, f.get 6 = v ∧ OutP base jr jx ic D M o s v t R)
    ⟨p0, P0, o, hR.symm, by omega, hPm, hR2, k2, cA, cB, by omega, by simp only [n_put, hn], by simp only [get_put, ↓reduceIte, Nat.reduceEqDiff, h0], by simp only [get_put, ↓reduceIte, Nat.reduceEqDiff], by simp only [get_put, ↓reduceIte, Nat.reduceEqDiff]⟩ ?_ ?_
  rotate_left
  · clear hn h0 h1 h2 f
    rintro z f t ⟨rfl, hn, v, h6, hO⟩
    simp (config := { maxSteps := 1000000, implicitDefEqProofs := false }) (disch := omega) only [allW, wfn_ret, oneOf, Nat.reduceLT, ↓reduceIte, hn, h6, Try.results55]
    exact hO
  clear hn h0 h1 h2 f cA cB hR2 hc1 hd2 k2
  rintro Q hQ z f t ⟨p, P, o1, hz, hpz, hPm, hRs, hto, cA, cB, hbt, hn, h0, h4, h5⟩
  have hpD := hRs.bit.le
  obtain ⟨k, rfl⟩ : ∃ k, z = k + 1 := ⟨z - 1, by omega⟩
  rw [codedX] at hz
  have cA0 := cA
  obtain ⟨xa, hca, hxa, hxao, -, -, -, -⟩ := cA0
  simp (config := { maxSteps := 1000000, implicitDefEqProofs := false }) (disch := omega) only [allW]
  obtain ⟨A2, hA2⟩ : ∃ A : Nat → Bool, A = fun j => decide (j < t.next) := ⟨_, rfl⟩
  have hAl2 : ∀ j, A2 j = true → j < t.next := by
    intro j h
    rw [hA2] at h
    exact of_decide_eq_true h
  have hAo2 : ∀ j, j < t.next → A2 j = true := fun j h => by rw [hA2]; exact decide_eq_true h
  have hsq := Stay.spare t 0
  have hnq : (spare t 0).next = t.next + 0 := spare_next _ _
  have hRq := hRs.keeps hbt hsq
  have hcq := hca.keeps hsq
  have kq : BTo jx ic t (spare t 0) := ⟨by omega, fun i hi _ _ => hsq.get i hi⟩
  have lr : ∀ k, LA.lowV A2 (some (.pointer (some ⟨jr, k, some 4⟩))) = true := fun k => LA.lowV_ptr (A := A2) (i := jr) (hAo2 _ hRs.t.lt)
  have lb : ∀ k, LA.lowV A2 (some (.pointer (some ⟨ja, k, some 18⟩))) = true := fun k => LA.lowV_ptr (A := A2) (i := ja) (hAo2 _ hca.lt)
  have r0q := hRq.t.load (P := Try.prog) agBitsQ (off := 0) (c := 4) rfl (by simp)
  have lall := hcq.loadAll (P := Try.prog) agCode (by rw [codeV_length]; exact szCode) (c := 18) (by rw [codeV_length])
  refine LB.Drawn.looseK A2 hAl2 0 0 (by kernel_rfl) (by kernel_rfl) ?_
  simp (config := { maxSteps := 1000000, implicitDefEqProofs := false }) (disch := omega) only [allW, allR, allL, allB, Nat.reduceSub, evalAll, Nat.reduceLT, Nat.reduceEqDiff, ↓reduceIte, hn, h0, h4, rfld0, r0q, lall, lr, lb, valEq_code A hxa.1]
  refine (symP_any hL base (spare t 0) jx ic D p hRq.bit (by omega) hlen A xa (hxa.to kq) (by omega)).mono ?_
  intro v t3 hY
  refine ⟨fun h => h.elim, ?_⟩
  cases hy : sym D A p with
  | error e =>
    rw [hy] at hY hz
    obtain ⟨he, rfl, hto3⟩ := hY
    have c0 : ¬ (e : Int) = 0 := by omega
    simp (config := { maxSteps := 1000000, implicitDefEqProofs := false }) (disch := omega) only [allW, allR, allL, allB, Nat.reduceLT, Nat.reduceEqDiff, ↓reduceIte, allW, allR, Nat.reduceLT, Nat.reduceEqDiff, ↓reduceIte, hn, ext20, ext21, valEq_t2, eq_false c0]
    exact hQ _ _ _ ⟨rfl, by simp only [n_put, hn], _, by simp only [get_put, ↓reduceIte]; rfl, by rw [← hz]; exact ⟨he, rfl, stayAll _ _ (hto.trans (btoR (kq.trans hto3)))⟩⟩
  | ok y =>
  obtain ⟨x, q⟩ := y
  rw [hy] at hY hz
  obtain ⟨rfl, hB3, to3⟩ := hY
  have hsl := sym_le hy
  have hR3 := hRq.bits hB3 to3
  have kk3 : RTo jr jx ic o1 t o1 t3 := btoR (kq.trans to3)
  have k3 := hto.trans kk3
  have hb3 : base ≤ t3.next := by have := to3.next; omega
  dsimp only at hz
  by_cases cx : x = 256
  · have d1 : ((x : Nat) : Int) = 256 := by omega
    rw [if_pos cx] at hz
    simp (config := { maxSteps := 1000000, implicitDefEqProofs := false }) (disch := omega) only [allW, allR, allL, allB, Nat.reduceLT, Nat.reduceEqDiff, ↓reduceIte, allW, allR, Nat.reduceLT, Nat.reduceEqDiff, ↓reduceIte, hn, ext20, ext21, valEq_t2, eq_true d1]
    exact hQ _ _ _ ⟨rfl, by simp only [n_put, hn], _, by simp only [get_put, ↓reduceIte]; rfl, by rw [← hz]; exact ⟨rfl, o1, hR3, k3⟩⟩
  have d1 : ¬ ((x : Nat) : Int) = 256 := by omega
  rw [if_neg cx] at hz
  by_cases cl : x < 256
  · have d2 : ((x : Nat) : Int) < 256 := by omega
    rw [if_pos cl] at hz
    simp (config := { maxSteps := 1000000, implicitDefEqProofs := false }) (disch := omega) only [allW, allR, allL, allB, evalAll, Nat.reduceLT, Nat.reduceEqDiff, ↓reduceIte, allW, allR, evalAll, Nat.reduceLT, Nat.reduceEqDiff, ↓reduceIte, hn, h0, ext20, ext21, valEq_t2, eq_false d1, eq_true d2, conv_int Try.underlying3 Try.underlying5, b0]
    refine (putP_any hL base t3 jr jx ic D P q m M hM (UInt8.ofNat x) o1 hR3 hb3 (by omega)).mono ?_
    intro v t4 hO
    by_cases cm : m ≤ P.length
    · rw [if_pos cm] at hO hz
      obtain ⟨-, rfl, hst6⟩ := hO
      simp (config := { maxSteps := 1000000, implicitDefEqProofs := false }) (disch := omega) only [allW, allR, Nat.reduceLT, Nat.reduceEqDiff, ↓reduceIte, hn, eq_false (show ¬ ((7 : Nat) : Int) = 0 by decide)]
      exact hQ _ _ _ ⟨rfl, by simp only [n_put, hn], _, by simp only [get_put, ↓reduceIte]; rfl, by rw [← hz]; exact ⟨by decide, rfl, (stayAll _ _ k3).trans hst6⟩⟩
    rw [if_neg cm] at hO hz
    obtain ⟨rfl, o6, hR6, to6⟩ := hO
    have kk := kk3.trans to6
    simp (config := { maxSteps := 1000000, implicitDefEqProofs := false }) (disch := omega) only [allW, allR, Nat.reduceLT, ↓reduceIte, hn]
    have n6 := to6.next
    exact wround_next k (by omega) ⟨q, _, o6, hz, by omega, by rw [List.length_append, List.length_singleton]; omega, hR6, hto.trans kk, cA.to kk, cB.to kk, by omega, by simp only [n_put, hn], by simp only [get_put, ↓reduceIte, Nat.reduceEqDiff, h0], by simp only [get_put, ↓reduceIte, Nat.reduceEqDiff, h4], by simp only [get_put, ↓reduceIte, Nat.reduceEqDiff, h5]⟩
  have d2 : ¬ ((x : Nat) : Int) < 256 := by omega
  rw [if_neg cl] at hz
  have cB3 := cB.to kk3
  obtain ⟨xb, hcb, hxb, hxbo, -, -, -, -⟩ := id cB3
  have lallb := hcb.loadAll (P := Try.prog) agCode (by rw [codeV_length]; exact szCode) (c := 18) (by rw [codeV_length])
  simp (config := { maxSteps := 1000000, implicitDefEqProofs := false }) (disch := omega) only [allW, allR, allL, allB, evalAll, Nat.reduceLT, Nat.reduceEqDiff, ↓reduceIte, allW, allR, evalAll, Nat.reduceLT, Nat.reduceEqDiff, ↓reduceIte, hn, h0, h5, ext20, ext21, valEq_t2, eq_false d1, eq_false d2, lallb]
  refine (copyP_any hL base t3 jr jx ic D P q m M hM o1 hR3 hb3 hlen hPm hm x (by omega) (by omega) _ B ⟨xb, rfl, hxb, hxbo⟩ hBl).mono ?_
  intro v t4 hO
  cases hcx : copyX D m B x q P with
  | error e =>
    rw [hcx] at hO hz
    obtain ⟨he, rfl, hst6⟩ := hO
    have c0 : ¬ (e : Int) = 0 := by omega
    simp (config := { maxSteps := 1000000, implicitDefEqProofs := false }) (disch := omega) only [allW, allR, Nat.reduceLT, Nat.reduceEqDiff, ↓reduceIte, hn, eq_false c0]
    exact hQ _ _ _ ⟨rfl, by simp only [n_put, hn], _, by simp only [get_put, ↓reduceIte]; rfl, by rw [← hz]; exact ⟨he, rfl, (stayAll _ _ k3).trans hst6⟩⟩
  | ok y =>
    obtain ⟨r, P'⟩ := y
    rw [hcx] at hO hz
    obtain ⟨rfl, o6, hR6, to6⟩ := hO
    have kk := kk3.trans to6
    have hcl := copyX_le hcx hPm
    simp (config := { maxSteps := 1000000, implicitDefEqProofs := false }) (disch := omega) only [allW, allR, Nat.reduceLT, ↓reduceIte, hn]
    have n6 := to6.next
    exact wround_next k (by omega) ⟨r, P', o6, hz, by omega, hcl.2.2, hR6, hto.trans kk, cA.to kk, cB.to kk, by omega, by simp only [n_put, hn], by simp only [get_put, ↓reduceIte, Nat.reduceEqDiff, h0], by simp only [get_put, ↓reduceIte, Nat.reduceEqDiff, h4], by simp only [get_put, ↓reduceIte, Nat.reduceEqDiff, h5]⟩
theorem xor16b {n k : Nat} (hn : n < 65536) (hk : k < 65536) : (IntKind.i64.wrap (((BitVec.ofInt IntKind.i64.bits (n : Int) ^^^ BitVec.ofInt IntKind.i64.bits (k : Int)).toNat : Nat) : Int) = 65535) = (n + k = 65535) := by
  have e1 : IntKind.i64.bits = 64 := rfl
  rw [e1]
  have hx : (BitVec.ofInt 64 (n : Int) ^^^ BitVec.ofInt 64 (k : Int)).toNat = n ^^^ k := by
    rw [BitVec.toNat_xor, BitVec.ofInt_natCast, BitVec.ofInt_natCast, BitVec.toNat_ofNat, BitVec.toNat_ofNat, Nat.mod_eq_of_lt (by omega), Nat.mod_eq_of_lt (by omega)]
  have hlt : n ^^^ k < 65536 := Nat.xor_lt_two_pow (n := 16) hn hk
  rw [hx, wrapI (by omega)]
  have key : (65535 ^^^ k) = 65535 - k := by
    have := xor16 (m := k) hk
    rw [e1, wrapI (by
      rw [BitVec.toNat_xor, BitVec.ofInt_natCast]
      have e2 : (BitVec.ofInt 64 65535) = BitVec.ofNat 64 65535 := rfl
      rw [e2, BitVec.toNat_ofNat, BitVec.toNat_ofNat, Nat.mod_eq_of_lt (by omega), Nat.mod_eq_of_lt (by omega)]
      have : k ^^^ 65535 < 2 ^ 16 := Nat.xor_lt_two_pow (n := 16) hk (by omega)
      have : (2 : Nat) ^ 16 = 65536 := by decide
      omega)] at this
    rw [BitVec.toNat_xor, BitVec.ofInt_natCast] at this
    have e2 : (BitVec.ofInt 64 65535) = BitVec.ofNat 64 65535 := rfl
    rw [e2, BitVec.toNat_ofNat, BitVec.toNat_ofNat, Nat.mod_eq_of_lt (by omega), Nat.mod_eq_of_lt (by omega)] at this
    rw [Nat.xor_comm]
    omega
  refine propext ⟨fun h => ?_, fun h => ?_⟩
  · have h : n ^^^ k = 65535 := by omega
    have : n = 65535 ^^^ k := by rw [← h, Nat.xor_assoc, Nat.xor_self, Nat.xor_zero]
    omega
  · have : n = 65535 ^^^ k := by omega
    rw [this, Nat.xor_assoc, Nat.xor_self, Nat.xor_zero]; rfl
theorem alignB {base : Nat} {s : ASt} {jx ic : Nat} {D : List UInt8} {a : Nat} (h : BitIs base s jx ic D (8 * a)) : ∃ now, BtAt base s jx ic D (8 * a) a now 0 := by
  obtain ⟨q, now, left, h, h7⟩ := h
  have he := h.e
  obtain rfl : left = 0 := by omega
  obtain rfl : q = a := by omega
  exact ⟨now, h⟩
set_option maxHeartbeats 8000000 in
theorem storedP_any {lib : Prims} (hL : NoL lib) (base : Nat) (s : ASt) (jr jx ic : Nat) (D P : List UInt8) (p m : Nat) (M : Int) (hM : m = M.toNat) (o : Value) (h : Rs base s jr jx ic D p P M o) (hb : base ≤ s.next) (hlen : D.length ≤ 1000000) (hPm : P.length ≤ m) (hm : m ≤ 100000000) :
    Runs Try.prog lib 53 [rptr jr] s fun v s' => OutP base jr jx ic D M o s v s' (storedX D m p P) := by
  obtain ⟨a, ha⟩ : ∃ a, a = (p + 7) / 8 := ⟨_, rfl⟩
  have hpD := h.bit.le
  have hlt := h.bit.lt
  have stayAll : ∀ o' t, RTo jr jx ic o s o' t → Stay base s t := fun o' t k => k.stay h.lr hlt.2.2.1 hlt.2.2.2.1 h.fresh hb
  refine Runs.enter 60 Try.func53 rfl (hL _ rfl) rfl rfl ?_
  intro f hn hf
  have h0 : f.get 0 = rptr jr := hf 0
  clear hf
  have r0 := h.t.load (P := Try.prog) agBitsQ (off := 0) (c := 4) rfl (by simp)
  simp (config := { maxSteps := 1000000, implicitDefEqProofs := false }) (disch := omega) only [allW, allR, evalAll, Nat.reduceLT, Nat.reduceEqDiff, ↓reduceIte, hn, h0, rfld0, r0]
  refine (align_any (hL _ rfl) base s jx ic D p h.bit hb).mono ?_
  rintro _ s1 ⟨hB1, to1⟩
  rw [← ha] at hB1
  have hR1 := h.bits hB1 to1
  have hb1 : base ≤ s1.next := by have := to1.next; omega
  have r0 := hR1.t.load (P := Try.prog) agBitsQ (off := 0) (c := 4) rfl (by simp)
  unfold storedX
  rw [← ha]
  simp (config := { maxSteps := 1000000, implicitDefEqProofs := false }) (disch := omega) only [allW, allR, evalAll, Nat.reduceLT, Nat.reduceEqDiff, ↓reduceIte, hn, h0, rfld0, r0]
  refine (number_any hL base s1 jx ic D (8 * a) 16 hB1 hb1 (by omega) hlen).mono ?_
  intro v s2 hN
  by_cases c1 : 8 * a + 16 ≤ 8 * D.length
  rotate_left
  · rw [takeE_no c1] at hN
    obtain ⟨-, rfl, hto⟩ := hN
    rw [if_neg (show ¬ 8 * a + 32 ≤ 8 * D.length by omega)]
    simp (config := { maxSteps := 1000000, implicitDefEqProofs := false }) (disch := omega) only [allW, allR, wfn_ret, oneOf, Nat.reduceLT, Nat.reduceEqDiff, ↓reduceIte, hn, ext20, ext21, eq_false (show ¬ (2 : Int) = 0 by decide), Try.results53]
    exact ⟨by decide, rfl, stayAll _ _ (btoR (to1.trans hto))⟩
  rw [takeE_ok c1] at hN
  obtain ⟨rfl, hB2, to2⟩ := hN
  have hR2 := hR1.bits hB2 to2
  have to2 := to1.trans to2
  have hb2 : base ≤ s2.next := by have := to2.next; omega
  have r0 := hR2.t.load (P := Try.prog) agBitsQ (off := 0) (c := 4) rfl (by simp)
  have hnl := bitsN_lt D (8 * a) 16
  obtain ⟨n, hnn⟩ : ∃ n, n = bitsN D (8 * a) 16 := ⟨_, rfl⟩
  rw [← hnn] at hnl ⊢
  have hp16 : (2 : Nat) ^ 16 = 65536 := by decide
  simp (config := { maxSteps := 1000000, implicitDefEqProofs := false }) (disch := omega) only [allW, allR, evalAll, Nat.reduceLT, Nat.reduceEqDiff, ↓reduceIte, hn, h0, ext20, ext21, rfld0, r0]
  refine (number_any hL base s2 jx ic D (8 * a + 16) 16 hB2 hb2 (by omega) hlen).mono ?_
  intro v s3 hN
  by_cases c2 : 8 * a + 16 + 16 ≤ 8 * D.length
  rotate_left
  · rw [takeE_no c2] at hN
    obtain ⟨-, rfl, hto⟩ := hN
    rw [if_neg (show ¬ 8 * a + 32 ≤ 8 * D.length by omega)]
    simp (config := { maxSteps := 1000000, implicitDefEqProofs := false }) (disch := omega) only [allW, allR, wfn_ret, oneOf, Nat.reduceLT, Nat.reduceEqDiff, ↓reduceIte, hn, ext20, ext21, eq_false (show ¬ (2 : Int) = 0 by decide), Try.results53]
    exact ⟨by decide, rfl, stayAll _ _ (btoR (to2.trans hto))⟩
  rw [takeE_ok c2] at hN
  obtain ⟨rfl, hB3, to3⟩ := hN
  have hR3 := hR2.bits hB3 to3
  have to3 := to2.trans to3
  have hb3 : base ≤ s3.next := by have := to3.next; omega
  have hkl := bitsN_lt D (8 * a + 16) 16
  obtain ⟨k, hkk⟩ : ∃ k, k = bitsN D (8 * a + 16) 16 := ⟨_, rfl⟩
  rw [← hkk] at hkl ⊢
  rw [if_pos (show 8 * a + 32 ≤ 8 * D.length by omega)]
  have hx := xor16b (n := n) (k := k) (by omega) (by omega)
  by_cases cx : n + k = 65535
  rotate_left
  · rw [if_neg cx]
    have hx : (IntKind.i64.wrap (((BitVec.ofInt IntKind.i64.bits (n : Int) ^^^ BitVec.ofInt IntKind.i64.bits (k : Int)).toNat : Nat) : Int) = 65535) = False := by rw [hx]; exact eq_false cx
    simp (config := { maxSteps := 1000000, implicitDefEqProofs := false }) (disch := omega) only [allW, allR, wfn_ret, oneOf, Nat.reduceLT, Nat.reduceEqDiff, ↓reduceIte, hn, ext20, ext21, bin_xor, hx, Try.results53]
    exact ⟨by decide, rfl, stayAll _ _ (btoR to3)⟩
  rw [if_pos cx]
  have hx : (IntKind.i64.wrap (((BitVec.ofInt IntKind.i64.bits (n : Int) ^^^ BitVec.ofInt IntKind.i64.bits (k : Int)).toNat : Nat) : Int) = 65535) = True := by rw [hx]; exact eq_true cx
  rw [show 8 * a + 16 + 16 = 8 * (a + 4) by omega] at hR3
  simp (config := { maxSteps := 1000000, implicitDefEqProofs := false }) (disch := omega) only [allW, allR, Nat.reduceLT, Nat.reduceEqDiff, ↓reduceIte, hn, ext20, ext21, bin_xor, hx]
  refine Comes.loopOut (fun z f t => ∃ (i : Nat) (P1 : List UInt8) (o1 : Value), z = n - i ∧ i ≤ n ∧ stoF D m (n - i) (a + 4 + i) P1 = stoF D m n (a + 4) P ∧ P1.length ≤ m ∧ Rs base t jr jx ic D (8 * (a + 4 + i)) P1 M o1 ∧ RTo jr jx ic o s o1 t ∧ base ≤ t.next ∧ f.n = 60 ∧ f.get 0 = rptr jr ∧ f.get 39 = .int .i64 (n : Nat) ∧ f.get 40 = .int .i64 (i : Nat))
    (fun z f t => f.n = 60 ∧ ((z = .exit 0 ∧ ∃ (q : Nat) (P1 : List UInt8) (o1 : Value), stoF D m n (a + 4) P = .ok (q, P1) ∧ Rs base t jr jx ic D q P1 M o1 ∧ RTo jr jx ic o s o1 t) ∨ (z = .ret ∧ ∃ e : Nat, stoF D m n (a + 4) P = .error e ∧ 0 < e ∧ f.get 2 = .int .i64 (e : Nat) ∧ Stay base s t)))
    ⟨0, P, o, rfl, by omega, rfl, hPm, hR3, btoR to3, hb3, by simp only [n_put, hn], by simp only [get_put, ↓reduceIte, Nat.reduceEqDiff, h0], by simp only [get_put, ↓reduceIte, Nat.reduceEqDiff], by simp only [get_put, ↓reduceIte]; rfl⟩ ?_ ?_
  rotate_left
  · clear hn h0 f
    rintro z f t ⟨hn, (⟨rfl, q, P1, o1, hrp, hR, hto⟩ | ⟨rfl, e, hrp, he, h2, hst⟩)⟩
    · simp (config := { maxSteps := 1000000, implicitDefEqProofs := false }) (disch := omega) only [allW, wfn_ret, oneOf, Nat.reduceLT, ↓reduceIte, hn, Try.results53]
      rw [hrp]
      exact ⟨rfl, o1, hR, hto⟩
    · simp (config := { maxSteps := 1000000, implicitDefEqProofs := false }) (disch := omega) only [allW, wfn_ret, oneOf, Nat.reduceLT, ↓reduceIte, hn, h2, Try.results53]
      rw [hrp]
      exact ⟨he, rfl, hst⟩
  clear hn h0 f r0 hR1 hR2 hR3 hB1 hB2 hB3 to1 to2 to3
  rintro Q hQ z f t ⟨i, P1, o1, rfl, hi, hst, hP1, hR, hto, hbt, hn, h0, h39, h40⟩
  by_cases hin : i < n
  rotate_left
  · obtain rfl : i = n := by omega
    have e1 : ¬ ((i : Nat) : Int) < ((i : Nat) : Int) := by omega
    rw [Nat.sub_self, stoF] at hst
    simp (config := { maxSteps := 1000000, implicitDefEqProofs := false }) (disch := omega) only [allW, Nat.reduceLT, ↓reduceIte, hn, h39, h40, eq_false e1]
    exact hQ _ _ _ ⟨by simp only [n_put, hn], .inl ⟨rfl, _, P1, o1, hst.symm, hR, hto⟩⟩
  have e1 : ((i : Nat) : Int) < ((n : Nat) : Int) := by omega
  rw [show n - i = (n - (i + 1)) + 1 by omega, stoF] at hst
  obtain ⟨now, hBt⟩ := alignB hR.bit
  have hcp : a + 4 + i ≤ D.length := hBt.c.choose_spec.2.2.2
  have r0 := hR.t.load (P := Try.prog) agBitsQ (off := 0) (c := 4) rfl (by simp)
  have g0 := hBt.t.load (P := Try.prog) bagCur (off := 0) (c := 4) rfl (by simp)
  simp (config := { maxSteps := 1000000, implicitDefEqProofs := false }) (disch := omega) only [allW, allR, evalAll, Nat.reduceLT, Nat.reduceEqDiff, ↓reduceIte, hn, h0, h39, h40, eq_true e1, rfld0, r0, bfld0, g0]
  refine (next_any (hL _ rfl) (hL _ rfl) (hL _ rfl) (hL _ rfl) (hL _ rfl) base t ic D (a + 4 + i) hBt.c hbt (by omega)).mono ?_
  rintro _ t3 ⟨rfl, hc3, ht3⟩
  have kb : BTo jx ic t t3 := BTo.turns ht3
  by_cases r3 : a + 4 + i < D.length
  rotate_left
  · rw [if_neg r3] at hst
    have hby : byteAt D ((a + 4 + i : Nat) : Int) = -1 := by unfold byteAt; rw [if_neg (by omega)]
    simp (config := { maxSteps := 1000000, implicitDefEqProofs := false }) (disch := omega) only [allW, Nat.reduceLT, ↓reduceIte, hn, hby, eq_true (show (-1 : Int) < 0 by decide)]
    exact hQ _ _ _ ⟨by simp only [n_put, hn], .inr ⟨rfl, 2, hst.symm, by decide, by simp only [get_put, ↓reduceIte]; rfl, stayAll _ _ (hto.trans (btoR kb))⟩⟩
  rw [if_pos r3] at hst
  have hc8 := (D.getD (a + 4 + i) 0).toNat_lt
  have hby : byteAt D ((a + 4 + i : Nat) : Int) = ((D.getD (a + 4 + i) 0).toNat : Int) := by unfold byteAt; rw [if_pos (by omega), Int.toNat_natCast]
  have hcv : IntKind.u8.wrap (((D.getD (a + 4 + i) 0).toNat : Nat) : Int) = (((D.getD (a + 4 + i) 0).toNat : Nat) : Int) := by rw [wrapu8]; omega
  have d1 : ¬ (((D.getD (a + 4 + i) 0).toNat : Nat) : Int) < 0 := by omega
  rw [Nat.min_eq_left (by omega)] at hc3
  have hB4 : BitIs base t3 jx ic D (8 * (a + 4 + (i + 1))) := ⟨a + 4 + i + 1, now, 0, ⟨hc3, hBt.t.turns ht3 (cptr_ne (fun e => hBt.ne e.symm)), by omega, by omega, fun h => by omega, hBt.now, hBt.lx, hBt.lc, hBt.ne⟩, by omega⟩
  have hR4 := hR.bits hB4 kb
  have hb4 : base ≤ t3.next := by have := kb.next; omega
  simp (config := { maxSteps := 1000000, implicitDefEqProofs := false }) (disch := omega) only [allW, allR, evalAll, Nat.reduceLT, Nat.reduceEqDiff, ↓reduceIte, hn, h0, hby, eq_false d1, conv_int Try.underlying3 Try.underlying5, hcv]
  refine (putP_any hL base t3 jr jx ic D P1 _ m M hM (D.getD (a + 4 + i) 0) o1 hR4 hb4 (by omega)).mono ?_
  intro v t6 hO
  by_cases cm : m ≤ P1.length
  · rw [if_pos cm] at hO hst
    obtain ⟨-, rfl, hst6⟩ := hO
    simp (config := { maxSteps := 1000000, implicitDefEqProofs := false }) (disch := omega) only [allW, allR, Nat.reduceLT, Nat.reduceEqDiff, ↓reduceIte, hn, eq_false (show ¬ ((7 : Nat) : Int) = 0 by decide)]
    exact hQ _ _ _ ⟨by simp only [n_put, hn], .inr ⟨rfl, 7, hst.symm, by decide, by simp only [get_put, ↓reduceIte], (stayAll _ _ (hto.trans (btoR kb))).trans hst6⟩⟩
  rw [if_neg cm] at hO hst
  obtain ⟨rfl, o6, hR6, to6⟩ := hO
  simp (config := { maxSteps := 1000000, implicitDefEqProofs := false }) (disch := omega) only [allW, allR, Nat.reduceLT, Nat.reduceEqDiff, ↓reduceIte, hn, h40, wrapI]
  have n6 := to6.next
  exact wround_next (n - (i + 1)) (by omega) ⟨i + 1, _, o6, rfl, by omega, hst, by rw [List.length_append, List.length_singleton]; omega, hR6, hto.trans ((btoR kb).trans to6), by omega, by simp only [n_put, hn], by simp only [get_put, ↓reduceIte, Nat.reduceEqDiff, h0], by simp only [get_put, ↓reduceIte, Nat.reduceEqDiff, h39], by simp only [get_put, ↓reduceIte]; rfl⟩
end Go.Proofs.Ytnclklboogdoiaa
set_option linter.unusedSimpArgs false
set_option linter.unusedVariables false
set_option maxRecDepth 100000
namespace Go.Proofs.Ytnclklboogdoiaa
open Go.Cl Go.Cl.Rw Go.Cl.Sto Go.Cl.Fx Go.Cl.Nf Go.Cl.Bt
theorem ext40 (a b c d : Value) : extractA (.tuple #[a, b, c, d]) 0 = some a := rfl
theorem ext41 (a b c d : Value) : extractA (.tuple #[a, b, c, d]) 1 = some b := rfl
theorem ext42 (a b c d : Value) : extractA (.tuple #[a, b, c, d]) 2 = some c := rfl
theorem ext43 (a b c d : Value) : extractA (.tuple #[a, b, c, d]) 3 = some d := rfl
theorem ext30 (a b c : Value) : extractA (.tuple #[a, b, c]) 0 = some a := rfl
theorem ext31 (a b c : Value) : extractA (.tuple #[a, b, c]) 1 = some b := rfl
theorem ext32 (a b c : Value) : extractA (.tuple #[a, b, c]) 2 = some c := rfl
def HeadR (base jr jx ic : Nat) (D P : List UInt8) (p : Nat) (M : Int) (o : Value) (s : ASt) (v : Value) (s' : ASt) : Except Nat (Nat × Nat × Nat) → Prop
  | .ok (n, d, k) => v = .tuple #[.int .i64 (n : Nat), .int .i64 (d : Nat), .int .i64 (k : Nat), .int .i64 0] ∧ Rs base s' jr jx ic D (p + 14) P M o ∧ BTo jx ic s s'
  | .error e => 0 < e ∧ (∃ a b c, v = .tuple #[.int .i64 a, .int .i64 b, .int .i64 c, .int .i64 (e : Nat)]) ∧ BTo jx ic s s'
set_option maxHeartbeats 8000000 in
theorem headP_any {lib : Prims} (hL : NoL lib) (base : Nat) (s : ASt) (jr jx ic : Nat) (D P : List UInt8) (p : Nat) (M : Int) (o : Value) (h : Rs base s jr jx ic D p P M o) (hb : base ≤ s.next) (hlen : D.length ≤ 1000000) :
    Runs Try.prog lib 70 [rptr jr] s fun v s' => HeadR base jr jx ic D P p M o s v s' (headX D p) := by
  refine Runs.enter 53 Try.func70 rfl (hL _ rfl) rfl rfl ?_
  intro f hn hf
  have h0 : f.get 0 = rptr jr := hf 0
  clear hf
  have p5 : (2 : Nat) ^ 5 = 32 := by decide
  have p4 : (2 : Nat) ^ 4 = 16 := by decide
  have r0 := h.t.load (P := Try.prog) agBitsQ (off := 0) (c := 4) rfl (by simp)
  have ne2 : ¬ (2 : Int) = 0 := by decide
  unfold headX
  simp (config := { maxSteps := 1000000, implicitDefEqProofs := false }) (disch := omega) only [allW, allR, evalAll, Nat.reduceLT, Nat.reduceEqDiff, ↓reduceIte, hn, h0, rfld0, r0]
  refine (number_any hL base s jx ic D p 5 h.bit hb (by omega) hlen).mono ?_
  intro v s1 hN
  by_cases c1 : p + 5 ≤ 8 * D.length
  rotate_left
  · rw [takeE_no c1] at hN ⊢
    obtain ⟨-, rfl, hto⟩ := hN
    simp (config := { maxSteps := 1000000, implicitDefEqProofs := false }) (disch := omega) only [allW, allR, wfn_ret, oneOf, Nat.reduceLT, Nat.reduceEqDiff, ↓reduceIte, hn, ext20, ext21, eq_false ne2, Try.results70]
    exact ⟨by decide, ⟨_, _, _, rfl⟩, hto⟩
  rw [takeE_ok c1] at hN ⊢
  dsimp only
  obtain ⟨rfl, hB1, to1⟩ := hN
  have hb5 := bitsN_lt D p 5
  generalize bitsN D p 5 = n at hb5
  have e1 : (n : Int) + 257 = ((n + 257 : Nat) : Int) := by omega
  by_cases cn : 29 < n
  · have d1 : ((n + 257 : Nat) : Int) > 286 := by omega
    rw [if_pos cn]
    simp (config := { maxSteps := 1000000, implicitDefEqProofs := false }) (disch := omega) only [allW, allR, wfn_ret, oneOf, Nat.reduceLT, Nat.reduceEqDiff, ↓reduceIte, hn, ext20, ext21, wrapI, e1, eq_true d1, Try.results70]
    exact ⟨by decide, ⟨_, _, _, rfl⟩, to1⟩
  have d1 : ¬ ((n + 257 : Nat) : Int) > 286 := by omega
  rw [if_neg cn]
  have hR1 := h.bits hB1 to1
  have hb1 : base ≤ s1.next := by have := to1.next; omega
  have r0 := hR1.t.load (P := Try.prog) agBitsQ (off := 0) (c := 4) rfl (by simp)
  simp (config := { maxSteps := 1000000, implicitDefEqProofs := false }) (disch := omega) only [allW, allR, evalAll, Nat.reduceLT, Nat.reduceEqDiff, ↓reduceIte, hn, h0, ext20, ext21, wrapI, e1, eq_false d1, rfld0, r0]
  refine (number_any hL base s1 jx ic D (p + 5) 5 hB1 hb1 (by omega) hlen).mono ?_
  intro v s2 hN
  by_cases c2 : p + 5 + 5 ≤ 8 * D.length
  rotate_left
  · rw [takeE_no c2] at hN ⊢
    obtain ⟨-, rfl, hto⟩ := hN
    simp (config := { maxSteps := 1000000, implicitDefEqProofs := false }) (disch := omega) only [allW, allR, wfn_ret, oneOf, Nat.reduceLT, Nat.reduceEqDiff, ↓reduceIte, hn, ext20, ext21, eq_false ne2, Try.results70]
    exact ⟨by decide, ⟨_, _, _, rfl⟩, to1.trans hto⟩
  rw [takeE_ok c2] at hN ⊢
  dsimp only
  obtain ⟨rfl, hB2, to2⟩ := hN
  have to2 := to1.trans to2
  have hb5 := bitsN_lt D (p + 5) 5
  generalize bitsN D (p + 5) 5 = d at hb5
  have e2 : (d : Int) + 1 = ((d + 1 : Nat) : Int) := by omega
  by_cases cd : 29 < d
  · have d2 : ((d + 1 : Nat) : Int) > 30 := by omega
    rw [if_pos cd]
    simp (config := { maxSteps := 1000000, implicitDefEqProofs := false }) (disch := omega) only [allW, allR, wfn_ret, oneOf, Nat.reduceLT, Nat.reduceEqDiff, ↓reduceIte, hn, ext20, ext21, wrapI, e2, eq_true d2, Try.results70]
    exact ⟨by decide, ⟨_, _, _, rfl⟩, to2⟩
  have d2 : ¬ ((d + 1 : Nat) : Int) > 30 := by omega
  rw [if_neg cd]
  have hR2 := h.bits hB2 to2
  have hb2 : base ≤ s2.next := by have := to2.next; omega
  have r0 := hR2.t.load (P := Try.prog) agBitsQ (off := 0) (c := 4) rfl (by simp)
  simp (config := { maxSteps := 1000000, implicitDefEqProofs := false }) (disch := omega) only [allW, allR, evalAll, Nat.reduceLT, Nat.reduceEqDiff, ↓reduceIte, hn, h0, ext20, ext21, wrapI, e2, eq_false d2, rfld0, r0]
  refine (number_any hL base s2 jx ic D (p + 5 + 5) 4 hB2 hb2 (by omega) hlen).mono ?_
  intro v s3 hN
  rw [show p + 10 = p + 5 + 5 by omega]
  by_cases c3 : p + 5 + 5 + 4 ≤ 8 * D.length
  rotate_left
  · rw [takeE_no c3] at hN ⊢
    obtain ⟨-, rfl, hto⟩ := hN
    simp (config := { maxSteps := 1000000, implicitDefEqProofs := false }) (disch := omega) only [allW, wfn_ret, oneOf, Nat.reduceLT, Nat.reduceEqDiff, ↓reduceIte, hn, ext20, ext21, wrapI, e1, e2, Try.results70]
    exact ⟨by decide, ⟨_, _, _, rfl⟩, to2.trans hto⟩
  rw [takeE_ok c3] at hN ⊢
  dsimp only
  obtain ⟨rfl, hB3, to3⟩ := hN
  have to3 := to2.trans to3
  have hb4 := bitsN_lt D (p + 5 + 5) 4
  generalize bitsN D (p + 5 + 5) 4 = k at hb4
  have e3 : (k : Int) + 4 = ((k + 4 : Nat) : Int) := by omega
  simp (config := { maxSteps := 1000000, implicitDefEqProofs := false }) (disch := omega) only [allW, wfn_ret, oneOf, Nat.reduceLT, Nat.reduceEqDiff, ↓reduceIte, hn, ext20, ext21, wrapI, e1, e2, e3, Try.results70]
  exact ⟨rfl, h.bits hB3 to3, to3⟩
def AgnR (base jr jx ic : Nat) (D P : List UInt8) (M : Int) (o : Value) (s : ASt) (v : Value) (s' : ASt) : Except Nat (Nat × Nat × Nat) → Prop
  | .ok (x, n, q) => v = .tuple #[.int .i64 (x : Nat), .int .i64 (n : Nat), .int .i64 0] ∧ Rs base s' jr jx ic D q P M o ∧ BTo jx ic s s'
  | .error e => 0 < e ∧ (∃ a b, v = .tuple #[.int .i64 a, .int .i64 b, .int .i64 (e : Nat)]) ∧ BTo jx ic s s'
set_option maxHeartbeats 8000000 in
theorem againP_any {lib : Prims} (hL : NoL lib) (base : Nat) (s : ASt) (jr jx ic : Nat) (D P : List UInt8) (p : Nat) (M : Int) (o : Value) (h : Rs base s jr jx ic D p P M o) (hb : base ≤ s.next) (hlen : D.length ≤ 1000000) (x : Nat) (y : Value) (l : List Nat) (hy : Own s 1 y l.length (natsV l)) (hyi : ∀ i, idOf y = some i → i ≠ jx ∧ i ≠ ic) (hll : l.length ≤ 1000) :
    Runs Try.prog lib 74 [rptr jr, .int .i64 (x : Nat), y] s fun v s' => AgnR base jr jx ic D P M o s v s' (againX D x p l) := by
  refine Runs.enter 65 Try.func74 rfl (hL _ rfl) rfl rfl ?_
  intro f hn hf
  have h0 : f.get 0 = rptr jr := hf 0
  have h1 : f.get 1 = .int .i64 (x : Nat) := hf 1
  have h2 : f.get 2 = y := hf 2
  clear hf
  have p2 : (2 : Nat) ^ 2 = 4 := by decide
  have p3 : (2 : Nat) ^ 3 = 8 := by decide
  have p7 : (2 : Nat) ^ 7 = 128 := by decide
  have r0 := h.t.load (P := Try.prog) agBitsQ (off := 0) (c := 4) rfl (by simp)
  unfold againX
  by_cases c16 : x = 16
  · have d16 : ((x : Nat) : Int) = 16 := by omega
    rw [if_pos c16]
    by_cases cl : l.length = 0
    · have d0 : ((l.length : Nat) : Int) = 0 := by omega
      rw [if_pos cl]
      simp (config := { maxSteps := 1000000, implicitDefEqProofs := false }) (disch := omega) only [allW, wfn_ret, oneOf, evalAll, Nat.reduceLT, Nat.reduceEqDiff, ↓reduceIte, hn, h1, h2, eq_true d16, hy.sees.lenA uIntsF, eq_true d0, Try.results74]
      exact ⟨by decide, ⟨_, _, rfl⟩, BTo.refl _ _ _⟩
    have d0 : ¬ ((l.length : Nat) : Int) = 0 := by omega
    rw [if_neg cl]
    simp (config := { maxSteps := 1000000, implicitDefEqProofs := false }) (disch := omega) only [allW, allR, evalAll, Nat.reduceLT, Nat.reduceEqDiff, ↓reduceIte, hn, h0, h1, h2, eq_true d16, hy.sees.lenA uIntsF, eq_false d0, rfld0, r0]
    refine (number_any hL base s jx ic D p 2 h.bit hb (by omega) hlen).mono ?_
    intro v s1 hN
    have e1 : ((l.length : Nat) : Int) - 1 = ((l.length - 1 : Nat) : Int) := by omega
    have hfin : ∀ t, BTo jx ic s t → indexAddrA Try.prog 63 y (.int .i64 ((l.length - 1 : Nat) : Int)) = some (elemPtr 1 y (l.length - 1)) ∧ loadA Try.prog t 3 (elemPtr 1 y (l.length - 1)) = some (.int .i64 ((l.getD (l.length - 1) 0 : Nat) : Int)) := fun t k => by
      have hyt := ownTo hy k.next (fun i hi hl => k.get i hl (hyi i hi).1 (hyi i hi).2)
      have i1 := hyt.sees.indexAddr (P := Try.prog) (k := .i64) (x := ((l.length - 1 : Nat) : Int)) uIntsF szInt (by omega) (by omega)
      rw [Int.toNat_natCast] at i1
      have k1 := hyt.sees.load1 (P := Try.prog) agInt (k := l.length - 1) (by omega)
      rw [natsV_getD (by omega)] at k1
      exact ⟨i1, k1⟩
    by_cases c1 : p + 2 ≤ 8 * D.length
    · rw [takeE_ok c1] at hN ⊢
      dsimp only
      obtain ⟨rfl, hB1, to1⟩ := hN
      obtain ⟨i1, k1⟩ := hfin s1 to1
      have hbl := bitsN_lt D p 2
      generalize bitsN D p 2 = n at hbl
      have e3 : (3 : Int) + (n : Int) = ((3 + n : Nat) : Int) := by omega
      simp (config := { maxSteps := 1000000, implicitDefEqProofs := false }) (disch := omega) only [allW, wfn_ret, oneOf, evalAll, Nat.reduceLT, Nat.reduceEqDiff, ↓reduceIte, hn, h2, ext20, ext21, hy.sees.lenA uIntsF, wrapI, e1, i1, k1, e3, Try.results74]
      exact ⟨rfl, h.bits hB1 to1, to1⟩
    · rw [takeE_no c1] at hN ⊢
      obtain ⟨-, rfl, hto⟩ := hN
      obtain ⟨i1, k1⟩ := hfin s1 hto
      simp (config := { maxSteps := 1000000, implicitDefEqProofs := false }) (disch := omega) only [allW, wfn_ret, oneOf, evalAll, Nat.reduceLT, Nat.reduceEqDiff, ↓reduceIte, hn, h2, ext20, ext21, hy.sees.lenA uIntsF, wrapI, e1, i1, k1, Try.results74]
      exact ⟨by decide, ⟨_, _, rfl⟩, hto⟩
  have d16 : ¬ ((x : Nat) : Int) = 16 := by omega
  rw [if_neg c16]
  by_cases c17 : x = 17
  · have d17 : ((x : Nat) : Int) = 17 := by omega
    rw [if_pos c17]
    simp (config := { maxSteps := 1000000, implicitDefEqProofs := false }) (disch := omega) only [allW, allR, evalAll, Nat.reduceLT, Nat.reduceEqDiff, ↓reduceIte, hn, h0, h1, eq_false d16, eq_true d17, rfld0, r0]
    refine (number_any hL base s jx ic D p 3 h.bit hb (by omega) hlen).mono ?_
    intro v s1 hN
    by_cases c1 : p + 3 ≤ 8 * D.length
    · rw [takeE_ok c1] at hN ⊢
      dsimp only
      obtain ⟨rfl, hB1, to1⟩ := hN
      have hbl := bitsN_lt D p 3
      generalize bitsN D p 3 = n at hbl
      have e3 : (3 : Int) + (n : Int) = ((3 + n : Nat) : Int) := by omega
      simp (config := { maxSteps := 1000000, implicitDefEqProofs := false }) (disch := omega) only [allW, wfn_ret, oneOf, Nat.reduceLT, Nat.reduceEqDiff, ↓reduceIte, hn, ext20, ext21, wrapI, e3, Try.results74]
      exact ⟨rfl, h.bits hB1 to1, to1⟩
    · rw [takeE_no c1] at hN ⊢
      obtain ⟨-, rfl, hto⟩ := hN
      simp (config := { maxSteps := 1000000, implicitDefEqProofs := false }) (disch := omega) only [allW, wfn_ret, oneOf, Nat.reduceLT, Nat.reduceEqDiff, ↓reduceIte, hn, ext20, ext21, wrapI, Try.results74]
      exact ⟨by decide, ⟨_, _, rfl⟩, hto⟩
  have d17 : ¬ ((x : Nat) : Int) = 17 := by omega
  rw [if_neg c17]
  by_cases c18 : x = 18
  · have d18 : ((x : Nat) : Int) = 18 := by omega
    rw [if_pos c18]
    simp (config := { maxSteps := 1000000, implicitDefEqProofs := false }) (disch := omega) only [allW, allR, evalAll, Nat.reduceLT, Nat.reduceEqDiff, ↓reduceIte, hn, h0, h1, eq_false d16, eq_false d17, eq_true d18, rfld0, r0]
    refine (number_any hL base s jx ic D p 7 h.bit hb (by omega) hlen).mono ?_
    intro v s1 hN
    by_cases c1 : p + 7 ≤ 8 * D.length
    · rw [takeE_ok c1] at hN ⊢
      dsimp only
      obtain ⟨rfl, hB1, to1⟩ := hN
      have hbl := bitsN_lt D p 7
      generalize bitsN D p 7 = n at hbl
      have e3 : (11 : Int) + (n : Int) = ((11 + n : Nat) : Int) := by omega
      simp (config := { maxSteps := 1000000, implicitDefEqProofs := false }) (disch := omega) only [allW, wfn_ret, oneOf, Nat.reduceLT, Nat.reduceEqDiff, ↓reduceIte, hn, ext20, ext21, wrapI, e3, Try.results74]
      exact ⟨rfl, h.bits hB1 to1, to1⟩
    · rw [takeE_no c1] at hN ⊢
      obtain ⟨-, rfl, hto⟩ := hN
      simp (config := { maxSteps := 1000000, implicitDefEqProofs := false }) (disch := omega) only [allW, wfn_ret, oneOf, Nat.reduceLT, Nat.reduceEqDiff, ↓reduceIte, hn, ext20, ext21, wrapI, Try.results74]
      exact ⟨by decide, ⟨_, _, rfl⟩, hto⟩
  have d18 : ¬ ((x : Nat) : Int) = 18 := by omega
  rw [if_neg c18]
  simp (config := { maxSteps := 1000000, implicitDefEqProofs := false }) (disch := omega) only [allW, wfn_ret, oneOf, Nat.reduceLT, Nat.reduceEqDiff, ↓reduceIte, hn, h1, eq_false d16, eq_false d17, eq_false d18, Try.results74]
  exact ⟨rfl, h, BTo.refl _ _ _⟩
def LenR (base jr jx ic : Nat) (D P : List UInt8) (M : Int) (o : Value) (many : Nat) (s : ASt) (v : Value) (s' : ASt) : Except Nat (List Nat × Nat) → Prop
  | .ok (l, q) => ∃ y, v = .tuple #[y, .int .i64 0] ∧ Own s' 1 y l.length (natsV l) ∧ Fresh s.next y ∧ Rs base s' jr jx ic D q P M o ∧ BTo jx ic s s' ∧ Le15 l ∧ l.length = many
  | .error e => 0 < e ∧ (∃ w, v = .tuple #[w, .int .i64 (e : Nat)]) ∧ BTo jx ic s s'
theorem againX_fine {D : List UInt8} {s p : Nat} {l : List Nat} {x n q : Nat} (hs : s ≤ 18) (hl : Le15 l) (h : againX D s p l = .ok (x, n, q)) : n ≤ 200 ∧ x ≤ 15 := by
  unfold againX at h
  split at h
  · split at h
    · cases h
    · cases h1 : takeE D p 2 with
      | error e => rw [h1] at h; cases h
      | ok y =>
        rw [h1] at h; injection h with h; injection h with h2 h; injection h with h3 _
        have := (takeE_le h1).2
        have := bitsN_lt D p 2
        have := hl (l.length - 1)
        omega
  split at h
  · cases h1 : takeE D p 3 with
    | error e => rw [h1] at h; cases h
    | ok y =>
      rw [h1] at h; injection h with h; injection h with h2 h; injection h with h3 _
      have := (takeE_le h1).2
      have := bitsN_lt D p 3
      omega
  split at h
  · cases h1 : takeE D p 7 with
    | error e => rw [h1] at h; cases h
    | ok y =>
      rw [h1] at h; injection h with h; injection h with h2 h; injection h with h3 _
      have := (takeE_le h1).2
      have := bitsN_lt D p 7
      omega
  · injection h with h; injection h with h2 h; injection h with h3 _
    omega
set_option maxHeartbeats 8000000 in
theorem lengthsP_any {lib : Prims} (hL : NoL lib) (base : Nat) (s : ASt) (jr jx ic : Nat) (D P : List UInt8) (p0 : Nat) (M : Int) (o : Value) (h : Rs base s jr jx ic D p0 P M o) (hb : base ≤ s.next) (hlen : D.length ≤ 1000000) (vc : Value) (C : List Nat) (hC : CodP jr jx ic o s vc C) (hCl : C.length = 19) (many N : Nat) (hmany : many ≤ 400) (hN : 8 * D.length + 1 < N) :
    Runs Try.prog lib 71 [rptr jr, vc, .int .i64 (many : Nat)] s fun v s' => LenR base jr jx ic D P M o many s v s' (lensX D C many N p0 []) := by
  obtain ⟨sc, rfl, hS, hSo⟩ := hC
  have hlt := h.bit.lt
  have hjrl := h.t.lt
  have hol : ∀ i, idOf o = some i → i < s.next := fun i hi => h.own.idlt i hi
  refine Runs.enter 55 Try.func71 rfl (hL _ rfl) rfl rfl ?_
  intro f hn hf
  have h0 : f.get 0 = rptr jr := hf 0
  have h1 : f.get 1 = .agg (codeV C sc).toArray := hf 1
  have h2 : f.get 2 = .int .i64 (many : Nat) := hf 2
  clear hf
  simp (config := { maxSteps := 1000000, implicitDefEqProofs := false }) (disch := omega) only [allW, Nat.reduceLT, ↓reduceIte, hn, h1]
  refine wstep_newPtr ?_
  intro s1 hc1 hst1 hnx1
  obtain ⟨jc, hjc⟩ : ∃ j, j = s.next := ⟨_, rfl⟩
  rw [← hjc] at hc1
  have k1 : BTo jx ic s s1 := ⟨hst1.next, fun i hi _ _ => hst1.get i hi⟩
  have hR1 := h.keeps hb hst1
  have hS1 := hS.to k1
  obtain ⟨R, hR⟩ : ∃ R, R = lensX D C many N p0 [] := ⟨_, rfl⟩
  rw [← hR]
  simp (config := { maxSteps := 1000000, implicitDefEqProofs := false }) (disch := omega) only [allW, Nat.reduceLT, Nat.reduceAdd, ↓reduceIte, hn, ← hjc, codeV_length]
  refine Comes.loopOut (fun z f t => ∃ (p : Nat) (l : List Nat) (y : Value), lensX D C many z p l = R ∧ 8 * D.length + 1 < z + p ∧ l.length ≤ many ∧ Le15 l ∧ Own t 1 y l.length (natsV l) ∧ Fresh s1.next y ∧ Rs base t jr jx ic D p P M o ∧ BTo jx ic s t ∧ s1.next ≤ t.next ∧ Thing t jc (codeV C sc) ∧ Syms jx ic t sc C ∧ f.n = 55 ∧ f.get 0 = rptr jr ∧ f.get 2 = .int .i64 (many : Nat) ∧ f.get 4 = .pointer (some ⟨jc, 0, some 18⟩) ∧ f.get 8 = y)
    (fun z f t => f.n = 55 ∧ ((z = .exit 0 ∧ ∃ (l : List Nat) (q : Nat), R = .ok (l, q) ∧ Own t 1 (f.get 8) l.length (natsV l) ∧ Fresh s.next (f.get 8) ∧ Rs base t jr jx ic D q P M o ∧ BTo jx ic s t ∧ Le15 l ∧ l.length = many) ∨ (z = .ret ∧ ∃ (e : Nat) (w : Value), R = .error e ∧ 0 < e ∧ f.get 6 = w ∧ f.get 7 = .int .i64 (e : Nat) ∧ BTo jx ic s t)))
    ⟨p0, [], _, hR.symm, by omega, by simp, fun i => by simp, .nil, Fresh.nil _, hR1, k1, by omega, hc1, hS1, by simp only [n_put, hn], by simp only [get_put, ↓reduceIte, Nat.reduceEqDiff, h0], by simp only [get_put, ↓reduceIte, Nat.reduceEqDiff, h2], by simp only [get_put, ↓reduceIte, Nat.reduceEqDiff], by simp only [get_put, ↓reduceIte]⟩ ?_ ?_
  rotate_left
  · clear hn h0 h1 h2 f
    rintro z f t ⟨hn, (⟨rfl, l, q, hRq, hy, hyF, hRs, hto, hl15, hlm⟩ | ⟨rfl, e, w, hRe, he, h6, h7, hto⟩)⟩
    · obtain ⟨y, h8⟩ : ∃ y, f.get 8 = y := ⟨_, rfl⟩
      rw [h8] at hy hyF
      simp (config := { maxSteps := 1000000, implicitDefEqProofs := false }) (disch := omega) only [allW, wfn_ret, oneOf, Nat.reduceLT, Nat.reduceEqDiff, ↓reduceIte, hn, h8, Try.results71]
      rw [hRq]
      exact ⟨y, rfl, hy, hyF, hRs, hto, hl15, hlm⟩
    · simp (config := { maxSteps := 1000000, implicitDefEqProofs := false }) (disch := omega) only [allW, wfn_ret, oneOf, Nat.reduceLT, ↓reduceIte, hn, h6, h7, Try.results71]
      rw [hRe]
      exact ⟨he, ⟨_, rfl⟩, hto⟩
  clear hn h0 h1 h2 f hR1 hS1 hc1
  rintro Q hQ z f t ⟨p, l, y, hz, hpz, hlM, hl15, hy, hyF, hRs, hto, hnt, hcx, hSx, hn, h0, h2, h4, h8⟩
  have hpD := hRs.bit.le
  have hbt : base ≤ t.next := by omega
  obtain ⟨k, rfl⟩ : ∃ k, z = k + 1 := ⟨z - 1, by omega⟩
  rw [lensX] at hz
  by_cases cM : many ≤ l.length
  · have d1 : ¬ ((l.length : Nat) : Int) < (many : Int) := by omega
    rw [if_pos cM] at hz
    simp (config := { maxSteps := 1000000, implicitDefEqProofs := false }) (disch := omega) only [allW, evalAll, Nat.reduceLT, Nat.reduceEqDiff, ↓reduceIte, hn, h2, h8, hy.sees.lenA uIntsF, eq_false d1]
    exact hQ _ _ _ ⟨by simp only [n_put, hn], .inl ⟨rfl, l, p, hz.symm, by simp only [get_put, ↓reduceIte, Nat.reduceEqDiff, h8]; exact hy, by simp only [get_put, ↓reduceIte, Nat.reduceEqDiff, h8]; exact fun i hi => by have := hyF i hi; omega, hRs, hto, hl15, by omega⟩⟩
  have d1 : ((l.length : Nat) : Int) < (many : Int) := by omega
  rw [if_neg cM] at hz
  simp (config := { maxSteps := 1000000, implicitDefEqProofs := false }) (disch := omega) only [allW, evalAll, Nat.reduceLT, Nat.reduceEqDiff, ↓reduceIte, hn, h2, h8, hy.sees.lenA uIntsF, eq_true d1]
  obtain ⟨A2, hA2⟩ : ∃ A : Nat → Bool, A = fun j => decide (j < t.next) := ⟨_, rfl⟩
  have hAl2 : ∀ j, A2 j = true → j < t.next := by
    intro j h
    rw [hA2] at h
    exact of_decide_eq_true h
  have hAo2 : ∀ j, j < t.next → A2 j = true := fun j h => by rw [hA2]; exact decide_eq_true h
  have hsq := Stay.spare t 0
  have hnq : (spare t 0).next = t.next + 0 := spare_next _ _
  have hRq := hRs.keeps hbt hsq
  have hcq := hcx.keeps hsq
  have kq : BTo jx ic t (spare t 0) := ⟨by omega, fun i hi _ _ => hsq.get i hi⟩
  have lr : ∀ k, LA.lowV A2 (some (.pointer (some ⟨jr, k, some 4⟩))) = true := fun k => LA.lowV_ptr (A := A2) (i := jr) (hAo2 _ hRs.t.lt)
  have lb : ∀ k, LA.lowV A2 (some (.pointer (some ⟨jc, k, some 18⟩))) = true := fun k => LA.lowV_ptr (A := A2) (i := jc) (hAo2 _ hcx.lt)
  have r0q := hRq.t.load (P := Try.prog) agBitsQ (off := 0) (c := 4) rfl (by simp)
  have lall := hcq.loadAll (P := Try.prog) agCode (by rw [codeV_length]; exact szCode) (c := 18) (by rw [codeV_length])
  refine LB.Drawn.looseK A2 hAl2 0 0 (by kernel_rfl) (by kernel_rfl) ?_
  simp (config := { maxSteps := 1000000, implicitDefEqProofs := false }) (disch := omega) only [allW, allR, allL, allB, Nat.reduceSub, evalAll, Nat.reduceLT, Nat.reduceEqDiff, ↓reduceIte, hn, h0, h4, rfld0, r0q, lall, lr, lb, valEq_code C hSx.1]
  refine (symP_any hL base (spare t 0) jx ic D p hRq.bit (by omega) hlen C sc (hSx.to kq) (by omega)).mono ?_
  intro v t3 hY
  refine ⟨fun h => h.elim, ?_⟩
  cases hsy : sym D C p with
  | error e =>
    rw [hsy] at hY hz
    obtain ⟨he, rfl, hto3⟩ := hY
    have c0 : ¬ (e : Int) = 0 := by omega
    simp (config := { maxSteps := 1000000, implicitDefEqProofs := false }) (disch := omega) only [allW, allR, allL, allB, Nat.reduceLT, Nat.reduceEqDiff, ↓reduceIte, allW, allR, Nat.reduceLT, Nat.reduceEqDiff, ↓reduceIte, hn, ext20, ext21, valEq_t2, eq_false c0]
    exact hQ _ _ _ ⟨by simp only [n_put, hn], .inr ⟨rfl, e, _, hz.symm, he, by simp only [get_put, ↓reduceIte, Nat.reduceEqDiff]; rfl, by simp only [get_put, ↓reduceIte], hto.trans (kq.trans hto3)⟩⟩
  | ok xq =>
  obtain ⟨x, q⟩ := xq
  rw [hsy] at hY hz
  obtain ⟨rfl, hB3, to3⟩ := hY
  dsimp only at hz
  have hsl := sym_le hsy
  have kk3 := kq.trans to3
  have hR3 := hRq.bits hB3 to3
  have hb3 : base ≤ t3.next := by have := to3.next; omega
  have hyi : ∀ i, idOf y = some i → i ≠ jx ∧ i ≠ ic := fun i hi => by have := hyF i hi; omega
  have hy3 := ownTo hy kk3.next (fun i hi hl => kk3.get i hl (hyi i hi).1 (hyi i hi).2)
  have hc3 := thingTo hcx kk3.next (kk3.get jc hcx.lt (by omega) (by omega))
  have hS3 := hSx.to kk3
  simp (config := { maxSteps := 1000000, implicitDefEqProofs := false }) (disch := omega) only [allW, allR, allL, allB, evalAll, Nat.reduceLT, Nat.reduceEqDiff, ↓reduceIte, allW, allR, evalAll, Nat.reduceLT, Nat.reduceEqDiff, ↓reduceIte, hn, h0, h8, ext20, ext21, valEq_t2]
  refine (againP_any hL base t3 jr jx ic D P q M o hR3 hb3 hlen x y l hy3 hyi (by omega)).mono ?_
  intro v t4 hG
  cases hag : againX D x q l with
  | error e =>
    rw [hag] at hG hz
    obtain ⟨he, ⟨a, b, rfl⟩, hto4⟩ := hG
    have c0 : ¬ (e : Int) = 0 := by omega
    simp (config := { maxSteps := 1000000, implicitDefEqProofs := false }) (disch := omega) only [allW, allR, Nat.reduceLT, Nat.reduceEqDiff, ↓reduceIte, hn, ext30, ext31, ext32, eq_false c0]
    exact hQ _ _ _ ⟨by simp only [n_put, hn], .inr ⟨rfl, e, _, hz.symm, he, by simp only [get_put, ↓reduceIte, Nat.reduceEqDiff]; rfl, by simp only [get_put, ↓reduceIte], hto.trans (kk3.trans hto4)⟩⟩
  | ok a =>
  obtain ⟨xv, xn, r⟩ := a
  rw [hag] at hG hz
  obtain ⟨rfl, hR4, to4⟩ := hG
  dsimp only at hz
  have hfin := againX_fine (by omega) hl15 hag
  have hale := againX_le hag
  have kk4 := kk3.trans to4
  have hy4 := ownTo hy3 to4.next (fun i hi hl => to4.get i hl (hyi i hi).1 (hyi i hi).2)
  have hc4 := thingTo hc3 to4.next (to4.get jc hc3.lt (by omega) (by omega))
  have hS4 := hS3.to to4
  have n4 := kk4.next
  have eM : (many : Int) - ((l.length : Nat) : Int) = ((many - l.length : Nat) : Int) := by omega
  by_cases cn : many < l.length + xn
  · have d2 : ((xn : Nat) : Int) > ((many - l.length : Nat) : Int) := by omega
    rw [if_pos cn] at hz
    simp (config := { maxSteps := 1000000, implicitDefEqProofs := false }) (disch := omega) only [allW, allR, evalAll, Nat.reduceLT, Nat.reduceEqDiff, ↓reduceIte, hn, h2, h8, ext30, ext31, ext32, hy4.sees.lenA uIntsF, wrapI, eM, eq_true d2]
    exact hQ _ _ _ ⟨by simp only [n_put, hn], .inr ⟨rfl, 4, _, hz.symm, by decide, by simp only [get_put, ↓reduceIte, Nat.reduceEqDiff]; rfl, by simp only [get_put, ↓reduceIte]; rfl, hto.trans kk4⟩⟩
  have d2 : ¬ ((xn : Nat) : Int) > ((many - l.length : Nat) : Int) := by omega
  rw [if_neg cn] at hz
  simp (config := { maxSteps := 1000000, implicitDefEqProofs := false }) (disch := omega) only [allW, allR, evalAll, Nat.reduceLT, Nat.reduceEqDiff, ↓reduceIte, hn, h2, h8, ext30, ext31, ext32, hy4.sees.lenA uIntsF, wrapI, eM, eq_false d2]
  refine Comes.loopOut (fun z f t' => ∃ (i : Nat) (y : Value), z = xn - i ∧ i ≤ xn ∧ Own t' 1 y (l.length + i) (natsV (l ++ List.replicate i xv)) ∧ Fresh s1.next y ∧ Stay s1.next t4 t' ∧ f.n = 55 ∧ f.get 0 = rptr jr ∧ f.get 2 = .int .i64 (many : Nat) ∧ f.get 4 = .pointer (some ⟨jc, 0, some 18⟩) ∧ f.get 8 = y ∧ f.get 11 = .int .i64 (xv : Nat) ∧ f.get 46 = .int .i64 (xn : Nat) ∧ f.get 47 = .int .i64 (i : Nat))
    (fun z f t' => z = .exit 2 ∧ ∃ (y : Value), Own t' 1 y (l.length + xn) (natsV (l ++ List.replicate xn xv)) ∧ Fresh s1.next y ∧ Stay s1.next t4 t' ∧ f.n = 55 ∧ f.get 0 = rptr jr ∧ f.get 2 = .int .i64 (many : Nat) ∧ f.get 4 = .pointer (some ⟨jc, 0, some 18⟩) ∧ f.get 8 = y)
    ⟨0, y, rfl, by omega, by simpa using hy4, hyF, Stay.refl _ _, by simp only [n_put, hn], by simp only [get_put, ↓reduceIte, Nat.reduceEqDiff, h0], by simp only [get_put, ↓reduceIte, Nat.reduceEqDiff, h2], by simp only [get_put, ↓reduceIte, Nat.reduceEqDiff, h4], by simp only [get_put, ↓reduceIte, Nat.reduceEqDiff, h8], by simp only [get_put, ↓reduceIte, Nat.reduceEqDiff], by simp only [get_put, ↓reduceIte, Nat.reduceEqDiff], by simp only [get_put, ↓reduceIte]; rfl⟩ ?_ ?_
  · clear hn h0 h2 h4 h8 f
    rintro Q2 hQ2 z f t' ⟨i, y, rfl, hi, hy, hyF, hst, hn, h0, h2, h4, h8, h11, h46, h47⟩
    by_cases hin : i < xn
    rotate_left
    · obtain rfl : i = xn := by omega
      have d3 : ¬ ((i : Nat) : Int) < ((i : Nat) : Int) := by omega
      simp (config := { maxSteps := 1000000, implicitDefEqProofs := false }) (disch := omega) only [allW, Nat.reduceLT, ↓reduceIte, hn, h46, h47, eq_false d3]
      exact hQ2 _ _ _ ⟨rfl, y, hy, hyF, hst, by simp only [n_put, hn], by simp only [get_put, ↓reduceIte, Nat.reduceEqDiff, h0], by simp only [get_put, ↓reduceIte, Nat.reduceEqDiff, h2], by simp only [get_put, ↓reduceIte, Nat.reduceEqDiff, h4], by simp only [get_put, ↓reduceIte, Nat.reduceEqDiff, h8]⟩
    have d3 : ((i : Nat) : Int) < ((xn : Nat) : Int) := by omega
    simp (config := { maxSteps := 1000000, implicitDefEqProofs := false }) (disch := omega) only [allW, partsA, Nat.reduceLT, Nat.reduceEqDiff, ↓reduceIte, hn, h8, h11, h46, h47, eq_true d3, build1 uIntsF szInt zIntF]
    refine wstep_append_lit uIntsF szInt byIntF zIntF rfl hy (by simp only [get_put, ↓reduceIte, Nat.reduceEqDiff]) (by decide) (by simp only [n_put, hn]; decide) (by simp only [n_put, hn]; decide) (by rfl) (by decide) rfl (by omega) (by omega) hyF (by have := hst.next; omega) ?_
    intro bs y2 t6 hy2 hF2 hst2 ht2 hid2
    have e6 : natsV (l ++ List.replicate i xv) ++ [Value.int .i64 (xv : Nat)] = natsV (l ++ List.replicate (i + 1) xv) := by
      rw [List.replicate_succ', ← List.append_assoc]
      exact natsV_app _ [xv]
    rw [e6] at hy2
    simp (config := { maxSteps := 1000000, implicitDefEqProofs := false }) (disch := omega) only [allW, Nat.reduceLT, Nat.reduceEqDiff, ↓reduceIte, hn, h47, wrapI]
    exact wround_next (xn - (i + 1)) (by omega) ⟨i + 1, y2, rfl, by omega, hy2, hF2, hst.trans hst2, by simp only [n_put, hn], by simp only [get_put, ↓reduceIte, Nat.reduceEqDiff, h0], by simp only [get_put, ↓reduceIte, Nat.reduceEqDiff, h2], by simp only [get_put, ↓reduceIte, Nat.reduceEqDiff, h4], by simp only [get_put, ↓reduceIte, Nat.reduceEqDiff], by simp only [get_put, ↓reduceIte, Nat.reduceEqDiff, h11], by simp only [get_put, ↓reduceIte, Nat.reduceEqDiff, h46], by simp only [get_put, ↓reduceIte]; rfl⟩
  clear hn h0 h2 h4 h8 f
  rintro z f t' ⟨rfl, y2, hy2, hyF2, hst, hn, h0, h2, h4, h8⟩
  have hjs : jr < s1.next ∧ jx < s1.next ∧ ic < s1.next := by omega
  have stB : BTo jx ic t4 t' → True := fun _ => trivial
  have hR5 : Rs base t' jr jx ic D r P M o := by
    obtain ⟨q5, now, left, hB5, h7⟩ := hR4.bit
    have hg : ∀ i, i < s1.next → t'.heap.get i = t4.heap.get i := fun i hi => hst.get i hi
    obtain ⟨bb, c1, c2, c3, c4⟩ := hB5.c
    exact ⟨⟨q5, now, left, ⟨⟨bb, thingTo c1 hst.next (hg ic hjs.2.2), c2.stay (hst.weaken (by omega)), c3, c4⟩, thingTo hB5.t hst.next (hg jx hjs.2.1), hB5.e, hB5.l8, hB5.r, hB5.now, hB5.lx, hB5.lc, hB5.ne⟩, h7⟩, thingTo hR4.t hst.next (hg jr hjs.1), ownTo hR4.own hst.next (fun i hi _ => hg i (by have := hol i hi; omega)), hR4.fresh, hR4.nr, hR4.nx, hR4.nc, hR4.rx, hR4.rc, hR4.lr⟩
  have hto5 : BTo jx ic s t' := ⟨by have := hst.next; omega, fun i hi g1 g2 => (hst.get i (by omega)).trans ((hto.trans kk4).get i hi g1 g2)⟩
  have hS5 : Syms jx ic t' sc C := ⟨seesTo hS4.1 hst.next (fun i hi _ => hst.get i (by have := (hS.2 i hi).1; omega)), fun i hi => ⟨Nat.lt_of_lt_of_le (hS4.2 i hi).1 hst.next, (hS4.2 i hi).2⟩⟩
  simp (config := { maxSteps := 1000000, implicitDefEqProofs := false }) (disch := omega) only [allW, ↓reduceIte]
  have n5 := hst.next
  exact wround_next k (by omega) ⟨r, l ++ List.replicate xn xv, y2, hz, by omega, by rw [List.length_append, List.length_replicate]; omega, le15_rep hl15 hfin.2, by rw [List.length_append, List.length_replicate]; exact hy2, hyF2, hR5, hto5, by omega, thingTo hc4 n5 (hst.get jc (by omega)), hS5, by simp only [hn], by simp only [h0], by simp only [h2], by simp only [h4], by simp only [h8]⟩
end Go.Proofs.Ytnclklboogdoiaa
set_option linter.unusedSimpArgs false
set_option linter.unusedVariables false
set_option maxRecDepth 100000
namespace Go.Cl.Bt
theorem BTo.late {jx ic : Nat} {s t t' : ASt} {j : Nat} (h : BTo jx ic s t) (hj : s.next ≤ j) (hn : t'.next = t.next) (hs : ∀ i, i ≠ j → t'.heap.get i = t.heap.get i) : BTo jx ic s t' := ⟨by have := h.next; omega, fun i hi h1 h2 => (hs i (by omega)).trans (h.get i hi h1 h2)⟩
theorem BTo.kept {jx ic : Nat} {s t t' : ASt} (h : BTo jx ic s t) (k : Stay t.next t t') : BTo jx ic s t' := ⟨by have := h.next; have := k.next; omega, fun i hi h1 h2 => (k.get i (by have := h.next; omega)).trans (h.get i hi h1 h2)⟩
theorem BTo.turned {jx ic : Nat} {s t t' : ASt} {y : Value} (h : BTo jx ic s t) (k : Turns y t t') (hy : Fresh s.next y) : BTo jx ic s t' := ⟨by have := h.next; have := k.next; omega, fun i hi h1 h2 => (k.get i (by have := h.next; omega) (fun e => by have := hy i e; omega)).trans (h.get i hi h1 h2)⟩
end Go.Cl.Bt
namespace Go.Proofs.Ytnclklboogdoiaa
open Go.Cl Go.Cl.Rw Go.Cl.Sto Go.Cl.Fx Go.Cl.Nf Go.Cl.Bt
theorem Rs.low {base : Nat} {t t' : ASt} {jr jx ic : Nat} {D P : List UInt8} {p : Nat} {M : Int} {o : Value} (h : Rs base t jr jx ic D p P M o) {B : Nat} (hn : t.next ≤ t'.next) (hg : ∀ i, i < B → t'.heap.get i = t.heap.get i) (b1 : base ≤ B) (b2 : jr < B) (b3 : jx < B) (b4 : ic < B) (b5 : ∀ i, idOf o = some i → i < B) : Rs base t' jr jx ic D p P M o := by
  obtain ⟨q5, now, left, hB5, h7⟩ := h.bit
  obtain ⟨bb, c1, c2, c3, c4⟩ := hB5.c
  have hst : Stay base t t' := ⟨hn, fun i hi => hg i (by omega)⟩
  exact ⟨⟨q5, now, left, ⟨⟨bb, thingTo c1 hn (hg ic b4), c2.stay hst, c3, c4⟩, thingTo hB5.t hn (hg jx b3), hB5.e, hB5.l8, hB5.r, hB5.now, hB5.lx, hB5.lc, hB5.ne⟩, h7⟩, thingTo h.t hn (hg jr b2), ownTo h.own hn (fun i hi _ => hg i (b5 i hi)), h.fresh, h.nr, h.nx, h.nc, h.rx, h.rc, h.lr⟩
theorem bCode0 : buildA Try.prog 91 [] = some (.agg (codeV [] (.slice none 0 0)).toArray) := by kernel_rfl
abbrev code0 : Value := .agg (codeV [] (.slice none 0 0)).toArray
def DynP (base jr jx ic : Nat) (D P : List UInt8) (M : Int) (o : Value) (s : ASt) (v : Value) (s' : ASt) : Except Nat ((List Nat × List Nat) × Nat) → Prop
  | .ok ((a, b), q) => ∃ sa sb, v = .tuple #[.agg (codeV a sa).toArray, .agg (codeV b sb).toArray, .int .i64 0] ∧ Rs base s' jr jx ic D q P M o ∧ BTo jx ic s s' ∧ Own s' 1 sa (flatA a 15).length (natsV (flatA a 15)) ∧ Own s' 1 sb (flatA b 15).length (natsV (flatA b 15)) ∧ Fresh s.next sa ∧ Fresh s.next sb ∧ a.length ≤ 300 ∧ b.length ≤ 300
  | .error e => 0 < e ∧ v = .tuple #[code0, code0, .int .i64 (e : Nat)] ∧ BTo jx ic s s'
set_option maxHeartbeats 16000000 in
theorem dynP_any {lib : Prims} (hL : NoL lib) (base : Nat) (s : ASt) (jr jx ic : Nat) (D P : List UInt8) (p N : Nat) (M : Int) (o : Value) (h : Rs base s jr jx ic D p P M o) (hb : base ≤ s.next) (hlen : D.length ≤ 1000000) (hN : 8 * D.length + 1 < N) :
    Runs Try.prog lib 56 [rptr jr] s fun v s' => DynP base jr jx ic D P M o s v s' (dynX N D p) := by
  have hlt := h.bit.lt
  have hjrl := h.t.lt
  have hol : ∀ i, idOf o = some i → i < s.next := fun i hi => h.own.idlt i hi
  refine Runs.enter 109 Try.func56 rfl (hL _ rfl) rfl rfl ?_
  intro f hn hf
  have h0 : f.get 0 = rptr jr := hf 0
  clear hf
  simp (config := { maxSteps := 1000000, implicitDefEqProofs := false }) (disch := omega) only [allW, ↓reduceIte, zCode, pCode]
  refine wstep_newPtr ?_
  intro s1 hr1 hst1 hnx1
  obtain ⟨j2, hj2⟩ : ∃ j, j = s.next := ⟨_, rfl⟩
  rw [← hj2] at hr1
  simp (config := { maxSteps := 1000000, implicitDefEqProofs := false }) (disch := omega) only [allW, Nat.reduceLT, Nat.reduceAdd, ↓reduceIte, hn, ← hj2, codeV_length, zCode, pCode]
  refine wstep_newPtr ?_
  intro s2 hr3 hst2 hnx2
  obtain ⟨j3, hj3⟩ : ∃ j, j = s1.next := ⟨_, rfl⟩
  rw [← hj3] at hr3
  have hr2 := hr1.keeps hst2
  have hj2s : s.next ≤ j2 := by omega
  have hj3s : s.next ≤ j3 := by omega
  have hst12 : Stay s.next s s2 := hst1.trans (hst2.weaken (by omega))
  have to2 : BTo jx ic s s2 := ⟨hst12.next, fun i hi _ _ => hst12.get i hi⟩
  have hR2 := h.keeps hb hst12
  have hT : ∀ {t t' : ASt} {j : Nat} {cs : List Value}, Thing t j cs → s.next ≤ j → BTo jx ic t t' → Thing t' j cs := fun h1 h2 k => thingTo h1 k.next (k.get _ h1.lt (by omega) (by omega))
  have hO : ∀ {t t' : ASt} {y : Value} {n : Nat} {L : List Value}, Own t 1 y n L → Fresh s.next y → BTo jx ic t t' → Own t' 1 y n L := fun h1 h2 k => ownTo h1 k.next (fun i hi hl => k.get i hl (by have := h2 i hi; omega) (by have := h2 i hi; omega))
  have hRl : ∀ {t t' : ASt} {q : Nat}, Rs base t jr jx ic D q P M o → t.next ≤ t'.next → (∀ i, i < s.next → t'.heap.get i = t.heap.get i) → Rs base t' jr jx ic D q P M o := fun h1 h2 h3 => h1.low h2 h3 hb hjrl hlt.1 hlt.2.1 hol
  unfold dynX
  simp (config := { maxSteps := 1000000, implicitDefEqProofs := false }) (disch := omega) only [allW, allR, evalAll, Nat.reduceLT, Nat.reduceEqDiff, Nat.reduceAdd, ↓reduceIte, hn, h0, ← hj3, codeV_length]
  refine (headP_any hL base s2 jr jx ic D P p M o hR2 (by omega) hlen).mono ?_
  intro v s3 hH
  cases hh : headX D p with
  | error e =>
    rw [hh] at hH
    obtain ⟨he, ⟨a, b, c, rfl⟩, hto⟩ := hH
    have c0 : ¬ (e : Int) = 0 := by omega
    simp (config := { maxSteps := 1000000, implicitDefEqProofs := false }) (disch := omega) only [allW, allR, partsA, Nat.reduceLT, Nat.reduceEqDiff, ↓reduceIte, hn, ext40, ext41, ext42, ext43, eq_false c0, bCode0]
    refine wstep_storeAll szCode (by decide) (hT hr2 hj2s hto) (codeV_length _ _) rfl (codeV_length _ _) (codeV_ok _ rfl) ?_
    intro u1 hu1 nu1 eu1
    have hv1 : Thing u1 j3 (codeV [] (.slice none 0 0)) := Thing.ofPut (hT hr3 hj3s hto) nu1 eu1 (by omega)
    simp (config := { maxSteps := 1000000, implicitDefEqProofs := false }) (disch := omega) only [allW, Nat.reduceLT, Nat.reduceEqDiff, ↓reduceIte, hn]
    refine wstep_storeAll szCode (by decide) hv1 (codeV_length _ _) rfl (codeV_length _ _) (codeV_ok _ rfl) ?_
    intro u2 hu2 nu2 eu2
    have hu1' : Thing u1 j2 (codeV [] (.slice none 0 0)) := hu1
    have hw1 := hu1'.ofPut nu2 eu2 (by omega)
    have la := hw1.loadAll (P := Try.prog) agCode (by rw [codeV_length]; exact szCode) (c := 18) (by rw [codeV_length])
    have hu2' : Thing u2 j3 (codeV [] (.slice none 0 0)) := hu2
    have lb := hu2'.loadAll (P := Try.prog) agCode (by rw [codeV_length]; exact szCode) (c := 18) (by rw [codeV_length])
    have toU := BTo.late (BTo.late (to2.trans hto) hj2s nu1 eu1) hj3s nu2 eu2
    simp (config := { maxSteps := 1000000, implicitDefEqProofs := false }) (disch := omega) only [allW, wfn_ret, oneOf, Nat.reduceLT, Nat.reduceEqDiff, ↓reduceIte, hn, resultsA_cell, la, lb, Try.results56]
    exact ⟨he, rfl, toU⟩
  | ok c =>
  obtain ⟨n, d, k⟩ := c
  rw [hh] at hH
  obtain ⟨rfl, hR3, to3⟩ := hH
  dsimp only
  have hr2 := hT hr2 hj2s to3
  have hr3 := hT hr3 hj3s to3
  have to3 := to2.trans to3
  have hj2l := hr2.lt
  have hj3l := hr3.lt
  have n3 : s.next ≤ s3.next := to3.next
  have hbn : n ≤ 286 ∧ 257 ≤ n ∧ 1 ≤ d ∧ d ≤ 30 ∧ k ≤ 19 := by
    unfold headX at hh
    cases g1 : takeE D p 5 with
    | error e => rw [g1] at hh; cases hh
    | ok n1 =>
      rw [g1] at hh
      dsimp only at hh
      split at hh
      · cases hh
      cases g2 : takeE D (p + 5) 5 with
      | error e => rw [g2] at hh; cases hh
      | ok d1 =>
        rw [g2] at hh
        dsimp only at hh
        split at hh
        · cases hh
        cases g3 : takeE D (p + 10) 4 with
        | error e => rw [g3] at hh; cases hh
        | ok k1 =>
          rw [g3] at hh
          injection hh with hh; injection hh with a1 hh; injection hh with a2 a3
          have := (takeE_le g3).2
          have := bitsN_lt D (p + 10) 4
          have : (2 : Nat) ^ 4 = 16 := by decide
          omega
  have mk19 : ∀ t : ASt, makeSliceA Try.prog t 63 (.int .i64 19) (.int .i64 19) = newSlice t (List.replicate 19 (.int .i64 0)) 19 1 := fun t => makeInts (n := 19) uIntsF szInt zIntF byIntF (by decide) (by decide)
  simp (config := { maxSteps := 1000000, implicitDefEqProofs := false }) (disch := omega) only [allW, allR, Nat.reduceLT, Nat.reduceEqDiff, ↓reduceIte, hn, ext40, ext41, ext42, ext43, mk19]
  refine wstep_newSlice (by rw [List.length_replicate, Nat.mul_one]) ?_
  intro yc s4 hyc hycF k4
  rw [natsV_rep] at hyc
  have n4 := k4.next
  have hyc3 : ∀ i, idOf yc = some i → s3.next ≤ i := hycF
  have hycF : Fresh s.next yc := fun i hi => by have := hycF i hi; omega
  simp (config := { maxSteps := 1000000, implicitDefEqProofs := false }) (disch := omega) only [allW, partsA, Nat.reduceLT, ↓reduceIte, hn, bOrder]
  refine wstep_newSlice (by rfl) ?_
  intro yo s5 hyo hyoF k5
  have n5 := k5.next
  have hdis : ∀ i, idOf yo = some i → idOf yc ≠ some i := fun i hi e => by have := hyc.idlt i e; have := hyoF i hi; omega
  have hyo3 : ∀ i, idOf yo = some i → s3.next ≤ i := fun i hi => by have := hyoF i hi; omega
  have hyoF : Fresh s.next yo := fun i hi => by have := hyoF i hi; omega
  have hord : order.length = 19 := rfl
  have qk := hyo.sees.sliceHigh (P := Try.prog) (k := .i64) (y := ((k : Nat) : Int)) uIntsF szInt (by omega) (by omega)
  rw [Int.toNat_natCast] at qk
  have kt : BTo jx ic s3 s5 := (BTo.kept (BTo.refl jx ic s3) k4).kept k5
  have hyc5 := hyc.keeps k5
  have hr2 := hT hr2 hj2s kt
  have hr3 := hT hr3 hj3s kt
  have hR5 : Rs base s5 jr jx ic D (p + 14) P M o := hRl hR3 (by omega) (fun i hi => by rw [k5.get i (by omega), k4.get i (by omega)])
  have to5 := to3.trans kt
  have cutK : ∀ t, Own t 1 yo 19 (natsV order) → Sees t 1 (cutS 1 yo 0 k) k (natsV (order.take k)) := fun t h => by
    have := h.sees.cut (lo := 0) (hi := k) (by omega) (by omega)
    rw [Nat.mul_one, Nat.mul_one, natsV_drop, natsV_take, List.drop_zero, Nat.sub_zero] at this
    exact this
  have hk1 := (cutK s5 hyo).lenA (P := Try.prog) uIntsF (s2 := s5)
  obtain ⟨R1, hR1⟩ : ∃ R1, R1 = ownX D (order.take k) (p + 14) (List.replicate 19 0) := ⟨_, rfl⟩
  rw [← hR1]
  clear kt to2 hR2 hR3 hst1 hst2 hst12 hr1 hyc hyoF to3 k4 k5
  simp (config := { maxSteps := 1000000, implicitDefEqProofs := false }) (disch := omega) only [allW, evalAll, optA, Nat.reduceLT, Nat.reduceEqDiff, ↓reduceIte, hn, qk, hk1]
  refine Comes.loopOut (fun z f t => ∃ (i q : Nat) (oL : List Nat), z = k - i ∧ i ≤ k ∧ ownX D ((order.take k).drop i) q oL = R1 ∧ oL.length = 19 ∧ (∀ j, oL.getD j 0 ≤ 7) ∧ Rs base t jr jx ic D q P M o ∧ Own t 1 yc 19 (natsV oL) ∧ Own t 1 yo 19 (natsV order) ∧ Thing t j2 (codeV [] (.slice none 0 0)) ∧ Thing t j3 (codeV [] (.slice none 0 0)) ∧ BTo jx ic s t ∧ s3.next ≤ t.next ∧ f.n = 109 ∧ f.get 0 = rptr jr ∧ f.get 2 = .pointer (some ⟨j2, 0, some 18⟩) ∧ f.get 3 = .pointer (some ⟨j3, 0, some 18⟩) ∧ f.get 5 = .int .i64 (n : Nat) ∧ f.get 6 = .int .i64 (d : Nat) ∧ f.get 9 = yc ∧ f.get 33 = cutS 1 yo 0 k ∧ f.get 34 = .int .i64 (k : Nat) ∧ f.get 35 = .int .i64 (i : Nat))
    (fun z f t => f.n = 109 ∧ f.get 2 = .pointer (some ⟨j2, 0, some 18⟩) ∧ f.get 3 = .pointer (some ⟨j3, 0, some 18⟩) ∧ Thing t j2 (codeV [] (.slice none 0 0)) ∧ Thing t j3 (codeV [] (.slice none 0 0)) ∧ BTo jx ic s t ∧ ((z = .ret ∧ ∃ e, R1 = .error e ∧ 0 < e ∧ f.get 4 = .int .i64 (e : Nat)) ∨ (z = .exit 0 ∧ ∃ (q : Nat) (oL : List Nat), R1 = .ok (oL, q) ∧ oL.length = 19 ∧ (∀ j, oL.getD j 0 ≤ 7) ∧ Rs base t jr jx ic D q P M o ∧ Own t 1 yc 19 (natsV oL) ∧ s3.next ≤ t.next ∧ f.get 0 = rptr jr ∧ f.get 5 = .int .i64 (n : Nat) ∧ f.get 6 = .int .i64 (d : Nat) ∧ f.get 9 = yc)))
    ⟨0, p + 14, _, rfl, by omega, hR1.symm, by simp, fun j => by rw [List.getD_eq_getElem?_getD, List.getElem?_replicate]; split <;> simp, hR5, hyc5, hyo, hr2, hr3, to5, by omega, by simp only [n_put, hn], by simp only [get_put, ↓reduceIte, Nat.reduceEqDiff, h0], by simp only [get_put, ↓reduceIte, Nat.reduceEqDiff], by simp only [get_put, ↓reduceIte, Nat.reduceEqDiff], by simp only [get_put, ↓reduceIte, Nat.reduceEqDiff], by simp only [get_put, ↓reduceIte, Nat.reduceEqDiff], by simp only [get_put, ↓reduceIte, Nat.reduceEqDiff], by simp only [get_put, ↓reduceIte, Nat.reduceEqDiff], by simp only [get_put, ↓reduceIte, Nat.reduceEqDiff], by simp only [get_put, ↓reduceIte]; rfl⟩ ?_ ?_
  · clear hn h0 f hR5 hyc5 hyo hr2 hr3 to5 hk1 qk
    rintro Q hQ z f t ⟨i, q, oL, rfl, hi, hown, hoL, ho7, hR, hyc, hyo, hr2, hr3, hto, hnt, hn, h0, h2, h3, h5, h6, h9, h33, h34, h35⟩
    have hbt : base ≤ t.next := by omega
    by_cases hin : i < k
    rotate_left
    · obtain rfl : i = k := by omega
      have d1 : ¬ ((i : Nat) : Int) < ((i : Nat) : Int) := by omega
      rw [List.drop_of_length_le (by rw [List.length_take]; omega), ownX] at hown
      simp (config := { maxSteps := 1000000, implicitDefEqProofs := false }) (disch := omega) only [allW, Nat.reduceLT, ↓reduceIte, hn, h34, h35, eq_false d1]
      exact hQ _ _ _ ⟨by simp only [n_put, hn], by simp only [get_put, ↓reduceIte, Nat.reduceEqDiff, h2], by simp only [get_put, ↓reduceIte, Nat.reduceEqDiff, h3], hr2, hr3, hto, .inr ⟨rfl, q, oL, hown.symm, hoL, ho7, hR, hyc, hnt, by simp only [get_put, ↓reduceIte, Nat.reduceEqDiff, h0], by simp only [get_put, ↓reduceIte, Nat.reduceEqDiff, h5], by simp only [get_put, ↓reduceIte, Nat.reduceEqDiff, h6], by simp only [get_put, ↓reduceIte, Nat.reduceEqDiff, h9]⟩⟩
    have d1 : ((i : Nat) : Int) < ((k : Nat) : Int) := by omega
    have htk : (order.take k).drop i = order.getD i 0 :: (order.take k).drop (i + 1) := by
      rw [List.drop_eq_getElem_cons (by rw [List.length_take]; omega)]
      congr 1
      rw [List.getElem_take, List.getD_eq_getElem?_getD, List.getElem?_eq_getElem (by omega)]; rfl
    rw [htk, ownX] at hown
    have hol18 : order.getD i 0 < 19 := by
      have key : ∀ i, i < 19 → order.getD i 0 < 19 := by decide
      exact key i (by omega)
    have hcut := cutK t hyo
    have hi1 := hcut.indexAddr (P := Try.prog) (k := .i64) (x := (i : Int)) uIntsF szInt (by omega) (by omega)
    rw [Int.toNat_natCast] at hi1
    have k1 := hcut.load1 (P := Try.prog) agInt hin
    have ekt : (order.take k).getD i 0 = order.getD i 0 := by rw [List.getD_eq_getElem?_getD, List.getElem?_take_of_lt hin, List.getD_eq_getElem?_getD]
    rw [natsV_getD (by rw [List.length_take]; omega), ekt] at k1
    have r0 := hR.t.load (P := Try.prog) agBitsQ (off := 0) (c := 4) rfl (by simp)
    simp (config := { maxSteps := 1000000, implicitDefEqProofs := false }) (disch := omega) only [allW, allR, evalAll, Nat.reduceLT, Nat.reduceEqDiff, ↓reduceIte, hn, h0, h9, h33, h34, h35, eq_true d1, hi1, k1, rfld0, r0]
    refine (number_any hL base t jx ic D q 3 hR.bit hbt (by omega) hlen).mono ?_
    intro v t2 hN
    have hfin : ∀ (k' : BTo jx ic t t2), Own t2 1 yc 19 (natsV oL) ∧ Own t2 1 yo 19 (natsV order) ∧ Thing t2 j2 (codeV [] (.slice none 0 0)) ∧ Thing t2 j3 (codeV [] (.slice none 0 0)) := fun k' => ⟨hO hyc hycF k', hO hyo (fun i hi => by have := hyo3 i hi; omega) k', hT hr2 hj2s k', hT hr3 hj3s k'⟩
    have hj2c : idOf yc ≠ some j2 := fun e => by have := hyc3 _ e; omega
    have hj3c : idOf yc ≠ some j3 := fun e => by have := hyc3 _ e; omega
    by_cases c1 : q + 3 ≤ 8 * D.length
    rotate_left
    · rw [takeE_no c1] at hN hown
      obtain ⟨-, rfl, to2⟩ := hN
      obtain ⟨hyc2, hyo2, hr22, hr32⟩ := hfin to2
      have hi2 := hyc2.sees.indexAddr (P := Try.prog) (k := .i64) (x := ((order.getD i 0 : Nat) : Int)) uIntsF szInt (by omega) (by omega)
      rw [Int.toNat_natCast] at hi2
      simp (config := { maxSteps := 1000000, implicitDefEqProofs := false }) (disch := omega) only [allW, Nat.reduceLT, Nat.reduceEqDiff, ↓reduceIte, hn, ext20, ext21, hi2]
      refine wstep_storeElem szInt hyc2 hol18 rfl ?_
      intro t3 hyc3' hto3
      have toT := (hto.trans to2).turned hto3 hycF
      have hr23 := hr22.turns hto3 hj2c
      have hr33 := hr32.turns hto3 hj3c
      simp (config := { maxSteps := 1000000, implicitDefEqProofs := false }) (disch := omega) only [allW, allR, partsA, Nat.reduceLT, Nat.reduceEqDiff, ↓reduceIte, hn, h2, eq_false (show ¬ (2 : Int) = 0 by decide), bCode0]
      refine wstep_storeAll szCode (by decide) hr23 (codeV_length _ _) rfl (codeV_length _ _) (codeV_ok _ rfl) ?_
      intro u1 hu1 nu1 eu1
      have hv1 : Thing u1 j3 (codeV [] (.slice none 0 0)) := hr33.ofPut nu1 eu1 (by omega)
      simp (config := { maxSteps := 1000000, implicitDefEqProofs := false }) (disch := omega) only [allW, Nat.reduceLT, Nat.reduceEqDiff, ↓reduceIte, hn, h3]
      refine wstep_storeAll szCode (by decide) hv1 (codeV_length _ _) rfl (codeV_length _ _) (codeV_ok _ rfl) ?_
      intro u2 hu2 nu2 eu2
      have hu1' : Thing u1 j2 (codeV [] (.slice none 0 0)) := hu1
      simp (config := { maxSteps := 1000000, implicitDefEqProofs := false }) (disch := omega) only [allW, Nat.reduceLT, ↓reduceIte, hn]
      exact hQ _ _ _ ⟨by simp only [n_put, hn], by simp only [get_put, ↓reduceIte, Nat.reduceEqDiff, h2], by simp only [get_put, ↓reduceIte, Nat.reduceEqDiff, h3], hu1'.ofPut nu2 eu2 (by omega), hu2, BTo.late (BTo.late toT hj2s nu1 eu1) hj3s nu2 eu2, .inl ⟨rfl, 2, hown.symm, by decide, by simp only [get_put, ↓reduceIte]; rfl⟩⟩
    rw [takeE_ok c1] at hN hown
    obtain ⟨rfl, hB2, to2⟩ := hN
    obtain ⟨hyc2, hyo2, hr22, hr32⟩ := hfin to2
    have hR2 := hR.bits hB2 to2
    have hi2 := hyc2.sees.indexAddr (P := Try.prog) (k := .i64) (x := ((order.getD i 0 : Nat) : Int)) uIntsF szInt (by omega) (by omega)
    rw [Int.toNat_natCast] at hi2
    have hv7 := bitsN_lt D q 3
    simp (config := { maxSteps := 1000000, implicitDefEqProofs := false }) (disch := omega) only [allW, Nat.reduceLT, Nat.reduceEqDiff, ↓reduceIte, hn, ext20, ext21, hi2]
    refine wstep_storeElem szInt hyc2 hol18 rfl ?_
    intro t3 hyc3' hto3
    rw [natsV_set] at hyc3'
    have toT := (hto.trans to2).turned hto3 hycF
    simp (config := { maxSteps := 1000000, implicitDefEqProofs := false }) (disch := omega) only [allW, allR, Nat.reduceLT, Nat.reduceEqDiff, ↓reduceIte, hn, h35, wrapI]
    have n23 := to2.next
    have n33 := hto3.next
    exact wround_next (k - (i + 1)) (by omega) ⟨i + 1, q + 3, oL.set (order.getD i 0) (bitsN D q 3), rfl, by omega, hown, by simpa using hoL, fun j => by
      rw [List.getD_eq_getElem?_getD, List.getElem?_set]
      split
      · split
        · show bitsN D q 3 ≤ 7; omega
        · exact Nat.zero_le _
      · rw [← List.getD_eq_getElem?_getD]; exact ho7 j, hRl hR2 n33 (fun i hi => hto3.get i (by omega) (fun e => by have := hyc3 i e; omega)), hyc3', hyo2.turns hto3 hdis, hr22.turns hto3 hj2c, hr32.turns hto3 hj3c, toT, by omega, by simp only [n_put, hn], by simp only [get_put, ↓reduceIte, Nat.reduceEqDiff, h0], by simp only [get_put, ↓reduceIte, Nat.reduceEqDiff, h2], by simp only [get_put, ↓reduceIte, Nat.reduceEqDiff, h3], by simp only [get_put, ↓reduceIte, Nat.reduceEqDiff, h5], by simp only [get_put, ↓reduceIte, Nat.reduceEqDiff, h6], by simp only [get_put, ↓reduceIte, Nat.reduceEqDiff, h9], by simp only [get_put, ↓reduceIte, Nat.reduceEqDiff, h33], by simp only [get_put, ↓reduceIte, Nat.reduceEqDiff, h34], by simp only [get_put, ↓reduceIte]; rfl⟩
  clear hn h0 f hR5 hyc5 hyo hr2 hr3 to5 hk1 qk
  rintro z f t ⟨hn, h2, h3, hr2, hr3, hto, (⟨rfl, e, hRe, he, h4⟩ | ⟨rfl, q, oL, hRq, hoL, ho7, hR, hyc, hnt, h0, h5, h6, h9⟩)⟩
  · have la := hr2.loadAll (P := Try.prog) agCode (by rw [codeV_length]; exact szCode) (c := 18) (by rw [codeV_length])
    have lb := hr3.loadAll (P := Try.prog) agCode (by rw [codeV_length]; exact szCode) (c := 18) (by rw [codeV_length])
    simp (config := { maxSteps := 1000000, implicitDefEqProofs := false }) (disch := omega) only [allW, wfn_ret, oneOf, Nat.reduceLT, ↓reduceIte, hn, h2, h3, h4, resultsA_cell, la, lb, Try.results56]
    rw [hRe]
    exact ⟨he, rfl, hto⟩
  rw [hRq]
  dsimp only
  have hlo : Le15 oL := fun j => Nat.le_trans (ho7 j) (by omega)
  simp (config := { maxSteps := 1000000, implicitDefEqProofs := false }) (disch := omega) only [allW, allR, evalAll, Nat.reduceLT, ↓reduceIte, hn, h9]
  refine (made_any hL t yc oL (by rw [hoL]; exact hyc.sees) (by omega) hlo).mono ?_
  rintro _ t1 ⟨sc, rfl, hsc, hscF, k1⟩
  have n1 := k1.next
  have hR1' : Rs base t1 jr jx ic D q P M o := hRl hR n1 (fun i hi => k1.get i (by omega))
  have kt1 : BTo jx ic t t1 := BTo.kept (BTo.refl jx ic t) k1
  have hr2 := hT hr2 hj2s kt1
  have hr3 := hT hr3 hj3s kt1
  have to1 := hto.trans kt1
  simp (config := { maxSteps := 1000000, implicitDefEqProofs := false }) (disch := omega) only [allW, Nat.reduceLT, Nat.reduceEqDiff, ↓reduceIte, hn, ext20, ext21, zCode, pCode]
  refine wstep_newPtr ?_
  intro t2 hc2 hst2 hnx2
  obtain ⟨jc, hjc⟩ : ∃ j, j = t1.next := ⟨_, rfl⟩
  rw [← hjc] at hc2
  simp (config := { maxSteps := 1000000, implicitDefEqProofs := false }) (disch := omega) only [allW, Nat.reduceLT, Nat.reduceEqDiff, Nat.reduceAdd, ↓reduceIte, hn, ← hjc, codeV_length]
  refine wstep_storeAll szCode (by decide) hc2 (codeV_length _ _) rfl (codeV_length _ _) (codeV_ok _ hsc.sees.okCell) ?_
  intro t3 hc3 hn3 hs3
  have hc3 : Thing t3 jc (codeV oL sc) := hc3
  have hR3 : Rs base t3 jr jx ic D q P M o := hRl hR1' (by omega) (fun i hi => by rw [hs3 i (by omega), hst2.get i (by omega)])
  have hr2 := (hr2.keeps hst2).ofPut hn3 hs3 (by have := hr2.lt; omega)
  have hr3 := (hr3.keeps hst2).ofPut hn3 hs3 (by have := hr3.lt; omega)
  have hsc3 := (hsc.keeps hst2).ofPut hn3 hs3 (fun e => by have := hsc.idlt _ e; omega)
  have to3 := BTo.late (to1.kept hst2) (j := jc) (by omega) hn3 hs3
  have n3' : t3.next = t1.next + 1 := by omega
  by_cases cm : mayC oL
  rotate_left
  · rw [if_neg cm]
    simp (config := { maxSteps := 1000000, implicitDefEqProofs := false }) (disch := omega) only [allW, partsA, Nat.reduceLT, Nat.reduceEqDiff, ↓reduceIte, hn, h2, eq_false cm, bCode0]
    refine wstep_storeAll szCode (by decide) (hr2) (codeV_length _ _) rfl (codeV_length _ _) (codeV_ok _ rfl) ?_
    intro u1 hu1 nu1 eu1
    have hv1 : Thing u1 j3 (codeV [] (.slice none 0 0)) := Thing.ofPut (hr3) nu1 eu1 (by omega)
    simp (config := { maxSteps := 1000000, implicitDefEqProofs := false }) (disch := omega) only [allW, Nat.reduceLT, Nat.reduceEqDiff, ↓reduceIte, hn, h3]
    refine wstep_storeAll szCode (by decide) hv1 (codeV_length _ _) rfl (codeV_length _ _) (codeV_ok _ rfl) ?_
    intro u2 hu2 nu2 eu2
    have hu1' : Thing u1 j2 (codeV [] (.slice none 0 0)) := hu1
    have hw1 := hu1'.ofPut nu2 eu2 (by omega)
    have la := hw1.loadAll (P := Try.prog) agCode (by rw [codeV_length]; exact szCode) (c := 18) (by rw [codeV_length])
    have hu2' : Thing u2 j3 (codeV [] (.slice none 0 0)) := hu2
    have lb := hu2'.loadAll (P := Try.prog) agCode (by rw [codeV_length]; exact szCode) (c := 18) (by rw [codeV_length])
    have toU := BTo.late (BTo.late (to3) hj2s nu1 eu1) hj3s nu2 eu2
    simp (config := { maxSteps := 1000000, implicitDefEqProofs := false }) (disch := omega) only [allW, wfn_ret, oneOf, Nat.reduceLT, Nat.reduceEqDiff, ↓reduceIte, hn, h2, h3, resultsA_cell, la, lb, Try.results56]
    exact ⟨by decide, rfl, toU⟩
  rw [if_pos cm]
  have lall := hc3.loadAll (P := Try.prog) agCode (by rw [codeV_length]; exact szCode) (c := 18) (by rw [codeV_length])
  have eM : ((n : Nat) : Int) + ((d : Nat) : Int) = ((n + d : Nat) : Int) := by omega
  simp (config := { maxSteps := 1000000, implicitDefEqProofs := false }) (disch := omega) only [allW, allR, evalAll, Nat.reduceLT, Nat.reduceEqDiff, ↓reduceIte, hn, h0, h5, h6, eq_true cm, lall, wrapI, eM]
  have hcod : CodP jr jx ic o t3 (.agg (codeV oL sc).toArray) oL := ⟨sc, rfl, ⟨hsc3.sees, fun i hi => ⟨hsc3.idlt i hi, by have := hscF i hi; omega, by have := hscF i hi; omega⟩⟩, fun i hi => ⟨by have := hscF i hi; omega, fun e => by have := hol i e; have := hscF i hi; omega⟩⟩
  refine (lengthsP_any hL base t3 jr jx ic D P q M o hR3 (by omega) hlen _ oL hcod hoL (n + d) N (by omega) hN).mono ?_
  intro v t4 hLn
  cases hlx : lensX D oL (n + d) N q [] with
  | error e =>
    rw [hlx] at hLn
    obtain ⟨he, ⟨w, rfl⟩, to4⟩ := hLn
    have c0 : ¬ (e : Int) = 0 := by omega
    simp (config := { maxSteps := 1000000, implicitDefEqProofs := false }) (disch := omega) only [allW, allR, partsA, Nat.reduceLT, Nat.reduceEqDiff, ↓reduceIte, hn, h2, ext20, ext21, eq_false c0, bCode0]
    refine wstep_storeAll szCode (by decide) (hT hr2 hj2s to4) (codeV_length _ _) rfl (codeV_length _ _) (codeV_ok _ rfl) ?_
    intro u1 hu1 nu1 eu1
    have hv1 : Thing u1 j3 (codeV [] (.slice none 0 0)) := Thing.ofPut (hT hr3 hj3s to4) nu1 eu1 (by omega)
    simp (config := { maxSteps := 1000000, implicitDefEqProofs := false }) (disch := omega) only [allW, Nat.reduceLT, Nat.reduceEqDiff, ↓reduceIte, hn, h3]
    refine wstep_storeAll szCode (by decide) hv1 (codeV_length _ _) rfl (codeV_length _ _) (codeV_ok _ rfl) ?_
    intro u2 hu2 nu2 eu2
    have hu1' : Thing u1 j2 (codeV [] (.slice none 0 0)) := hu1
    have hw1 := hu1'.ofPut nu2 eu2 (by omega)
    have la := hw1.loadAll (P := Try.prog) agCode (by rw [codeV_length]; exact szCode) (c := 18) (by rw [codeV_length])
    have hu2' : Thing u2 j3 (codeV [] (.slice none 0 0)) := hu2
    have lb := hu2'.loadAll (P := Try.prog) agCode (by rw [codeV_length]; exact szCode) (c := 18) (by rw [codeV_length])
    have toU := BTo.late (BTo.late (to3.trans to4) hj2s nu1 eu1) hj3s nu2 eu2
    simp (config := { maxSteps := 1000000, implicitDefEqProofs := false }) (disch := omega) only [allW, wfn_ret, oneOf, Nat.reduceLT, Nat.reduceEqDiff, ↓reduceIte, hn, h2, h3, resultsA_cell, la, lb, Try.results56]
    exact ⟨he, rfl, toU⟩
  | ok lq =>
  obtain ⟨l, q'⟩ := lq
  rw [hlx] at hLn
  obtain ⟨yl, rfl, hyl, hylF, hR4, to4, hl15, hlm⟩ := hLn
  dsimp only
  have hr2 := hT hr2 hj2s to4
  have hr3 := hT hr3 hj3s to4
  have n4' : t3.next ≤ t4.next := to4.next
  have to4 := to3.trans to4
  have hyl4 : ∀ i, idOf yl = some i → t3.next ≤ i := hylF
  have hj2l4 : j2 < t3.next := by omega
  have hj3l4 : j3 < t3.next := by omega
  have ids : ∀ lo hi i, idOf (cutS 1 yl lo hi) = some i → idOf yl = some i := fun lo hi i h => idOf_cutS h
  have q1 := hyl.sees.sliceHigh (P := Try.prog) (k := .i64) (y := ((n : Nat) : Int)) uIntsF szInt (by omega) (by omega)
  rw [Int.toNat_natCast] at q1
  have la : (l.take n).length = n := by rw [List.length_take]; omega
  have lb : (l.drop n).length = l.length - n := by rw [List.length_drop]
  have cutA : ∀ t, Own t 1 yl l.length (natsV l) → Sees t 1 (cutS 1 yl 0 n) (l.take n).length (natsV (l.take n)) := fun t h => by
    have := h.sees.cut (lo := 0) (hi := n) (by omega) (by omega)
    rw [Nat.mul_one, Nat.mul_one, natsV_drop, natsV_take, List.drop_zero, Nat.sub_zero] at this
    rw [la]; exact this
  have cutB : ∀ t, Own t 1 yl l.length (natsV l) → Sees t 1 (cutS 1 yl n l.length) (l.drop n).length (natsV (l.drop n)) := fun t h => by
    have := h.sees.cut (lo := n) (hi := l.length) (by omega) (Nat.le_refl _)
    rw [Nat.mul_one, Nat.mul_one, natsV_drop, natsV_take, List.take_of_length_le (by rw [List.length_drop]; omega)] at this
    rw [lb]; exact this
  simp (config := { maxSteps := 1000000, implicitDefEqProofs := false }) (disch := omega) only [allW, allR, evalAll, optA, Nat.reduceLT, Nat.reduceEqDiff, ↓reduceIte, hn, h5, ext20, ext21, q1]
  refine (made_any hL t4 _ (l.take n) (cutA t4 hyl) (by omega) (le15_take hl15 _)).mono ?_
  rintro _ t5 ⟨sa, rfl, hsa, hsaF, k5⟩
  have n5' := k5.next
  have hyl5 := hyl.keeps k5
  have kt5 : BTo jx ic t4 t5 := BTo.kept (BTo.refl jx ic t4) k5
  have hr2 := hT hr2 hj2s kt5
  have hr3 := hT hr3 hj3s kt5
  have to5 := to4.trans kt5
  have hR5 : Rs base t5 jr jx ic D q' P M o := hRl hR4 n5' (fun i hi => k5.get i (by omega))
  simp (config := { maxSteps := 1000000, implicitDefEqProofs := false }) (disch := omega) only [allW, Nat.reduceLT, Nat.reduceEqDiff, ↓reduceIte, hn, ext20, ext21, zCode, pCode]
  refine wstep_newPtr ?_
  intro t6 hc6 hst6 hnx6
  obtain ⟨ja, hja⟩ : ∃ j, j = t5.next := ⟨_, rfl⟩
  rw [← hja] at hc6
  simp (config := { maxSteps := 1000000, implicitDefEqProofs := false }) (disch := omega) only [allW, Nat.reduceLT, Nat.reduceEqDiff, Nat.reduceAdd, ↓reduceIte, hn, ← hja, codeV_length]
  refine wstep_storeAll szCode (by decide) hc6 (codeV_length _ _) rfl (codeV_length _ _) (codeV_ok _ hsa.sees.okCell) ?_
  intro t7 hc7 hn7 hs7
  have hc7 : Thing t7 ja (codeV (l.take n) sa) := hc7
  have hR7 : Rs base t7 jr jx ic D q' P M o := hRl hR5 (by omega) (fun i hi => by rw [hs7 i (by omega), hst6.get i (by omega)])
  have hr2 := (hr2.keeps hst6).ofPut hn7 hs7 (by omega)
  have hr3 := (hr3.keeps hst6).ofPut hn7 hs7 (by omega)
  have hsa7 := (hsa.keeps hst6).ofPut hn7 hs7 (fun e => by have := hsa.idlt _ e; omega)
  have hyl7 := (hyl5.keeps hst6).ofPut hn7 hs7 (fun e => by have := hyl5.idlt _ e; omega)
  have to7 := BTo.late (to5.kept hst6) (j := ja) (by omega) hn7 hs7
  have q2 := hyl7.sees.sliceLow (P := Try.prog) (k := .i64) (x := ((n : Nat) : Int)) uIntsF szInt (by omega) (by omega)
  rw [Int.toNat_natCast] at q2
  simp (config := { maxSteps := 1000000, implicitDefEqProofs := false }) (disch := omega) only [allW, allR, evalAll, optA, Nat.reduceLT, Nat.reduceEqDiff, ↓reduceIte, hn, h5, q2]
  refine (made_any hL t7 _ (l.drop n) (cutB t7 hyl7) (by omega) (le15_drop hl15 _)).mono ?_
  rintro _ t8 ⟨sb, rfl, hsb, hsbF, k8⟩
  have n8' := k8.next
  have hyl8 := hyl7.keeps k8
  have hsa8 := hsa7.keeps k8
  have hc8 := hc7.keeps k8
  have kt8 : BTo jx ic t7 t8 := BTo.kept (BTo.refl jx ic t7) k8
  have hr2 := hT hr2 hj2s kt8
  have hr3 := hT hr3 hj3s kt8
  have to8 := to7.trans kt8
  have hR8 : Rs base t8 jr jx ic D q' P M o := hRl hR7 n8' (fun i hi => k8.get i (by omega))
  simp (config := { maxSteps := 1000000, implicitDefEqProofs := false }) (disch := omega) only [allW, Nat.reduceLT, Nat.reduceEqDiff, ↓reduceIte, hn, ext20, ext21, zCode, pCode]
  refine wstep_newPtr ?_
  intro t9 hd9 hst9 hnx9
  obtain ⟨jb, hjb⟩ : ∃ j, j = t8.next := ⟨_, rfl⟩
  rw [← hjb] at hd9
  simp (config := { maxSteps := 1000000, implicitDefEqProofs := false }) (disch := omega) only [allW, Nat.reduceLT, Nat.reduceEqDiff, Nat.reduceAdd, ↓reduceIte, hn, ← hjb, codeV_length]
  refine wstep_storeAll szCode (by decide) hd9 (codeV_length _ _) rfl (codeV_length _ _) (codeV_ok _ hsb.sees.okCell) ?_
  intro t10 hd10 hn10 hs10
  have hd10 : Thing t10 jb (codeV (l.drop n) sb) := hd10
  have hR10 : Rs base t10 jr jx ic D q' P M o := hRl hR8 (by omega) (fun i hi => by rw [hs10 i (by omega), hst9.get i (by omega)])
  have hr2 := (hr2.keeps hst9).ofPut hn10 hs10 (by omega)
  have hr3 := (hr3.keeps hst9).ofPut hn10 hs10 (by omega)
  have hc10 := (hc8.keeps hst9).ofPut hn10 hs10 (by omega)
  have hsa10 := (hsa8.keeps hst9).ofPut hn10 hs10 (fun e => by have := hsa8.idlt _ e; omega)
  have hsb10 := (hsb.keeps hst9).ofPut hn10 hs10 (fun e => by have := hsb.idlt _ e; omega)
  have hyl10 := (hyl8.keeps hst9).ofPut hn10 hs10 (fun e => by have := hyl8.idlt _ e; omega)
  have to10 := BTo.late (to8.kept hst9) (j := jb) (by omega) hn10 hs10
  have h256 : 256 < l.length := by omega
  have ia := hyl10.sees.indexAddr (P := Try.prog) (k := .i64) (x := (256 : Int)) uIntsF szInt (by omega) (by omega)
  rw [show (256 : Int).toNat = 256 from rfl] at ia
  have ka := hyl10.sees.load1 (P := Try.prog) agInt h256
  rw [natsV_getD h256] at ka
  by_cases ca : mayC (l.take n)
  rotate_left
  · rw [if_neg (fun h => ca h.1)]
    simp (config := { maxSteps := 1000000, implicitDefEqProofs := false }) (disch := omega) only [allW, allR, partsA, Nat.reduceLT, Nat.reduceEqDiff, ↓reduceIte, undef, hn, h2, eq_false ca, bCode0]
    refine wstep_storeAll szCode (by decide) (hr2) (codeV_length _ _) rfl (codeV_length _ _) (codeV_ok _ rfl) ?_
    intro u1 hu1 nu1 eu1
    have hv1 : Thing u1 j3 (codeV [] (.slice none 0 0)) := Thing.ofPut (hr3) nu1 eu1 (by omega)
    simp (config := { maxSteps := 1000000, implicitDefEqProofs := false }) (disch := omega) only [allW, Nat.reduceLT, Nat.reduceEqDiff, ↓reduceIte, hn, h3]
    refine wstep_storeAll szCode (by decide) hv1 (codeV_length _ _) rfl (codeV_length _ _) (codeV_ok _ rfl) ?_
    intro u2 hu2 nu2 eu2
    have hu1' : Thing u1 j2 (codeV [] (.slice none 0 0)) := hu1
    have hw1 := hu1'.ofPut nu2 eu2 (by omega)
    have la := hw1.loadAll (P := Try.prog) agCode (by rw [codeV_length]; exact szCode) (c := 18) (by rw [codeV_length])
    have hu2' : Thing u2 j3 (codeV [] (.slice none 0 0)) := hu2
    have lb := hu2'.loadAll (P := Try.prog) agCode (by rw [codeV_length]; exact szCode) (c := 18) (by rw [codeV_length])
    have toU := BTo.late (BTo.late (to10) hj2s nu1 eu1) hj3s nu2 eu2
    simp (config := { maxSteps := 1000000, implicitDefEqProofs := false }) (disch := omega) only [allW, wfn_ret, oneOf, Nat.reduceLT, Nat.reduceEqDiff, ↓reduceIte, hn, h2, h3, resultsA_cell, la, lb, Try.results56]
    exact ⟨by decide, rfl, toU⟩
  by_cases cb : mayC (l.drop n)
  rotate_left
  · rw [if_neg (fun h => cb h.2.1)]
    simp (config := { maxSteps := 1000000, implicitDefEqProofs := false }) (disch := omega) only [allW, allR, partsA, Nat.reduceLT, Nat.reduceEqDiff, ↓reduceIte, undef, hn, h2, eq_true ca, eq_false cb, bCode0]
    refine wstep_storeAll szCode (by decide) (hr2) (codeV_length _ _) rfl (codeV_length _ _) (codeV_ok _ rfl) ?_
    intro u1 hu1 nu1 eu1
    have hv1 : Thing u1 j3 (codeV [] (.slice none 0 0)) := Thing.ofPut (hr3) nu1 eu1 (by omega)
    simp (config := { maxSteps := 1000000, implicitDefEqProofs := false }) (disch := omega) only [allW, Nat.reduceLT, Nat.reduceEqDiff, ↓reduceIte, hn, h3]
    refine wstep_storeAll szCode (by decide) hv1 (codeV_length _ _) rfl (codeV_length _ _) (codeV_ok _ rfl) ?_
    intro u2 hu2 nu2 eu2
    have hu1' : Thing u1 j2 (codeV [] (.slice none 0 0)) := hu1
    have hw1 := hu1'.ofPut nu2 eu2 (by omega)
    have la := hw1.loadAll (P := Try.prog) agCode (by rw [codeV_length]; exact szCode) (c := 18) (by rw [codeV_length])
    have hu2' : Thing u2 j3 (codeV [] (.slice none 0 0)) := hu2
    have lb := hu2'.loadAll (P := Try.prog) agCode (by rw [codeV_length]; exact szCode) (c := 18) (by rw [codeV_length])
    have toU := BTo.late (BTo.late (to10) hj2s nu1 eu1) hj3s nu2 eu2
    simp (config := { maxSteps := 1000000, implicitDefEqProofs := false }) (disch := omega) only [allW, wfn_ret, oneOf, Nat.reduceLT, Nat.reduceEqDiff, ↓reduceIte, hn, h2, h3, resultsA_cell, la, lb, Try.results56]
    exact ⟨by decide, rfl, toU⟩
  by_cases cz : l.getD 256 0 = 0
  · have d1 : ((l.getD 256 0 : Nat) : Int) = 0 := by omega
    rw [if_neg (fun h => h.2.2 cz)]
    simp (config := { maxSteps := 1000000, implicitDefEqProofs := false }) (disch := omega) only [allW, allR, partsA, Nat.reduceLT, Nat.reduceEqDiff, ↓reduceIte, undef, hn, h2, eq_true ca, eq_true cb, ia, ka, eq_true d1, bCode0]
    refine wstep_storeAll szCode (by decide) (hr2) (codeV_length _ _) rfl (codeV_length _ _) (codeV_ok _ rfl) ?_
    intro u1 hu1 nu1 eu1
    have hv1 : Thing u1 j3 (codeV [] (.slice none 0 0)) := Thing.ofPut (hr3) nu1 eu1 (by omega)
    simp (config := { maxSteps := 1000000, implicitDefEqProofs := false }) (disch := omega) only [allW, Nat.reduceLT, Nat.reduceEqDiff, ↓reduceIte, hn, h3]
    refine wstep_storeAll szCode (by decide) hv1 (codeV_length _ _) rfl (codeV_length _ _) (codeV_ok _ rfl) ?_
    intro u2 hu2 nu2 eu2
    have hu1' : Thing u1 j2 (codeV [] (.slice none 0 0)) := hu1
    have hw1 := hu1'.ofPut nu2 eu2 (by omega)
    have la := hw1.loadAll (P := Try.prog) agCode (by rw [codeV_length]; exact szCode) (c := 18) (by rw [codeV_length])
    have hu2' : Thing u2 j3 (codeV [] (.slice none 0 0)) := hu2
    have lb := hu2'.loadAll (P := Try.prog) agCode (by rw [codeV_length]; exact szCode) (c := 18) (by rw [codeV_length])
    have toU := BTo.late (BTo.late (to10) hj2s nu1 eu1) hj3s nu2 eu2
    simp (config := { maxSteps := 1000000, implicitDefEqProofs := false }) (disch := omega) only [allW, wfn_ret, oneOf, Nat.reduceLT, Nat.reduceEqDiff, ↓reduceIte, hn, h2, h3, resultsA_cell, la, lb, Try.results56]
    exact ⟨by decide, rfl, toU⟩
  have d1 : ¬ ((l.getD 256 0 : Nat) : Int) = 0 := by omega
  rw [if_pos ⟨ca, cb, cz⟩]
  simp (config := { maxSteps := 1000000, implicitDefEqProofs := false }) (disch := omega) only [allW, allR, Nat.reduceLT, Nat.reduceEqDiff, ↓reduceIte, undef, hn, eq_true ca, eq_true cb, ia, ka, eq_false d1]
  obtain ⟨A, hA⟩ : ∃ A : Nat → Bool, A = fun j => decide (j < t10.next ∧ j ≠ j2 ∧ j ≠ j3) := ⟨_, rfl⟩
  have hAl : ∀ j, A j = true → j < t10.next := by
    intro j h
    rw [hA] at h
    exact (of_decide_eq_true h).1
  have hA0 : A j2 = false := by rw [hA]; exact decide_eq_false (fun h => h.2.1 rfl)
  have hA1 : A j3 = false := by rw [hA]; exact decide_eq_false (fun h => h.2.2 rfl)
  have hsq := Stay.spare t10 0
  have hnq : (spare t10 0).next = t10.next + 0 := spare_next _ _
  have hjal := hc10.lt
  have hjbl := hd10.lt
  have l2 : ∀ k, LA.lowV A (some (.pointer (some ⟨ja, k, some 18⟩))) = true := fun k => LA.lowV_ptr (A := A) (i := ja) (by rw [hA]; exact decide_eq_true ⟨hjal, by omega, by omega⟩)
  have l4 : ∀ k, LA.lowV A (some (.pointer (some ⟨jb, k, some 18⟩))) = true := fun k => LA.lowV_ptr (A := A) (i := jb) (by rw [hA]; exact decide_eq_true ⟨hjbl, by omega, by omega⟩)
  have hcq := (hc10.keeps hsq).loadAll (P := Try.prog) agCode (by rw [codeV_length]; exact szCode) (c := 18) (by rw [codeV_length])
  have hdq := (hd10.keeps hsq).loadAll (P := Try.prog) agCode (by rw [codeV_length]; exact szCode) (c := 18) (by rw [codeV_length])
  refine LB.Drawn.looseK A hAl 2 0 (by kernel_rfl) (by kernel_rfl) ?_
  simp (config := { maxSteps := 1000000, implicitDefEqProofs := false }) (disch := omega) only [allW, allL, allB, Nat.reduceLT, Nat.reduceEqDiff, ↓reduceIte, hn, h2, hcq, hdq, l2, l4, valEq_code _ hsa10.sees, valEq_code _ hsb10.sees]
  refine LB.sstep_storeAll szCode (by decide) (hr2.keeps hsq) (codeV_length _ _) rfl (codeV_length _ _) (codeV_ok _ hsa.sees.okCell) (fun _ => hA0) ?_
  intro u1 hu1 nu1 eu1
  have hdq1 := ((hd10.keeps hsq).ofPut nu1 eu1 (by omega)).loadAll (P := Try.prog) agCode (by rw [codeV_length]; exact szCode) (c := 18) (by rw [codeV_length])
  try simp (config := { maxSteps := 1000000, implicitDefEqProofs := false }) (disch := omega) only [allW, allB, Nat.add_one_sub_one, Nat.reduceLT, Nat.reduceEqDiff, ↓reduceIte, hn, h3]
  refine LB.sstep_storeAll szCode (by decide) ((hr3.keeps hsq).ofPut nu1 eu1 (by omega)) (codeV_length _ _) rfl (codeV_length _ _) (codeV_ok _ hsb.sees.okCell) (fun _ => hA1) ?_
  intro u2 hu2 nu2 eu2
  have hu12 : Thing u2 j2 (codeV (l.take n) sa) := hu1.ofPut nu2 eu2 (by omega)
  have hu22 : Thing u2 j3 (codeV (l.drop n) sb) := hu2
  have lca := hu12.loadAll (P := Try.prog) agCode (by rw [codeV_length]; exact szCode) (c := 18) (by rw [codeV_length])
  have lcb := hu22.loadAll (P := Try.prog) agCode (by rw [codeV_length]; exact szCode) (c := 18) (by rw [codeV_length])
  simp (config := { maxSteps := 1000000, implicitDefEqProofs := false }) (disch := omega) only [allW, allL, allB, Nat.sub_self, oneOf, Nat.reduceLT, Nat.reduceEqDiff, ↓reduceIte, allW, wfn_ret, oneOf, Nat.reduceLT, Nat.reduceEqDiff, ↓reduceIte, hn, h2, h3, resultsA_cell, lca, lcb, Try.results56]
  have toU : BTo jx ic s u2 := BTo.late (BTo.late (to10.kept hsq) hj2s nu1 eu1) hj3s nu2 eu2
  have hRu : Rs base u2 jr jx ic D q' P M o := hRl hR10 (by omega) (fun i hi => by rw [eu2 i (by omega), eu1 i (by omega), hsq.get i (by omega)])
  have fin : ∀ (y : Value) (K : List Nat), Own t10 1 y (flatA K 15).length (natsV (flatA K 15)) → (∀ i, idOf y = some i → t3.next ≤ i) → Own u2 1 y (flatA K 15).length (natsV (flatA K 15)) := fun y K h1 h2 =>
    ((h1.keeps hsq).ofPut nu1 eu1 (fun e => by have := h2 _ e; omega)).ofPut nu2 eu2 (fun e => by have := h2 _ e; omega)
  exact ⟨sa, sb, rfl, hRu, toU, fin sa _ hsa10 (fun i hi => by have := hsaF i hi; omega), fin sb _ hsb10 (fun i hi => by have := hsbF i hi; omega), fun i hi => by have := hsaF i hi; omega, fun i hi => by have := hsbF i hi; omega, by omega, by omega⟩
end Go.Proofs.Ytnclklboogdoiaa
set_option linter.unusedSimpArgs false
set_option linter.unusedVariables false
set_option maxRecDepth 100000
namespace Go.Proofs.Ytnclklboogdoiaa
open Go.Cl Go.Cl.Rw Go.Cl.Sto Go.Cl.Fx Go.Cl.Nf Go.Cl.Bt
theorem OutP.from {base jr jx ic : Nat} {D : List UInt8} {M : Int} {o : Value} {s t t' : ASt} {v : Value} {B : Except Nat (Nat × List UInt8)} (h : OutP base jr jx ic D M o t v t' B) (k : RTo jr jx ic o s o t) (hs : Stay base s t) : OutP base jr jx ic D M o s v t' B := by
  cases B with
  | error e => exact ⟨h.1, h.2.1, hs.trans h.2.2⟩
  | ok y =>
    obtain ⟨h1, o', h2, h3⟩ := h
    exact ⟨h1, o', h2, k.trans h3⟩
def BlkP (base jr jx ic : Nat) (D : List UInt8) (M : Int) (o : Value) (s : ASt) (v : Value) (s' : ASt) : Except Nat (Nat × Nat × List UInt8) → Prop
  | .ok (last, q, P') => v = .tuple #[.bool (decide (((last : Nat) : Int) = 1)), .int .i64 0] ∧ ∃ o', Rs base s' jr jx ic D q P' M o' ∧ RTo jr jx ic o s o' s'
  | .error e => 0 < e ∧ (∃ b, v = .tuple #[.bool b, .int .i64 (e : Nat)]) ∧ Stay base s s'
set_option maxHeartbeats 16000000 in
theorem blockP_any {lib : Prims} (hL : NoL lib) (base : Nat) (s : ASt) (jr jx ic : Nat) (D P : List UInt8) (p m N : Nat) (M : Int) (hM : m = M.toNat) (o : Value) (h : Rs base s jr jx ic D p P M o) (hb : base ≤ s.next) (hlen : D.length ≤ 1000000) (hPm : P.length ≤ m) (hm : m ≤ 100000000) (hN : 8 * D.length + 1 < N) :
    Runs Try.prog lib 31 [rptr jr] s fun v s' => BlkP base jr jx ic D M o s v s' (blockX N D m p P) := by
  have hlt := h.bit.lt
  have hjrl := h.t.lt
  have hol : ∀ i, idOf o = some i → i < s.next := fun i hi => h.own.idlt i hi
  have stayAll : ∀ o' t, RTo jr jx ic o s o' t → Stay base s t := fun o' t k => k.stay h.lr hlt.2.2.1 hlt.2.2.2.1 h.fresh hb
  refine Runs.enter 65 Try.func31 rfl (hL _ rfl) rfl rfl ?_
  intro f hn hf
  have h0 : f.get 0 = rptr jr := hf 0
  clear hf
  have r0 := h.t.load (P := Try.prog) agBitsQ (off := 0) (c := 4) rfl (by simp)
  have ne2 : ¬ (2 : Int) = 0 := by decide
  rw [blk_eq]
  simp (config := { maxSteps := 1000000, implicitDefEqProofs := false }) (disch := omega) only [allW, allR, evalAll, Nat.reduceLT, Nat.reduceEqDiff, ↓reduceIte, hn, h0, rfld0, r0]
  refine (number_any hL base s jx ic D p 1 h.bit hb (by omega) hlen).mono ?_
  intro v s1 hN1
  by_cases c1 : p + 1 ≤ 8 * D.length
  rotate_left
  · rw [takeE_no c1] at hN1
    rw [takeS_no c1, takeS_err, bindX_err]
    obtain ⟨-, rfl, hto⟩ := hN1
    simp (config := { maxSteps := 1000000, implicitDefEqProofs := false }) (disch := omega) only [allW, allR, wfn_ret, oneOf, Nat.reduceLT, Nat.reduceEqDiff, ↓reduceIte, hn, ext20, ext21, eq_false ne2, Try.results31]
    exact ⟨by decide, ⟨_, rfl⟩, stayAll _ _ (btoR hto)⟩
  rw [takeE_ok c1] at hN1
  rw [takeS_ok c1, takeV_ok c1]
  obtain ⟨rfl, hB1, to1⟩ := hN1
  have hR1 := h.bits hB1 to1
  have hb1 : base ≤ s1.next := by have := to1.next; omega
  have r0 := hR1.t.load (P := Try.prog) agBitsQ (off := 0) (c := 4) rfl (by simp)
  generalize bitsN D p 1 = last
  simp (config := { maxSteps := 1000000, implicitDefEqProofs := false }) (disch := omega) only [allW, allR, evalAll, Nat.reduceLT, Nat.reduceEqDiff, ↓reduceIte, hn, h0, ext20, ext21, rfld0, r0]
  refine (number_any hL base s1 jx ic D (p + 1) 2 hB1 hb1 (by omega) hlen).mono ?_
  intro v s2 hN2
  by_cases c2 : p + 1 + 2 ≤ 8 * D.length
  rotate_left
  · rw [takeE_no c2] at hN2
    rw [takeS_no c2, bindX_err]
    obtain ⟨-, rfl, hto⟩ := hN2
    simp (config := { maxSteps := 1000000, implicitDefEqProofs := false }) (disch := omega) only [allW, allR, wfn_ret, oneOf, Nat.reduceLT, Nat.reduceEqDiff, ↓reduceIte, hn, ext20, ext21, eq_false ne2, Try.results31]
    exact ⟨by decide, ⟨_, rfl⟩, stayAll _ _ (btoR (to1.trans hto))⟩
  rw [takeE_ok c2] at hN2
  rw [takeS_ok c2, takeV_ok c2, bindX_ok]
  obtain ⟨rfl, hB2, to2⟩ := hN2
  have to2 := to1.trans to2
  have hR2 := h.bits hB2 to2
  have hb2 : base ≤ s2.next := by have := to2.next; omega
  have k2 : RTo jr jx ic o s o s2 := btoR to2
  have st2 := stayAll _ _ k2
  have n2 := to2.next
  have hR2b : p + 1 + 2 ≤ 8 * D.length := hB2.le
  generalize bitsN D (p + 1) 2 = kind
  obtain ⟨B, hB⟩ : ∃ B, B = bodyX N D m kind (p + 1 + 2) P := ⟨_, rfl⟩
  rw [← hB]
  simp (config := { maxSteps := 1000000, implicitDefEqProofs := false }) (disch := omega) only [allW, allR, Nat.reduceLT, Nat.reduceEqDiff, ↓reduceIte, hn, ext20, ext21]
  refine wif_cutN (fun f' t' => f'.n = 65 ∧ f'.get 4 = .int .i64 (last : Nat) ∧ ∃ v, f'.get 5 = v ∧ OutP base jr jx ic D M o s v t' B) ?_ ?_
  rotate_left
  · clear hn h0 f
    rintro f t ⟨hn, h4, v, h5, hO⟩
    cases B with
    | error e =>
      obtain ⟨he, rfl, hst⟩ := hO
      simp (config := { maxSteps := 1000000, implicitDefEqProofs := false }) (disch := omega) only [allW, wfn_ret, oneOf, Nat.reduceLT, Nat.reduceEqDiff, ↓reduceIte, hn, h4, h5, Try.results31]
      rw [bindX_err]
      exact ⟨he, ⟨_, rfl⟩, hst⟩
    | ok y =>
      obtain ⟨q, P'⟩ := y
      obtain ⟨rfl, o', hR, hto⟩ := hO
      simp (config := { maxSteps := 1000000, implicitDefEqProofs := false }) (disch := omega) only [allW, wfn_ret, oneOf, Nat.reduceLT, Nat.reduceEqDiff, ↓reduceIte, hn, h4, h5, Try.results31]
      rw [bindX_ok]
      exact ⟨rfl, o', hR, hto⟩
  intro Q' hQ'
  by_cases ck0 : kind = 0
  · have d0 : ((kind : Nat) : Int) = 0 := by omega
    simp (config := { maxSteps := 1000000, implicitDefEqProofs := false }) (disch := omega) only [allW, allR, evalAll, Nat.reduceLT, Nat.reduceEqDiff, ↓reduceIte, hn, h0, eq_true d0]
    refine (storedP_any hL base s2 jr jx ic D P (p + 1 + 2) m M hM o hR2 hb2 hlen hPm hm).mono ?_
    intro v t hO
    simp (config := { maxSteps := 1000000, implicitDefEqProofs := false }) (disch := omega) only [allW, Nat.reduceLT, ↓reduceIte, hn]
    refine hQ' _ _ ⟨by simp only [n_put, hn], by simp only [get_put, ↓reduceIte, Nat.reduceEqDiff], v, by simp only [get_put, ↓reduceIte], ?_⟩
    rw [hB]
    unfold bodyX
    rw [if_pos ck0]
    exact hO.from k2 st2
  have d0 : ¬ ((kind : Nat) : Int) = 0 := by omega
  by_cases ck1 : kind = 1
  · have d1 : ((kind : Nat) : Int) = 1 := by omega
    simp (config := { maxSteps := 1000000, implicitDefEqProofs := false }) (disch := omega) only [allW, allR, evalAll, Nat.reduceLT, Nat.reduceEqDiff, ↓reduceIte, hn, eq_false d0, eq_true d1]
    refine (fixedP_any hL s2).mono ?_
    rintro _ t ⟨sa, sb, rfl, hsa, hsb, hsaF, hsbF, k3⟩
    have n3 := k3.next
    simp (config := { maxSteps := 1000000, implicitDefEqProofs := false }) (disch := omega) only [allW, Nat.reduceLT, Nat.reduceEqDiff, ↓reduceIte, hn, ext20, ext21, zCode, pCode]
    refine wstep_newPtr ?_
    intro t1 hc1 hst1 hnx1
    obtain ⟨ja, hja⟩ : ∃ j, j = t.next := ⟨_, rfl⟩
    rw [← hja] at hc1
    simp (config := { maxSteps := 1000000, implicitDefEqProofs := false }) (disch := omega) only [allW, Nat.reduceLT, Nat.reduceAdd, ↓reduceIte, hn, ← hja, codeV_length, zCode, pCode]
    refine wstep_newPtr ?_
    intro t2 hd2 hst2 hnx2
    obtain ⟨jb, hjb⟩ : ∃ j, j = t1.next := ⟨_, rfl⟩
    rw [← hjb] at hd2
    simp (config := { maxSteps := 1000000, implicitDefEqProofs := false }) (disch := omega) only [allW, Nat.reduceLT, Nat.reduceEqDiff, Nat.reduceAdd, ↓reduceIte, hn, ← hjb, codeV_length]
    refine wstep_storeAll szCode (by decide) (hc1.keeps hst2) (codeV_length _ _) rfl (codeV_length _ _) (codeV_ok _ hsa.sees.okCell) ?_
    intro t3 hc3 hn3 hs3
    have hc3 : Thing t3 ja (codeV fixedL sa) := hc3
    simp (config := { maxSteps := 1000000, implicitDefEqProofs := false }) (disch := omega) only [allW, Nat.reduceLT, Nat.reduceEqDiff, ↓reduceIte, hn]
    refine wstep_storeAll szCode (by decide) (hd2.ofPut hn3 hs3 (by omega)) (codeV_length _ _) rfl (codeV_length _ _) (codeV_ok _ hsb.sees.okCell) ?_
    intro t4 hd4 hn4 hs4
    have hd4 : Thing t4 jb (codeV fixedD sb) := hd4
    have hc4 := hc3.ofPut hn4 hs4 (by omega)
    have lca := hc4.loadAll (P := Try.prog) agCode (by rw [codeV_length]; exact szCode) (c := 18) (by rw [codeV_length])
    have lcb := hd4.loadAll (P := Try.prog) agCode (by rw [codeV_length]; exact szCode) (c := 18) (by rw [codeV_length])
    have kk : Stay s2.next s2 t4 := (((k3.trans (hst1.weaken n3)).trans (hst2.weaken (by omega))).trans (Stay.ofPut hn3 hs3 (by omega))).trans (Stay.ofPut hn4 hs4 (by omega))
    have hR4 := hR2.keeps hb2 kk
    have k4 := k2.kept kk
    have fin : ∀ (y : Value) (K : List Nat), Own t 1 y (flatA K 15).length (natsV (flatA K 15)) → Fresh s2.next y → CodP jr jx ic o t4 (.agg (codeV K y).toArray) K := fun y K h1 h2 => by
      have h3 := (((h1.keeps hst1).keeps hst2).ofPut hn3 hs3 (fun e => by have := h1.idlt _ e; omega)).ofPut hn4 hs4 (fun e => by have := h1.idlt _ e; omega)
      exact ⟨y, rfl, ⟨h3.sees, fun i hi => ⟨h3.idlt i hi, by have := h2 i hi; omega, by have := h2 i hi; omega⟩⟩, fun i hi => ⟨by have := h2 i hi; omega, fun e => by have := hol i e; have := h2 i hi; omega⟩⟩
    simp (config := { maxSteps := 1000000, implicitDefEqProofs := false }) (disch := omega) only [allW, allR, evalAll, Nat.reduceLT, Nat.reduceEqDiff, ↓reduceIte, hn, h0, lca, lcb]
    refine (codedP_any hL base t4 jr jx ic D P (p + 1 + 2) m N M hM o hR4 (by have := kk.next; omega) hlen hPm hm (by omega) _ _ fixedL fixedD (fin sa _ hsa hsaF) (fin sb _ hsb hsbF) (by rw [show fixedL.length = 288 from fixL_length]; decide) (by decide)).mono ?_
    intro v t5 hO
    simp (config := { maxSteps := 1000000, implicitDefEqProofs := false }) (disch := omega) only [allW, Nat.reduceLT, ↓reduceIte, hn]
    refine hQ' _ _ ⟨by simp only [n_put, hn], by simp only [get_put, ↓reduceIte, Nat.reduceEqDiff], v, by simp only [get_put, ↓reduceIte], ?_⟩
    rw [hB]
    unfold bodyX
    rw [if_neg ck0, if_pos ck1]
    exact hO.from k4 (stayAll _ _ k4)
  have d1 : ¬ ((kind : Nat) : Int) = 1 := by omega
  by_cases ck2 : kind = 2
  rotate_left
  · have d2 : ¬ ((kind : Nat) : Int) = 2 := by omega
    simp (config := { maxSteps := 1000000, implicitDefEqProofs := false }) (disch := omega) only [allW, Nat.reduceLT, Nat.reduceEqDiff, ↓reduceIte, hn, eq_false d0, eq_false d1, eq_false d2]
    refine hQ' _ _ ⟨by simp only [n_put, hn], by simp only [get_put, ↓reduceIte, Nat.reduceEqDiff], _, by simp only [get_put, ↓reduceIte]; rfl, ?_⟩
    rw [hB]
    unfold bodyX
    rw [if_neg ck0, if_neg ck1, if_neg ck2]
    exact ⟨by decide, rfl, st2⟩
  have d2 : ((kind : Nat) : Int) = 2 := by omega
  simp (config := { maxSteps := 1000000, implicitDefEqProofs := false }) (disch := omega) only [allW, Nat.reduceLT, Nat.reduceEqDiff, ↓reduceIte, hn, eq_false d0, eq_false d1, eq_true d2, zCode, pCode]
  refine wstep_newPtr ?_
  intro t1 hc1 hst1 hnx1
  obtain ⟨ja, hja⟩ : ∃ j, j = s2.next := ⟨_, rfl⟩
  rw [← hja] at hc1
  simp (config := { maxSteps := 1000000, implicitDefEqProofs := false }) (disch := omega) only [allW, Nat.reduceLT, Nat.reduceAdd, ↓reduceIte, hn, ← hja, codeV_length, zCode, pCode]
  refine wstep_newPtr ?_
  intro t2 hd2 hst2 hnx2
  obtain ⟨jb, hjb⟩ : ∃ j, j = t1.next := ⟨_, rfl⟩
  rw [← hjb] at hd2
  have kk : Stay s2.next s2 t2 := hst1.trans (hst2.weaken (by omega))
  have hRt := hR2.keeps hb2 kk
  have kt := k2.kept kk
  have hbt : base ≤ t2.next := by have := kk.next; omega
  have hc2 := hc1.keeps hst2
  simp (config := { maxSteps := 1000000, implicitDefEqProofs := false }) (disch := omega) only [allW, allR, evalAll, Nat.reduceLT, Nat.reduceEqDiff, Nat.reduceAdd, ↓reduceIte, hn, h0, ← hjb, codeV_length]
  refine (dynP_any hL base t2 jr jx ic D P (p + 1 + 2) N M o hRt hbt hlen hN).mono ?_
  intro v t3 hD
  cases hdx : dynX N D (p + 1 + 2) with
  | error e =>
    rw [hdx] at hD
    obtain ⟨he, rfl, to3⟩ := hD
    have c0 : ¬ (e : Int) = 0 := by omega
    simp (config := { maxSteps := 1000000, implicitDefEqProofs := false }) (disch := omega) only [allW, Nat.reduceLT, Nat.reduceEqDiff, ↓reduceIte, hn, ext30, ext31, ext32]
    refine wstep_storeAll szCode (by decide) (thingTo hc2 to3.next (to3.get ja hc2.lt (by omega) (by omega))) (codeV_length _ _) rfl (codeV_length _ _) (codeV_ok _ rfl) ?_
    intro t4 hc4 hn4 hs4
    simp (config := { maxSteps := 1000000, implicitDefEqProofs := false }) (disch := omega) only [allW, Nat.reduceLT, Nat.reduceEqDiff, ↓reduceIte, hn]
    refine wstep_storeAll szCode (by decide) ((thingTo hd2 to3.next (to3.get jb hd2.lt (by omega) (by omega))).ofPut hn4 hs4 (by omega)) (codeV_length _ _) rfl (codeV_length _ _) (codeV_ok _ rfl) ?_
    intro t5 hc5 hn5 hs5
    simp (config := { maxSteps := 1000000, implicitDefEqProofs := false }) (disch := omega) only [allW, Nat.reduceLT, ↓reduceIte, hn, eq_false c0]
    refine hQ' _ _ ⟨by simp only [n_put, hn], by simp only [get_put, ↓reduceIte, Nat.reduceEqDiff], _, by simp only [get_put, ↓reduceIte, Nat.reduceEqDiff]; rfl, ?_⟩
    rw [hB]
    unfold bodyX
    rw [if_neg ck0, if_neg ck1, if_pos ck2, hdx]
    have s3 := stayAll _ _ (kt.trans (btoR to3))
    exact ⟨he, rfl, (s3.trans (Stay.ofPut hn4 hs4 (by omega))).trans (Stay.ofPut hn5 hs5 (by omega))⟩
  | ok y =>
  obtain ⟨⟨a, b⟩, q⟩ := y
  rw [hdx] at hD
  obtain ⟨sa, sb, rfl, hR3, to3, hsa, hsb, hsaF, hsbF, hla, hlb⟩ := hD
  simp (config := { maxSteps := 1000000, implicitDefEqProofs := false }) (disch := omega) only [allW, Nat.reduceLT, Nat.reduceEqDiff, ↓reduceIte, hn, ext30, ext31, ext32]
  refine wstep_storeAll szCode (by decide) (thingTo hc2 to3.next (to3.get ja hc2.lt (by omega) (by omega))) (codeV_length _ _) rfl (codeV_length _ _) (codeV_ok _ hsa.sees.okCell) ?_
  intro t4 hc4 hn4 hs4
  have hc4 : Thing t4 ja (codeV a sa) := hc4
  simp (config := { maxSteps := 1000000, implicitDefEqProofs := false }) (disch := omega) only [allW, Nat.reduceLT, Nat.reduceEqDiff, ↓reduceIte, hn]
  refine wstep_storeAll szCode (by decide) ((thingTo hd2 to3.next (to3.get jb hd2.lt (by omega) (by omega))).ofPut hn4 hs4 (by omega)) (codeV_length _ _) rfl (codeV_length _ _) (codeV_ok _ hsb.sees.okCell) ?_
  intro t5 hd5 hn5 hs5
  have hd5 : Thing t5 jb (codeV b sb) := hd5
  have hc5 := hc4.ofPut hn5 hs5 (by omega)
  have lca := hc5.loadAll (P := Try.prog) agCode (by rw [codeV_length]; exact szCode) (c := 18) (by rw [codeV_length])
  have lcb := hd5.loadAll (P := Try.prog) agCode (by rw [codeV_length]; exact szCode) (c := 18) (by rw [codeV_length])
  have n3 := to3.next
  have hg5 : ∀ i, i < s2.next → t5.heap.get i = t3.heap.get i := fun i hi => by rw [hs5 i (by omega), hs4 i (by omega)]
  have hR5 : Rs base t5 jr jx ic D q P M o := hR3.low (B := s2.next) (by omega) hg5 hb2 (by omega) (by omega) (by omega) (fun i hi => by have := hol i hi; omega)
  have k5 : RTo jr jx ic o s o t5 := by
    have k3 := kt.trans (btoR (jr := jr) (o := o) to3)
    exact ⟨by have := k3.next; omega, fun i hi g1 g2 g3 g4 => by rw [hg5 i (by omega)]; exact k3.get i hi g1 g2 g3 g4, .inl rfl⟩
  have fin : ∀ (y : Value) (K : List Nat), Own t3 1 y (flatA K 15).length (natsV (flatA K 15)) → Fresh t2.next y → CodP jr jx ic o t5 (.agg (codeV K y).toArray) K := fun y K h1 h2 => by
    have h3 := (h1.ofPut hn4 hs4 (fun e => by have := h2 _ e; omega)).ofPut hn5 hs5 (fun e => by have := h2 _ e; omega)
    exact ⟨y, rfl, ⟨h3.sees, fun i hi => ⟨h3.idlt i hi, by have := h2 i hi; omega, by have := h2 i hi; omega⟩⟩, fun i hi => ⟨by have := h2 i hi; omega, fun e => by have := hol i e; have := h2 i hi; omega⟩⟩
  simp (config := { maxSteps := 1000000, implicitDefEqProofs := false }) (disch := omega) only [allW, allR, evalAll, Nat.reduceLT, Nat.reduceEqDiff, ↓reduceIte, hn, h0, lca, lcb]
  refine (codedP_any hL base t5 jr jx ic D P q m N M hM o hR5 (by omega) hlen hPm hm (by omega) _ _ a b (fin sa _ hsa hsaF) (fin sb _ hsb hsbF) hla (by omega)).mono ?_
  intro v t6 hO
  simp (config := { maxSteps := 1000000, implicitDefEqProofs := false }) (disch := omega) only [allW, Nat.reduceLT, ↓reduceIte, hn]
  refine hQ' _ _ ⟨by simp only [n_put, hn], by simp only [get_put, ↓reduceIte, Nat.reduceEqDiff], v, by simp only [get_put, ↓reduceIte], ?_⟩
  rw [hB]
  unfold bodyX
  rw [if_neg ck0, if_neg ck1, if_pos ck2, hdx]
  exact hO.from k5 (stayAll _ _ k5)
theorem bReader (jx : Nat) (M : Int) : buildA Try.prog 54 [(0, xptr jx), (1, .int .i64 M)] = some (.agg #[xptr jx, .int .i64 M, .slice none 0 0]) := by
  unfold buildA; rw [Try.underlying54]
  have hz : zeroB Try.prog 54 = some (.agg #[.pointer none, .int .i64 0, .slice none 0 0]) := by kernel_rfl
  rw [hz]
  have c1 : (xptr jx).cells.toList = [xptr jx] := rfl
  have c2 : (Value.int .i64 M).cells.toList = [.int .i64 M] := rfl
  simp only [fillA, placeOf, c1, c2]
  simp [szBitsQ, szInt, szSl, plainV, plain1, cells_agg, setAt]
set_option maxHeartbeats 16000000 in
theorem blocksP_any {lib : Prims} (hL : NoL lib) (s : ASt) (x : Value) (D : List UInt8) (N : Nat) (hx : Sees s 1 x D.length (ofBytes D)) (hlen : D.length ≤ 1000000) (M : Int) (hM : M ≤ 100000000) (hN : 8 * D.length + 1 < N) :
    Runs Try.prog lib 19 [x, .int .i64 M] s fun v s' => BlkX s v s' (inflX N D M.toNat) := by
  obtain ⟨m, hm⟩ : ∃ m, m = M.toNat := ⟨_, rfl⟩
  rw [← hm]
  refine Runs.enter 36 Try.func19 rfl (hL _ rfl) rfl rfl ?_
  intro f hn hf
  have h0 : f.get 0 = x := hf 0
  have h1 : f.get 1 = .int .i64 M := hf 1
  clear hf
  simp (config := { maxSteps := 1000000, implicitDefEqProofs := false }) (disch := omega) only [allW, allR, evalAll, Nat.reduceLT, Nat.reduceEqDiff, ↓reduceIte, hn, h0]
  refine (open_any (hL _ rfl) (hL _ rfl) s.next s x D hx.low (Nat.le_refl _)).mono ?_
  rintro _ s1 ⟨jx, ic, rfl, hB, k1⟩
  have hlt := hB.lt
  have n1 := k1.next
  simp (config := { maxSteps := 1000000, implicitDefEqProofs := false }) (disch := omega) only [allW, partsA, Nat.reduceLT, Nat.reduceEqDiff, ↓reduceIte, hn, h1, bReader]
  refine wstep_newPtr ?_
  intro s2 hr2 hst2 hnx2
  obtain ⟨jr, hjr⟩ : ∃ j, j = s1.next := ⟨_, rfl⟩
  rw [← hjr] at hr2
  have hR2 : Rs s.next s2 jr jx ic D 0 [] M (.slice none 0 0) := ⟨hB.keeps n1 hst2, hr2, .nil, Fresh.nil _, (fun e => by cases e), (fun e => by cases e), (fun e => by cases e), by omega, by omega, by omega⟩
  have k2 : Stay s.next s s2 := k1.trans (hst2.weaken n1)
  obtain ⟨R, hR⟩ : ∃ R, R = inflX N D m := ⟨_, rfl⟩
  rw [← hR]
  simp (config := { maxSteps := 1000000, implicitDefEqProofs := false }) (disch := omega) only [allW, Nat.reduceLT, Nat.reduceAdd, ↓reduceIte, hn, ← hjr, List.length_cons, List.length_nil]
  refine Comes.loopOut (fun z f t => ∃ (p : Nat) (P : List UInt8) (o : Value), blocksX N D m z p P = R ∧ 8 * D.length < p + z ∧ P.length ≤ m ∧ Rs s.next t jr jx ic D p P M o ∧ Stay s.next s t ∧ s.next ≤ t.next ∧ f.n = 36 ∧ f.get 7 = rptr jr)
    (fun z f t => z = .ret ∧ f.n = 36 ∧ ∃ a b c, f.get 4 = a ∧ f.get 5 = b ∧ f.get 6 = c ∧ BlkX s (.tuple #[a, b, c]) t R)
    (k := N) ⟨0, [], _, hR.symm, by omega, Nat.zero_le _, hR2, k2, k2.next, by simp only [n_put, hn], by simp only [get_put, ↓reduceIte]⟩ ?_ ?_
  rotate_left
  · clear hn h0 h1 f
    rintro z f t ⟨rfl, hn, a, b, c, h4, h5, h6, hO⟩
    simp (config := { maxSteps := 1000000, implicitDefEqProofs := false }) (disch := omega) only [allW, wfn_ret, oneOf, Nat.reduceLT, ↓reduceIte, hn, h4, h5, h6, Try.results19]
    exact hO
  clear hn h0 h1 f hR2 hB k1 hr2 hst2 hR
  rintro Q hQ z f t ⟨p, P, o, hz, hpz, hPm, hRs, hst, hnt, hn, h7⟩
  have hpD := hRs.bit.le
  obtain ⟨k, rfl⟩ : ∃ k, z = k + 1 := ⟨z - 1, by omega⟩
  rw [blocksX] at hz
  simp (config := { maxSteps := 1000000, implicitDefEqProofs := false }) (disch := omega) only [allW, allR, evalAll, Nat.reduceLT, ↓reduceIte, hn, h7]
  refine (blockP_any hL s.next t jr jx ic D P p m N M hm o hRs hnt hlen hPm (by omega) hN).mono ?_
  intro v t1 hBl
  cases hbx : blockX N D m p P with
  | error e =>
    rw [hbx] at hBl hz
    obtain ⟨he, ⟨b, rfl⟩, hst1⟩ := hBl
    have c0 : ¬ (e : Int) = 0 := by omega
    simp (config := { maxSteps := 1000000, implicitDefEqProofs := false }) (disch := omega) only [allW, allR, Nat.reduceLT, Nat.reduceEqDiff, ↓reduceIte, hn, ext20, ext21, eq_false c0]
    exact hQ _ _ _ ⟨rfl, by simp only [n_put, hn], _, _, _, by simp only [get_put, ↓reduceIte, Nat.reduceEqDiff]; rfl, by simp only [get_put, ↓reduceIte, Nat.reduceEqDiff]; rfl, by simp only [get_put, ↓reduceIte]; rfl, by rw [← hz]; exact ⟨rfl, hst.trans hst1⟩⟩
  | ok y =>
  obtain ⟨last, q, P'⟩ := y
  rw [hbx] at hBl hz
  obtain ⟨rfl, o', hR1, hto⟩ := hBl
  dsimp only at hz
  have hle := blockX_le hbx hPm
  have hge := blockX_ge hbx hPm
  have hst1 := hst.trans (hto.stay hRs.lr hRs.bit.lt.2.2.1 hRs.bit.lt.2.2.2.1 hRs.fresh hnt)
  have hn1 : s.next ≤ t1.next := hst1.next
  by_cases cl : last = 1
  rotate_left
  · have d1 : ¬ ((last : Nat) : Int) = 1 := by omega
    rw [if_neg cl] at hz
    simp (config := { maxSteps := 1000000, implicitDefEqProofs := false }) (disch := omega) only [allW, allR, Nat.reduceLT, Nat.reduceEqDiff, ↓reduceIte, hn, ext20, ext21, eq_false d1]
    exact wround_next k (by omega) ⟨q, P', o', hz, by omega, hle.2.1, hR1, hst1, hn1, by simp only [n_put, hn], by simp only [get_put, ↓reduceIte, Nat.reduceEqDiff, h7]⟩
  have d1 : ((last : Nat) : Int) = 1 := by omega
  rw [if_pos cl] at hz
  simp (config := { maxSteps := 1000000, implicitDefEqProofs := false }) (disch := omega) only [allW, allR, Nat.reduceLT, Nat.reduceEqDiff, ↓reduceIte, hn, ext20, ext21, eq_true d1]
  obtain ⟨A, hA⟩ : ∃ A : Nat → Bool, A = fun j => decide (j < t1.next) := ⟨_, rfl⟩
  have hAl : ∀ j, A j = true → j < t1.next := by
    intro j h
    rw [hA] at h
    exact of_decide_eq_true h
  have hAo : ∀ j, j < t1.next → A j = true := fun j h => by rw [hA]; exact decide_eq_true h
  have hsq := Stay.spare t1 0
  have hnq : (spare t1 0).next = t1.next + 0 := spare_next _ _
  have hRq := hR1.keeps hn1 hsq
  obtain ⟨pc, now, left, hBt, h7l⟩ := hRq.bit
  have he := hBt.e
  have lr : ∀ k, LA.lowV A (some (.pointer (some ⟨jr, k, some 4⟩))) = true := fun k => LA.lowV_ptr (A := A) (i := jr) (hAo _ hR1.t.lt)
  have lx : ∀ k, LA.lowV A (some (.pointer (some ⟨jx, k, some 4⟩))) = true := fun k => LA.lowV_ptr (A := A) (i := jx) (hAo _ hR1.bit.lt.1)
  have r0 := hRq.t.load (P := Try.prog) agBitsQ (off := 0) (c := 4) rfl (by simp)
  have r2 := hRq.t.load (P := Try.prog) agSl (off := 2) (c := 4) rfl (by simp)
  have g0 := hBt.t.load (P := Try.prog) bagCur (off := 0) (c := 4) rfl (by simp)
  refine LB.Drawn.looseK A hAl 1 0 (by kernel_rfl) (by kernel_rfl) ?_
  simp (config := { maxSteps := 1000000, implicitDefEqProofs := false }) (disch := omega) only [allW, allR, allL, allB, Nat.sub_self, evalAll, Nat.reduceLT, Nat.reduceEqDiff, ↓reduceIte, hn, h7, rfld0, rfld2, bfld0, r0, r2, g0, lr, lx, hR1.own.self]
  refine (pos_any (hL _ rfl) s.next (spare t1 0) ic D pc hBt.c).mono ?_
  rintro _ t2 ⟨rfl, ht2⟩
  rw [ht2]; clear ht2 t2
  refine ⟨fun _ => LA.StayA.refl _ _, ?_⟩
  try simp (config := { maxSteps := 1000000, implicitDefEqProofs := false }) (disch := omega) only [allW, ↓reduceIte, allW, ↓reduceIte]
  have ep : pc = (q + 7) / 8 := by omega
  exact hQ _ _ _ ⟨rfl, by simp only [n_put, hn], _, _, _, by simp only [get_put, ↓reduceIte, Nat.reduceEqDiff]; rfl, by simp only [get_put, ↓reduceIte, Nat.reduceEqDiff]; rfl, by simp only [get_put, ↓reduceIte]; rfl, by rw [← hz]; exact ⟨o', by rw [ep], hRq.own, hRq.fresh, hst1.trans (hsq.weaken hn1)⟩⟩
end Go.Proofs.Ytnclklboogdoiaa
