/-
  Inflate, the program: numbers, symbols, what is put.
-/
import Derived.Test.YtnclklboogdoiaaBitsT
import Derived.Test.YtnclklboogdoiaaNfG
set_option linter.unusedSimpArgs false
set_option linter.unusedVariables false
set_option maxRecDepth 100000
namespace Go.Cl.Nf
open Go.Cl.Fx Go.Cl.Sto
theorem idx_getD_flat (C : List Nat) : ∀ m n, 1 ≤ n → n ≤ m → ∀ r, r < C.count n → (flatA C (n - 1)).length + r < (flatA C m).length ∧ (flatA C m).getD ((flatA C (n - 1)).length + r) 0 = (idx C n).getD r 0
  | 0, n, h1, h2, r, hr => by omega
  | m + 1, n, h1, h2, r, hr => by
    have hl := idx_length C (m + 1)
    by_cases c : n = m + 1
    · subst c
      simp only [flatA, Nat.add_sub_cancel]
      refine ⟨by rw [List.length_append, hl]; omega, ?_⟩
      rw [List.getD_eq_getElem?_getD, List.getElem?_append_right (by omega), Nat.add_sub_cancel_left, List.getD_eq_getElem?_getD]
    · obtain ⟨k1, k2⟩ := idx_getD_flat C m n h1 (by omega) r hr
      simp only [flatA]
      refine ⟨by rw [List.length_append]; omega, ?_⟩
      rw [List.getD_eq_getElem?_getD, List.getElem?_append_left k1, ← List.getD_eq_getElem?_getD, k2]
theorem cn_pos (C : List Nat) {n : Nat} (h : 1 ≤ n) : cn C n = C.count n := if_neg (by omega)
theorem flat_next (C : List Nat) (n : Nat) : (flatA C (n + 1)).length = (flatA C n).length + C.count (n + 1) := by
  simp only [flatA]; rw [List.length_append, idx_length]
/-- So many of each length, and no more than there are. -/
theorem count_two (C : List Nat) : ∀ m, (flatA C m).length ≤ C.length := by
  have key : ∀ (L : List Nat) (m : Nat), (flatA L m).length = (L.filter (fun x => decide (1 ≤ x ∧ x ≤ m))).length := by
    intro L m
    induction m with
    | zero =>
      rw [show L.filter (fun x => decide (1 ≤ x ∧ x ≤ 0)) = [] from List.filter_eq_nil_iff.2 (fun x _ => by simp; omega)]
      rfl
    | succ m ih =>
      rw [flat_next, ih]
      clear ih
      induction L with
      | nil => rfl
      | cons a r ih =>
        simp only [List.filter_cons, List.count_cons]
        by_cases c1 : a = m + 1
        · subst c1
          have c4 : (decide (1 ≤ m + 1 ∧ m + 1 ≤ m)) = false := decide_eq_false (by omega)
          have c5 : (decide (1 ≤ m + 1 ∧ m + 1 ≤ m + 1)) = true := decide_eq_true (by omega)
          have c6 : (m + 1 == m + 1) = true := by simp
          rw [c4, c5, c6]
          simp only [if_true, List.length_cons]
          rw [if_neg (by decide)]
          omega
        · by_cases c2 : 1 ≤ a ∧ a ≤ m
          · have c3 : 1 ≤ a ∧ a ≤ m + 1 := by omega
            have c4 : (decide (1 ≤ a ∧ a ≤ m)) = true := decide_eq_true c2
            have c5 : (decide (1 ≤ a ∧ a ≤ m + 1)) = true := decide_eq_true c3
            have c6 : (a == m + 1) = false := by simpa using c1
            rw [c4, c5, c6]
            simp only [if_true, List.length_cons]
            rw [if_neg (by decide)]
            omega
          · have c3 : ¬ (1 ≤ a ∧ a ≤ m + 1) := by omega
            have c4 : (decide (1 ≤ a ∧ a ≤ m)) = false := decide_eq_false c2
            have c5 : (decide (1 ≤ a ∧ a ≤ m + 1)) = false := decide_eq_false c3
            have c6 : (a == m + 1) = false := by simpa using c1
            rw [c4, c5, c6]
            simpa using ih
  intro m
  rw [key]
  exact List.length_filter_le _ _
theorem arrAt {P : Program} {t e : TypeId} {m : Nat} (hu : P.underlying t = some (.array m e)) (hsz : sizeB P e = some 1) (i o c : Nat) {x : Int} (h0 : 0 ≤ x) (hx : x < m) (kk : IntKind) :
    indexAddrA P t (.pointer (some ⟨i, o, some c⟩)) (.int kk x) = some (.pointer (some ⟨i, o + x.toNat, some c⟩)) := by
  obtain ⟨k, rfl⟩ : ∃ k : Nat, x = k := ⟨x.toNat, by omega⟩
  have hb : Nat.blt k m = true := by rw [Nat.blt_eq]; omega
  show indexAddrA P t _ (.int kk (Int.ofNat k)) = _
  unfold indexAddrA
  rw [hu]
  simp only [hsz, hb, if_true, Nat.mul_one, Int.toNat_natCast]
end Go.Cl.Nf
namespace Go.Proofs.Ytnclklboogdoiaa
open Go.Cl Go.Cl.Rw Go.Cl.Sto Go.Cl.Fx Go.Cl.Nf Go.Cl.Bt
def nfp : List Nat := [11, 12, 13, 14, 52, 68, 65, 53, 67, 66, 54, 70, 74, 71, 56, 73, 72, 69, 55, 31, 19, 15, 29, 18, 30, 17, 28]
/-- None of the functions is stood in for. -/
def NoL (lib : Prims) : Prop := ∀ g, nfp.contains g = true → lib.at g = none
theorem ext20 (a b : Value) : extractA (.tuple #[a, b]) 0 = some a := rfl
theorem ext21 (a b : Value) : extractA (.tuple #[a, b]) 1 = some b := rfl
theorem BitIs.le {base : Nat} {s : ASt} {jx ic : Nat} {D : List UInt8} {p : Nat} (h : BitIs base s jx ic D p) : p ≤ 8 * D.length := by
  obtain ⟨q, now, left, h, -⟩ := h
  have := h.e
  have := h.c.choose_spec.2.2.2
  omega
theorem BitIs.lt {base : Nat} {s : ASt} {jx ic : Nat} {D : List UInt8} {p : Nat} (h : BitIs base s jx ic D p) : jx < s.next ∧ ic < s.next ∧ base ≤ jx ∧ base ≤ ic ∧ jx ≠ ic := by
  obtain ⟨q, now, left, h, -⟩ := h
  exact ⟨h.t.lt, h.c.choose_spec.1.lt, h.lx, h.lc, h.ne⟩
theorem BitIs.keeps {base : Nat} {s s' : ASt} {jx ic : Nat} {D : List UInt8} {p : Nat} (h : BitIs base s jx ic D p) (hb : base ≤ s.next) (k : Stay s.next s s') : BitIs base s' jx ic D p := by
  obtain ⟨q, now, left, h, h7⟩ := h
  exact ⟨q, now, left, ⟨h.c.keeps hb k, h.t.keeps k, h.e, h.l8, h.r, h.now, h.lx, h.lc, h.ne⟩, h7⟩
/-- A number that is read. -/
def NumR (base jx ic : Nat) (D : List UInt8) (p n : Nat) (s : ASt) (v : Value) (s' : ASt) : Except Nat Nat → Prop
  | .ok x => v = .tuple #[.int .i64 (x : Nat), .int .i64 0] ∧ BitIs base s' jx ic D (p + n) ∧ BTo jx ic s s'
  | .error e => e = 2 ∧ v = .tuple #[.int .i64 0, .int .i64 2] ∧ BTo jx ic s s'
set_option maxHeartbeats 4000000 in
theorem number_any {lib : Prims} (hL : NoL lib) (base : Nat) (s : ASt) (jx ic : Nat) (D : List UInt8) (p n : Nat) (h : BitIs base s jx ic D p) (hb : base ≤ s.next) (hn16 : n ≤ 16) (hlen : D.length ≤ 1000000) :
    Runs Try.prog lib 52 [xptr jx, .int .i64 (n : Nat)] s fun v s' => NumR base jx ic D p n s v s' (takeE D p n) := by
  refine Runs.enter 13 Try.func52 rfl (hL _ rfl) rfl rfl ?_
  intro f hn hf
  have h0 : f.get 0 = xptr jx := hf 0
  have h1 : f.get 1 = .int .i64 (n : Nat) := hf 1
  clear hf
  simp (config := { maxSteps := 1000000, implicitDefEqProofs := false }) (disch := omega) only [allW, allR, evalAll, Nat.reduceLT, Nat.reduceEqDiff, ↓reduceIte, hn, h0, h1]
  refine (take_anyT (hL _ rfl) (hL _ rfl) (hL _ rfl) (hL _ rfl) (hL _ rfl) (hL _ rfl) base s jx ic D p (n : Nat) h hb hlen).mono ?_
  rintro _ s1 ⟨rfl, hB, hto⟩
  by_cases c : p + n ≤ 8 * D.length
  · have ht : takes D p (n : Nat) := ⟨by omega, by omega, by omega⟩
    rw [if_pos ht, Int.toNat_natCast] at hB
    have e1 : tookIs D p (n : Nat) = ((bitsN D p n : Nat) : Int) := by unfold tookIs; rw [if_pos ht, Int.toNat_natCast]
    have d1 : ¬ ((bitsN D p n : Nat) : Int) < 0 := by omega
    simp (config := { maxSteps := 1000000, implicitDefEqProofs := false }) (disch := omega) only [allW, wfn_ret, oneOf, Nat.reduceLT, Nat.reduceEqDiff, ↓reduceIte, hn, e1, eq_false d1, Try.results52]
    rw [takeE_ok c]
    exact ⟨rfl, hB, hto⟩
  · have ht : ¬ takes D p (n : Nat) := fun h => c (by have := h.2.2; omega)
    have e1 : tookIs D p (n : Nat) = -1 := by unfold tookIs; rw [if_neg ht]
    have d1 : (-1 : Int) < 0 := by decide
    simp (config := { maxSteps := 1000000, implicitDefEqProofs := false }) (disch := omega) only [allW, wfn_ret, oneOf, Nat.reduceLT, Nat.reduceEqDiff, ↓reduceIte, hn, e1, eq_true d1, Try.results52]
    rw [takeE_no c]
    exact ⟨rfl, rfl, hto⟩
set_option maxHeartbeats 4000000 in
theorem bitP_any {lib : Prims} (hL : NoL lib) (base : Nat) (s : ASt) (jx ic : Nat) (D : List UInt8) (p : Nat) (h : BitIs base s jx ic D p) (hb : base ≤ s.next) (hlen : D.length ≤ 1000000) :
    Runs Try.prog lib 12 [xptr jx] s fun v s' => v = .int .i64 (if p + 1 ≤ 8 * D.length then ((bit D p : Nat) : Int) else -1) ∧ (p + 1 ≤ 8 * D.length → BitIs base s' jx ic D (p + 1)) ∧ BTo jx ic s s' := by
  refine Runs.enter 5 Try.func12 rfl (hL _ rfl) rfl rfl ?_
  intro f hn hf
  have h0 : f.get 0 = xptr jx := hf 0
  clear hf
  simp (config := { maxSteps := 1000000, implicitDefEqProofs := false }) (disch := omega) only [allW, allR, evalAll, Nat.reduceLT, Nat.reduceEqDiff, ↓reduceIte, hn, h0]
  refine (take_anyT (hL _ rfl) (hL _ rfl) (hL _ rfl) (hL _ rfl) (hL _ rfl) (hL _ rfl) base s jx ic D p 1 h hb hlen).mono ?_
  rintro _ s1 ⟨rfl, hB, hto⟩
  simp (config := { maxSteps := 1000000, implicitDefEqProofs := false }) (disch := omega) only [allW, wfn_ret, oneOf, Nat.reduceLT, ↓reduceIte, hn, Try.results12]
  by_cases c : p + 1 ≤ 8 * D.length
  · have ht : takes D p 1 := ⟨by omega, by omega, by omega⟩
    rw [if_pos ht] at hB
    refine ⟨?_, fun _ => hB, hto⟩
    unfold tookIs
    rw [if_pos ht, if_pos c]
    show Value.int .i64 ((bitsN D p 1 : Nat) : Int) = _
    rw [bitsN_one]
  · have ht : ¬ takes D p 1 := fun h => c (by have := h.2.2; omega)
    refine ⟨?_, fun h => absurd h c, hto⟩
    unfold tookIs
    rw [if_neg ht, if_neg c]
/-! A code. -/
theorem szArr : sizeB Try.prog 89 = some 16 := by kernel_rfl
theorem szIntsS : sizeB Try.prog 63 = some 1 := by kernel_rfl
theorem agIntsS : isAggB Try.prog 63 = some false := by kernel_rfl
theorem szCode : sizeB Try.prog 91 = some 17 := by kernel_rfl
theorem agCode : isAggB Try.prog 91 = some true := by kernel_rfl
theorem uArr : Try.prog.underlying 89 = some (.array 16 3) := Try.underlying89
theorem kfld0 (i o c : Nat) : fieldAddrA Try.prog 91 (.pointer (some ⟨i, o, some c⟩)) 0 = some (.pointer (some ⟨i, o + 0, some c⟩)) := by
  unfold fieldAddrA; rw [Try.underlying91]; simp [szArr]
theorem kfld1 (i o c : Nat) : fieldAddrA Try.prog 91 (.pointer (some ⟨i, o, some c⟩)) 1 = some (.pointer (some ⟨i, o + 16, some c⟩)) := by
  unfold fieldAddrA; rw [Try.underlying91]; simp [szIntsS]
/-- The cells of a code. -/
def codeV (C : List Nat) (sv : Value) : List Value := ((List.range 16).map fun n => Value.int .i64 ((cn C n : Nat) : Int)) ++ [sv]
theorem codeV_length (C : List Nat) (sv : Value) : (codeV C sv).length = 17 := by simp [codeV]
theorem codeV_at (C : List Nat) (sv : Value) {n : Nat} (h : n < 16) : (codeV C sv).getD n undef = .int .i64 ((cn C n : Nat) : Int) := by
  unfold codeV
  rw [List.getD_eq_getElem?_getD, List.getElem?_append_left (by simpa using h), List.getElem?_map, List.getElem?_range h]; rfl
theorem codeV_sv (C : List Nat) (sv : Value) : (codeV C sv).getD 16 undef = sv := by simp [codeV, List.getD_eq_getElem?_getD]
/-- A code's symbols, apart from the reader. -/
def Syms (jx ic : Nat) (s : ASt) (sv : Value) (C : List Nat) : Prop := Sees s 1 sv (flatA C 15).length (natsV (flatA C 15)) ∧ ∀ i, idOf sv = some i → i < s.next ∧ i ≠ jx ∧ i ≠ ic
theorem seesTo {s s' : ASt} {z : Nat} {v : Value} {n : Nat} {L : List Value} (h : Sees s z v n L) (hn : s.next ≤ s'.next) (hs : ∀ i, idOf v = some i → i < s.next → s'.heap.get i = s.heap.get i) : Sees s' z v n L := by
  cases h with
  | nil => exact .nil
  | bare i off => exact .bare i off
  | of i off n c b l hi hb hz hl hc hlen hoff ht =>
    refine .of i off _ c b _ (Nat.lt_of_lt_of_le hi hn) ?_ hz hl hc hlen hoff ht
    simp only [ASt.blk?, hs i rfl hi]; exact hb
theorem Syms.to {jx ic : Nat} {s s' : ASt} {sv : Value} {C : List Nat} (h : Syms jx ic s sv C) (k : BTo jx ic s s') : Syms jx ic s' sv C :=
  ⟨seesTo h.1 k.next (fun i hi hl => k.get i hl (h.2 i hi).2.1 (h.2 i hi).2.2), fun i hi => ⟨Nat.lt_of_lt_of_le (h.2 i hi).1 k.next, (h.2 i hi).2⟩⟩
/-- A symbol that is read. -/
def SymP (base jx ic : Nat) (D : List UInt8) (s : ASt) (v : Value) (s' : ASt) : Except Nat (Nat × Nat) → Prop
  | .ok (x, q) => v = .tuple #[.int .i64 (x : Nat), .int .i64 0] ∧ BitIs base s' jx ic D q ∧ BTo jx ic s s'
  | .error e => 0 < e ∧ v = .tuple #[.int .i64 0, .int .i64 (e : Nat)] ∧ BTo jx ic s s'
set_option maxHeartbeats 8000000 in
theorem symP_any {lib : Prims} (hL : NoL lib) (base : Nat) (s : ASt) (jx ic : Nat) (D : List UInt8) (p : Nat) (h : BitIs base s jx ic D p) (hb : base ≤ s.next) (hlen : D.length ≤ 1000000) (C : List Nat) (sv : Value) (hC : Syms jx ic s sv C) (hCl : C.length ≤ 1000) :
    Runs Try.prog lib 68 [xptr jx, .agg (codeV C sv).toArray] s fun v s' => SymP base jx ic D s v s' (sym D C p) := by
  refine Runs.enter 54 Try.func68 rfl (hL _ rfl) rfl rfl ?_
  intro f hn hf
  have h0 : f.get 0 = xptr jx := hf 0
  have h1 : f.get 1 = .agg (codeV C sv).toArray := hf 1
  clear hf
  simp (config := { maxSteps := 1000000, implicitDefEqProofs := false }) (disch := omega) only [allW, Nat.reduceLT, ↓reduceIte, hn, h1]
  refine wstep_newPtr ?_
  intro s1 hth hst1 hnx1
  obtain ⟨jc, hjc⟩ : ∃ j, j = s.next := ⟨_, rfl⟩
  rw [← hjc] at hth
  have hlc := codeV_length C sv
  have h1B : BTo jx ic s s1 := ⟨hst1.next, fun i hi _ _ => hst1.get i hi⟩
  have hC1 := hC.to h1B
  have hp15 : (2 : Nat) ^ 15 = 32768 := by decide
  have hflat := count_two C
  simp (config := { maxSteps := 1000000, implicitDefEqProofs := false }) (disch := omega) only [allW, Nat.reduceLT, Nat.reduceAdd, ↓reduceIte, hn, ← hjc, hlc]
  refine Comes.loopOut (fun z f t => ∃ k : Nat, z = 15 - k ∧ k ≤ 15 ∧ p + k ≤ 8 * D.length ∧ symF D C p (15 - k) k = sym D C p ∧ fst C k + cn C k ≤ hi D p k ∧ BitIs base t jx ic D (p + k) ∧ BTo jx ic s1 t ∧ Thing t jc (codeV C sv) ∧ Syms jx ic t sv C ∧ f.n = 54 ∧ f.get 0 = xptr jx ∧ f.get 3 = .pointer (some ⟨jc, 0, some 18⟩) ∧ f.get 6 = .int .i64 (hi D p k : Nat) ∧ f.get 7 = .int .i64 ((fst C k + cn C k : Nat) : Int) ∧ f.get 8 = .int .i64 ((flatA C k).length : Nat) ∧ f.get 9 = .int .i64 ((k : Int) + 1))
    (fun z f t => (z = .ret ∧ f.n = 54 ∧ ∃ v e : Value, f.get 4 = v ∧ f.get 5 = e ∧ SymP base jx ic D s (.tuple #[v, e]) t (sym D C p)) ∨ (z = .exit 0 ∧ f.n = 54 ∧ sym D C p = .error 4 ∧ BTo jx ic s t))
    ⟨0, rfl, by omega, h.le, rfl, by simp [fst, cn, hi], h.keeps hb hst1, BTo.refl _ _ _, hth, hC1, by simp only [n_put, hn], by simp only [get_put, ↓reduceIte, Nat.reduceEqDiff, h0], by simp only [get_put, ↓reduceIte, Nat.reduceEqDiff], by simp only [get_put, ↓reduceIte, Nat.reduceEqDiff]; rfl, by simp only [get_put, ↓reduceIte, Nat.reduceEqDiff]; rfl, by simp only [get_put, ↓reduceIte, Nat.reduceEqDiff]; rfl, by simp only [get_put, ↓reduceIte]; rfl⟩ ?_ ?_
  · have hjx := h.lt
    clear hn h0 h1 f hth h hC hC1
    rintro Q hQ z f t ⟨k, rfl, hk, hkD, hsy, hle, hB, hto, hth, hS, hn, h0, h3, h6, h7, h8, h9⟩
    by_cases hk15 : k < 15
    rotate_left
    · obtain rfl : k = 15 := by omega
      have d1 : ¬ ((15 : Nat) : Int) + 1 ≤ 15 := by omega
      simp (config := { maxSteps := 1000000, implicitDefEqProofs := false }) (disch := omega) only [allW, Nat.reduceLT, ↓reduceIte, hn, h9, eq_false d1]
      exact hQ _ _ _ (.inr ⟨rfl, by simp only [n_put, hn], hsy.symm, h1B.trans hto⟩)
    have d1 : (k : Int) + 1 ≤ 15 := by omega
    have hkp : 2 ^ k ≤ 2 ^ 15 := Nat.pow_le_pow_right (by omega) (by omega)
    have hhl := hi_lt D p k
    rw [show 15 - k = (15 - (k + 1)) + 1 by omega, symF] at hsy
    have hbt : base ≤ t.next := by have := hto.next; omega
    simp (config := { maxSteps := 1000000, implicitDefEqProofs := false }) (disch := omega) only [allW, allR, evalAll, Nat.reduceLT, Nat.reduceEqDiff, ↓reduceIte, hn, h0, h9, eq_true d1]
    refine (bitP_any hL base t jx ic D (p + k) hB hbt hlen).mono ?_
    rintro _ t1 ⟨rfl, hB1, to1⟩
    have hto1 := h1B.trans (hto.trans to1)
    by_cases hroom : p + (k + 1) ≤ 8 * D.length
    rotate_left
    · rw [if_neg hroom] at hsy
      have d2 : (-1 : Int) < 0 := by decide
      rw [if_neg (show ¬ p + k + 1 ≤ 8 * D.length by omega)]
      simp (config := { maxSteps := 1000000, implicitDefEqProofs := false }) (disch := omega) only [allW, Nat.reduceLT, ↓reduceIte, hn, eq_true d2]
      refine hQ _ _ _ (.inl ⟨rfl, by simp only [n_put, hn], _, _, by simp only [get_put, ↓reduceIte, Nat.reduceEqDiff]; rfl, by simp only [get_put, ↓reduceIte]; rfl, ?_⟩)
      rw [← hsy]
      exact ⟨by decide, rfl, hto1⟩
    rw [if_pos hroom] at hsy
    have hB1 := hB1 hroom
    rw [if_pos (show p + k + 1 ≤ 8 * D.length by omega)]
    have hbl := bit_lt D (p + k)
    have d2 : ¬ ((bit D (p + k) : Nat) : Int) < 0 := by omega
    have hjc1 : jc < t1.next := by have := hto.next; have := to1.next; omega
    have hth1 : Thing t1 jc (codeV C sv) := by
      obtain ⟨i1, low, z, i2, i3⟩ := hth
      exact ⟨Nat.lt_of_lt_of_le i1 to1.next, low, z, by simp only [ASt.blk?, to1.get jc i1 (by omega) (by omega)]; exact i2, i3⟩
    have hS1 := hS.to to1
    have hsh := shlT Try.prog 3 .u64 (x := hi D p k) (by omega)
    have hor := orTwo (x := hi D p k) (b := bit D (p + k)) (by omega) hbl
    have ehi : 2 * hi D p k + bit D (p + k) = hi D p (k + 1) := rfl
    rw [ehi] at hor
    have hsf := shlT Try.prog 3 .u64 (x := fst C k + cn C k) (by omega)
    have efst : (fst C k + cn C k) * 2 ^ 1 = fst C (k + 1) := by simp only [fst]; omega
    rw [efst] at hsf
    have hge : fst C (k + 1) ≤ hi D p (k + 1) := by rw [← ehi]; simp only [fst]; omega
    have e1 : ((hi D p (k + 1) : Nat) : Int) - ((fst C (k + 1) : Nat) : Int) = ((hi D p (k + 1) - fst C (k + 1) : Nat) : Int) := by omega
    have hhl1 := hi_lt D p (k + 1)
    have hkp1 : 2 ^ (k + 1) ≤ 2 ^ 15 := Nat.pow_le_pow_right (by omega) (by omega)
    have hcn : cn C (k + 1) = C.count (k + 1) := cn_pos C (by omega)
    have ek : ((k : Int) + 1).toNat = k + 1 := by omega
    have ik := arrAt (P := Try.prog) uArr szInt jc 0 18 (x := (k : Int) + 1) (by omega) (by omega) .i64
    rw [ek, Nat.zero_add] at ik
    have lk := hth1.load (P := Try.prog) agInt (off := k + 1) (c := 18) (by rw [hlc]) (by rw [hlc]; omega)
    rw [codeV_at C sv (by omega)] at lk
    have lsv := hth1.load (P := Try.prog) agIntsS (off := 16) (c := 18) (by rw [hlc]) (by rw [hlc]; omega)
    rw [codeV_sv] at lsv
    have hfl := hflat 15
    have hfk := hflat k
    by_cases hat : symAt D C p (k + 1)
    · rw [if_pos hat] at hsy
      have d3 : ((hi D p (k + 1) - fst C (k + 1) : Nat) : Int) < ((cn C (k + 1) : Nat) : Int) := by have := hat.2; omega
      obtain ⟨q1, q2⟩ := idx_getD_flat C 15 (k + 1) (by omega) (by omega) (hi D p (k + 1) - fst C (k + 1)) (by have := hat.2; omega)
      rw [Nat.add_sub_cancel] at q1 q2
      have e2 : ((flatA C k).length : Int) + ((hi D p (k + 1) : Nat) : Int) - ((fst C (k + 1) : Nat) : Int) = (((flatA C k).length + (hi D p (k + 1) - fst C (k + 1)) : Nat) : Int) := by omega
      have is := hS1.1.indexAddr (P := Try.prog) (k := .i64) (x := (((flatA C k).length + (hi D p (k + 1) - fst C (k + 1)) : Nat) : Int)) uIntsF szInt (by omega) (by omega)
      rw [Int.toNat_natCast] at is
      have ls := hS1.1.load1 (P := Try.prog) agInt q1
      rw [natsV_getD q1, q2] at ls
      simp (config := { maxSteps := 1000000, implicitDefEqProofs := false }) (disch := omega) only [allW, Nat.reduceLT, Nat.reduceEqDiff, ↓reduceIte, hn, h3, h6, h7, h8, h9, eq_false d2, hsh, bin_or, hor, hsf, wrapI, e1, kfld0, kfld1, ik, lk, eq_true d3, lsv, e2, is, ls]
      refine hQ _ _ _ (.inl ⟨rfl, by simp only [n_put, hn], _, _, by simp only [get_put, ↓reduceIte, Nat.reduceEqDiff]; rfl, by simp only [get_put, ↓reduceIte]; rfl, ?_⟩)
      rw [← hsy]
      exact ⟨rfl, hB1, hto1⟩
    · rw [if_neg hat] at hsy
      have hnot : cn C (k + 1) ≤ hi D p (k + 1) - fst C (k + 1) := by
        rw [hcn]
        rcases Nat.lt_or_ge (hi D p (k + 1) - fst C (k + 1)) (C.count (k + 1)) with c | c
        · exact absurd ⟨hge, by omega⟩ hat
        · exact c
      have d3 : ¬ ((hi D p (k + 1) - fst C (k + 1) : Nat) : Int) < ((cn C (k + 1) : Nat) : Int) := by omega
      have e2 : ((fst C (k + 1) : Nat) : Int) + ((cn C (k + 1) : Nat) : Int) = ((fst C (k + 1) + cn C (k + 1) : Nat) : Int) := by omega
      have hfn := flat_next C k
      have e3 : (((flatA C k).length : Nat) : Int) + ((cn C (k + 1) : Nat) : Int) = (((flatA C (k + 1)).length : Nat) : Int) := by omega
      have hfk1 := hflat (k + 1)
      simp (config := { maxSteps := 1000000, implicitDefEqProofs := false }) (disch := omega) only [allW, Nat.reduceLT, Nat.reduceEqDiff, ↓reduceIte, hn, h3, h6, h7, h8, h9, eq_false d2, hsh, bin_or, hor, hsf, wrapI, e1, kfld0, ik, lk, eq_false d3, e2, e3]
      exact wround_next (15 - (k + 1)) (by omega) ⟨k + 1, rfl, by omega, by omega, hsy, by omega, hB1, hto.trans to1, hth1, hS1, by simp only [n_put, hn], by simp only [get_put, ↓reduceIte, Nat.reduceEqDiff, h0], by simp only [get_put, ↓reduceIte, Nat.reduceEqDiff, h3], by simp only [get_put, ↓reduceIte, Nat.reduceEqDiff], by simp only [get_put, ↓reduceIte, Nat.reduceEqDiff], by simp only [get_put, ↓reduceIte, Nat.reduceEqDiff], by simp only [get_put, ↓reduceIte]; rfl⟩
  clear hn h0 h1 f
  rintro z f t (⟨rfl, hn, v, e, h4, h5, hR⟩ | ⟨rfl, hn, hsy, hto⟩)
  · simp (config := { maxSteps := 1000000, implicitDefEqProofs := false }) (disch := omega) only [allW, wfn_ret, oneOf, Nat.reduceLT, ↓reduceIte, hn, h4, h5, Try.results68]
    exact hR
  · simp (config := { maxSteps := 1000000, implicitDefEqProofs := false }) (disch := omega) only [allW, wfn_ret, oneOf, Nat.reduceLT, Nat.reduceEqDiff, ↓reduceIte, hn, Try.results68]
    rw [hsy]
    exact ⟨by decide, rfl, hto⟩
/-! A reader of blocks. -/
theorem agBitsQ : isAggB Try.prog 25 = some false := by kernel_rfl
theorem szBitsQ : sizeB Try.prog 25 = some 1 := by kernel_rfl
theorem rfld0 (i o c : Nat) : fieldAddrA Try.prog 54 (.pointer (some ⟨i, o, some c⟩)) 0 = some (.pointer (some ⟨i, o + 0, some c⟩)) := by
  unfold fieldAddrA; rw [Try.underlying54]; simp [szBitsQ]
theorem rfld1 (i o c : Nat) : fieldAddrA Try.prog 54 (.pointer (some ⟨i, o, some c⟩)) 1 = some (.pointer (some ⟨i, o + 1, some c⟩)) := by
  unfold fieldAddrA; rw [Try.underlying54]; simp [szInt]
theorem rfld2 (i o c : Nat) : fieldAddrA Try.prog 54 (.pointer (some ⟨i, o, some c⟩)) 2 = some (.pointer (some ⟨i, o + 2, some c⟩)) := by
  unfold fieldAddrA; rw [Try.underlying54]; simp [szSl]
abbrev rptr (j : Nat) : Value := .pointer (some ⟨j, 0, some 4⟩)
structure Rs (base : Nat) (s : ASt) (jr jx ic : Nat) (D : List UInt8) (p : Nat) (P : List UInt8) (M : Int) (o : Value) : Prop where
  bit : BitIs base s jx ic D p
  t : Thing s jr [xptr jx, .int .i64 M, o]
  own : Own s 1 o P.length (ofBytes P)
  fresh : Fresh base o
  nr : idOf o ≠ some jr
  nx : idOf o ≠ some jx
  nc : idOf o ≠ some ic
  rx : jr ≠ jx
  rc : jr ≠ ic
  lr : base ≤ jr
/-- A reader's blocks alone turned. -/
structure RTo (jr jx ic : Nat) (o : Value) (s : ASt) (o' : Value) (s' : ASt) : Prop where
  next : s.next ≤ s'.next
  get : ∀ i, i < s.next → i ≠ jr → i ≠ jx → i ≠ ic → idOf o ≠ some i → s'.heap.get i = s.heap.get i
  id : idOf o' = idOf o ∨ ∃ i, idOf o' = some i ∧ s.next ≤ i
theorem RTo.refl (jr jx ic : Nat) (o : Value) (s : ASt) : RTo jr jx ic o s o s := ⟨Nat.le_refl _, fun _ _ _ _ _ _ => rfl, .inl rfl⟩
theorem RTo.trans {jr jx ic : Nat} {o o' o'' : Value} {s s' s'' : ASt} (h : RTo jr jx ic o s o' s') (k : RTo jr jx ic o' s' o'' s'') : RTo jr jx ic o s o'' s'' := by
  refine ⟨Nat.le_trans h.next k.next, fun i hi h1 h2 h4 h3 => ?_, ?_⟩
  · rw [k.get i (Nat.lt_of_lt_of_le hi h.next) h1 h2 h4 ?_, h.get i hi h1 h2 h4 h3]
    rcases h.id with e | ⟨q, e, hq⟩
    · rw [e]; exact h3
    · rw [e]; intro q2; injection q2 with q2; omega
  · rcases k.id with e | ⟨q, e, hq⟩
    · rcases h.id with e2 | ⟨q, e2, hq⟩
      · exact .inl (by rw [e, e2])
      · exact .inr ⟨q, by rw [e, e2], hq⟩
    · exact .inr ⟨q, e, Nat.le_trans h.next hq⟩
theorem RTo.stay {jr jx ic base : Nat} {o o' : Value} {s s' : ASt} (h : RTo jr jx ic o s o' s') (h1 : base ≤ jr) (h2 : base ≤ jx) (h4 : base ≤ ic) (h3 : Fresh base o) (hb : base ≤ s.next) : Stay base s s' :=
  ⟨h.next, fun i hi => h.get i (by omega) (by omega) (by omega) (by omega) (fun e => by have := h3 i e; omega)⟩
theorem btoR {jr jx ic : Nat} {o : Value} {s s' : ASt} (h : BTo jx ic s s') : RTo jr jx ic o s o s' := ⟨h.next, fun i hi _ h2 h4 _ => h.get i hi h2 h4, .inl rfl⟩
theorem RTo.kept {jr jx ic : Nat} {o o' : Value} {s t t' : ASt} (h : RTo jr jx ic o s o' t) (k : Stay t.next t t') : RTo jr jx ic o s o' t' :=
  ⟨Nat.le_trans h.next k.next, fun i hi h1 h2 h4 h3 => (k.get i (Nat.lt_of_lt_of_le hi h.next)).trans (h.get i hi h1 h2 h4 h3), h.id⟩
theorem thingTo {s s' : ASt} {i : Nat} {cs : List Value} (h : Thing s i cs) (hn : s.next ≤ s'.next) (hg : s'.heap.get i = s.heap.get i) : Thing s' i cs := by
  obtain ⟨i1, low, z, i2, i3⟩ := h
  exact ⟨Nat.lt_of_lt_of_le i1 hn, low, z, by simp only [ASt.blk?, hg]; exact i2, i3⟩
theorem ownTo {s s' : ASt} {z : Nat} {v : Value} {n : Nat} {L : List Value} (h : Own s z v n L) (hn : s.next ≤ s'.next) (hs : ∀ i, idOf v = some i → i < s.next → s'.heap.get i = s.heap.get i) : Own s' z v n L := by
  cases h with
  | nil => exact .nil
  | of i n low l hi hb hl hlen =>
    refine .of i _ low _ (Nat.lt_of_lt_of_le hi hn) ?_ hl hlen
    simp only [ASt.blk?, hs i rfl hi]; exact hb
/-- Its bits moved on. -/
theorem Rs.bits {base : Nat} {s s' : ASt} {jr jx ic : Nat} {D P : List UInt8} {p p' : Nat} {M : Int} {o : Value} (h : Rs base s jr jx ic D p P M o) (hB : BitIs base s' jx ic D p') (k : BTo jx ic s s') : Rs base s' jr jx ic D p' P M o :=
  ⟨hB, thingTo h.t k.next (k.get jr h.t.lt h.rx h.rc), ownTo h.own k.next (fun i hi hl => k.get i hl (fun e => h.nx (by rw [hi, e])) (fun e => h.nc (by rw [hi, e]))), h.fresh, h.nr, h.nx, h.nc, h.rx, h.rc, h.lr⟩
theorem Rs.keeps {base : Nat} {s s' : ASt} {jr jx ic : Nat} {D P : List UInt8} {p : Nat} {M : Int} {o : Value} (h : Rs base s jr jx ic D p P M o) (hb : base ≤ s.next) (k : Stay s.next s s') : Rs base s' jr jx ic D p P M o :=
  ⟨h.bit.keeps hb k, h.t.keeps k, h.own.keeps k, h.fresh, h.nr, h.nx, h.nc, h.rx, h.rc, h.lr⟩
theorem Syms.rto {jr jx ic : Nat} {o o' : Value} {s s' : ASt} {sv : Value} {C : List Nat} (h : Syms jx ic s sv C) (hr : ∀ i, idOf sv = some i → i ≠ jr ∧ idOf o ≠ some i) (k : RTo jr jx ic o s o' s') : Syms jx ic s' sv C :=
  ⟨seesTo h.1 k.next (fun i hi hl => k.get i hl (hr i hi).1 (h.2 i hi).2.1 (h.2 i hi).2.2 (hr i hi).2), fun i hi => ⟨Nat.lt_of_lt_of_le (h.2 i hi).1 k.next, (h.2 i hi).2⟩⟩
/-- What comes of reading. -/
def OutP (base jr jx ic : Nat) (D : List UInt8) (M : Int) (o : Value) (s : ASt) (v : Value) (s' : ASt) : Except Nat (Nat × List UInt8) → Prop
  | .ok (q, P) => v = .int .i64 0 ∧ ∃ o', Rs base s' jr jx ic D q P M o' ∧ RTo jr jx ic o s o' s'
  | .error e => 0 < e ∧ v = .int .i64 (e : Nat) ∧ Stay base s s'
set_option maxHeartbeats 4000000 in
theorem putP_any {lib : Prims} (hL : NoL lib) (base : Nat) (s : ASt) (jr jx ic : Nat) (D P : List UInt8) (p m : Nat) (M : Int) (hM : m = M.toNat) (c : UInt8) (o : Value) (h : Rs base s jr jx ic D p P M o) (hb : base ≤ s.next) (hPl : P.length ≤ 100000000) :
    Runs Try.prog lib 65 [rptr jr, .int .u8 c.toNat] s fun v s' => OutP base jr jx ic D M o s v s' (if m ≤ P.length then .error 7 else .ok (p, P ++ [c])) := by
  have hbl := h.bit.lt
  refine Runs.enter 25 Try.func65 rfl (hL _ rfl) rfl rfl ?_
  intro f hn hf
  have h0 : f.get 0 = rptr jr := hf 0
  have h1 : f.get 1 = .int .u8 c.toNat := hf 1
  clear hf
  have r0 := h.t.load (P := Try.prog) agBitsQ (off := 0) (c := 4) rfl (by simp)
  have r1 := h.t.load (P := Try.prog) agInt (off := 1) (c := 4) rfl (by simp)
  have r2 := h.t.load (P := Try.prog) agSl (off := 2) (c := 4) rfl (by simp)
  by_cases cm : m ≤ P.length
  · have c1 : (P.length : Int) ≥ M := by omega
    simp (config := { maxSteps := 1000000, implicitDefEqProofs := false }) (disch := omega) only [allW, allR, wfn_ret, oneOf, evalAll, Nat.reduceLT, Nat.reduceEqDiff, ↓reduceIte, hn, h0, rfld1, rfld2, r1, r2, h.own.sees.lenA Try.underlying22, h.own.self, eq_true c1, Try.results65]
    rw [if_pos cm]
    exact ⟨by decide, rfl, Stay.refl _ _⟩
  have c1 : ¬ (P.length : Int) ≥ M := by omega
  simp (config := { maxSteps := 1000000, implicitDefEqProofs := false }) (disch := omega) only [allW, allR, evalAll, partsA, Nat.reduceLT, Nat.reduceEqDiff, ↓reduceIte, hn, h0, h1, rfld1, rfld2, r1, r2, h.own.sees.lenA Try.underlying22, h.own.self, eq_false c1, build1 Try.underlying22 szU8 zU8]
  refine wstep_append_lit Try.underlying22 szU8 byU8 zU8 rfl h.own (by simp only [get_put, ↓reduceIte, Nat.reduceEqDiff]) (by decide) (by simp only [n_put, hn]; decide) (by simp only [n_put, hn]; decide) (by rfl) (by decide) rfl (by omega) (by omega) h.fresh hb ?_
  intro bs o2 s2 ho2 hF2 hst2 ht2 hid2
  have hne : ∀ j, j < s.next → idOf o ≠ some j → idOf o2 ≠ some j := fun j hj hne => by
    rcases hid2 with e | ⟨i, e, hi⟩
    · rw [e]; exact hne
    · rw [e]; intro q; injection q with q; omega
  have hnr := hne jr h.t.lt h.nr
  have hnx := hne jx hbl.1 h.nx
  have hnc := hne ic hbl.2.1 h.nc
  have hr2 := h.t.turns ht2 h.nr
  simp (config := { maxSteps := 1000000, implicitDefEqProofs := false }) (disch := omega) only [allW, Nat.reduceLT, Nat.reduceEqDiff, ↓reduceIte, hn, rfld2]
  refine wstep_store szSl hr2 rfl (by simp) ho2.sees.okCell ?_
  intro s3 hr3 hn3 hs3
  simp (config := { maxSteps := 1000000, implicitDefEqProofs := false }) (disch := omega) only [allW, wfn_ret, oneOf, Nat.reduceLT, ↓reduceIte, hn, Try.results65]
  rw [if_neg cm]
  have hst3 := hst2.trans (Stay.ofPut hn3 hs3 h.lr)
  obtain ⟨q, now, left, hB, h7⟩ := h.bit
  have hB3 : BitIs base s3 jx ic D p := by
    have hb2 : base ≤ s2.next := Nat.le_trans hb hst2.next
    have c2 := (hB.c.turns hb h.fresh ht2 h.nc).turns hb2 (fresh_cptr h.lr) (Turns.ofPut (i := jr) (o := 0) (c := some 3) hn3 hs3) (cptr_ne h.rc)
    exact ⟨q, now, left, ⟨c2, (hB.t.turns ht2 h.nx).turns (Turns.ofPut (i := jr) (o := 0) (c := none) hn3 hs3) (fun e => h.rx (by injection e)), hB.e, hB.l8, hB.r, hB.now, hB.lx, hB.lc, hB.ne⟩, h7⟩
  refine ⟨rfl, o2, ⟨hB3, hr3, ?_, hF2, hnr, hnx, hnc, h.rx, h.rc, h.lr⟩, ⟨by have := ht2.next; omega, fun i hi h1 _ _ h3 => by rw [hs3 i h1, ht2.get i hi h3], hid2⟩⟩
  rw [ofBytes_append, List.length_append]
  exact ho2.ofPut hn3 hs3 hnr
end Go.Proofs.Ytnclklboogdoiaa
