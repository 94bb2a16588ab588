/-
  Deflate by the fixed codes: the reference's tables.
-/
import Derived.Test.YtnclklboogdoiaaFixX
set_option linter.unusedSimpArgs false
set_option linter.unusedVariables false
set_option maxRecDepth 100000
namespace Go.Cl.Fx
open Go.Cl.Rw Go.Cl.Sto
def natsV (L : List Nat) : List Value := L.map fun n : Nat => .int .i64 (n : Int)
theorem natsV_getD {L : List Nat} {i : Nat} (h : i < L.length) : (natsV L).getD i undef = .int .i64 ((L.getD i 0 : Nat) : Int) := by
  simp [natsV, List.getD_eq_getElem?_getD, List.getElem?_map, List.getElem?_eq_getElem h]
theorem natsV_set (L : List Nat) (i n : Nat) : (natsV L).set i (.int .i64 (n : Int)) = natsV (L.set i n) := by simp [natsV, List.map_set]
theorem natsV_rep (n : Nat) : List.replicate n (Value.int .i64 0) = natsV (List.replicate n 0) := by simp [natsV]
def fixL : List Nat := (List.range 288).map fun s => (symC s).2
def fixK : List Nat := (List.range 288).map fun s => (symC s).1
def fixD : List Nat := List.replicate 32 5
theorem fixL_length : fixL.length = 288 := by simp [fixL]
theorem fixK_length : fixK.length = 288 := by simp [fixK]
theorem fixL_at {s : Nat} (h : s < 288) : fixL.getD s 0 = (symC s).2 := by simp [fixL, List.getD_eq_getElem?_getD, List.getElem?_map, List.getElem?_range h]
theorem fixK_at {s : Nat} (h : s < 288) : fixK.getD s 0 = (symC s).1 := by simp [fixK, List.getD_eq_getElem?_getD, List.getElem?_map, List.getElem?_range h]
def rowC (c : List Nat) (l : Nat) : Nat → Nat → List Nat → Nat → List Nat × Nat
  | 0, _, o, n => (o, n)
  | f + 1, i, o, n => if c.getD i 0 = l then rowC c l f (i + 1) (o.set i n) (n + 1) else rowC c l f (i + 1) o n
def tabC (c : List Nat) : Nat → Nat → List Nat → Nat → List Nat
  | 0, _, o, _ => o
  | f + 1, l, o, n => tabC c f (l + 1) (rowC c l c.length 0 o (2 * n)).1 (rowC c l c.length 0 o (2 * n)).2
def codesC (c : List Nat) : List Nat := tabC c 15 1 (List.replicate c.length 0) 0
theorem rowC_snd (c : List Nat) (l : Nat) : ∀ (f i : Nat) (o : List Nat) (n : Nat), (rowC c l f i o n).2 ≤ n + f
  | 0, i, o, n => Nat.le_refl _
  | f + 1, i, o, n => by
    unfold rowC
    split
    · have := rowC_snd c l f (i + 1) (o.set i n) (n + 1); omega
    · have := rowC_snd c l f (i + 1) o n; omega
theorem rowC_len (c : List Nat) (l : Nat) : ∀ (f i : Nat) (o : List Nat) (n : Nat), (rowC c l f i o n).1.length = o.length
  | 0, i, o, n => rfl
  | f + 1, i, o, n => by
    unfold rowC
    split
    · rw [rowC_len c l f]; simp
    · rw [rowC_len c l f]
end Go.Cl.Fx
namespace Go.Cl.Fx
set_option maxRecDepth 100000 in
theorem codes_fixL : codesC fixL = fixK := by decide +kernel
end Go.Cl.Fx
namespace Go.Proofs.Ytnclklboogdoiaa
open Go.Cl Go.Cl.Rw Go.Cl.Sto Go.Cl.Fx
theorem agIntF : isAggB Try.prog 3 = some false := by kernel_rfl
theorem byIntF : bytesB Try.prog 3 = some 8 := by kernel_rfl
theorem zIntF : zeroB Try.prog 3 = some (.int .i64 0) := by kernel_rfl
theorem uIntsF : Try.prog.underlying 63 = some (.slice 3) := Try.underlying63
theorem uCodeF : Try.prog.underlying 64 = some (.slice 3) := Try.underlying64
set_option maxHeartbeats 4000000 in
theorem codes_any {lib : Prims} (hl : lib.at 46 = none) (s : ASt) (x : Value) (c : List Nat) (hx : Sees s 1 x c.length (natsV c)) (hlen : c.length ≤ 300) :
    Runs Try.prog lib 46 [x] s fun v s' => Own s' 1 v c.length (natsV (codesC c)) ∧ (codesC c).length = c.length ∧ Fresh s.next v ∧ Stay s.next s s' := by
  refine Runs.enter 35 Try.func46 rfl hl rfl rfl ?_
  intro f hn hf
  have h0 : f.get 0 = x := hf 0
  clear hf
  simp (config := { maxSteps := 1000000, implicitDefEqProofs := false }) (disch := omega) only [allW, allR, oneOf, evalAll, partsA, optA, Nat.reduceLT, Nat.reduceLeDiff, Nat.reduceEqDiff, Nat.reduceAdd, ↓reduceIte, hn, h0, hx.lenA uCodeF, makeInts uIntsF szInt zIntF byIntF]
  refine wstep_newSlice (by rw [List.length_replicate, Nat.mul_one]) ?_
  intro y s1 hy hyF hst1
  rw [natsV_rep] at hy
  have hn1 := hst1.next
  simp (config := { maxSteps := 1000000, implicitDefEqProofs := false }) (disch := omega) only [allW, allR, oneOf, evalAll, partsA, optA, Nat.reduceLT, Nat.reduceLeDiff, Nat.reduceEqDiff, Nat.reduceAdd, ↓reduceIte, hn, h0]
  refine Comes.loopOut (fun z f t => ∃ (k : Nat) (o : List Nat) (n : Nat), z = 15 - k ∧ k ≤ 15 ∧ o.length = c.length ∧ codesC c = tabC c (15 - k) (k + 1) o n ∧ n + 300 ≤ 300 * 2 ^ k ∧ Own t 1 y c.length (natsV o) ∧ Stay s.next s t ∧ f.n = 35 ∧ f.get 0 = x ∧ f.get 3 = y ∧ f.get 4 = .int .i64 (n : Nat) ∧ f.get 5 = .int .i64 ((k : Int) + 1))
    (fun z f t => z = .exit 0 ∧ Own t 1 y c.length (natsV (codesC c)) ∧ (codesC c).length = c.length ∧ Stay s.next s t ∧ f.n = 35 ∧ f.get 3 = y)
    ⟨0, _, 0, rfl, by omega, by simp, rfl, by simp, hy, hst1, by simp only [get_put, n_put, ↓reduceIte, Nat.reduceEqDiff, hn], by simp only [get_put, n_put, ↓reduceIte, Nat.reduceEqDiff, h0], by simp only [get_put, n_put, ↓reduceIte, Nat.reduceEqDiff], by simp only [get_put, n_put, ↓reduceIte, Nat.reduceEqDiff]; rfl, by simp only [get_put, n_put, ↓reduceIte, Nat.reduceEqDiff]; rfl⟩ ?_ ?_
  · clear hn h0 f hy hst1 hn1
    rintro Q hQ z f t ⟨k, o, n, rfl, hk, ho, hc, hb, hy, hst, hn, h0, h3, h4, h5⟩
    by_cases hlt : k < 15
    rotate_left
    · obtain rfl : k = 15 := by omega
      have d1 : ¬ ((15 : Nat) : Int) + 1 ≤ 15 := by omega
      have e : codesC c = o := hc
      simp (config := { maxSteps := 1000000, implicitDefEqProofs := false }) (disch := omega) only [allW, allR, oneOf, evalAll, partsA, optA, Nat.reduceLT, Nat.reduceLeDiff, Nat.reduceEqDiff, Nat.reduceAdd, ↓reduceIte, hn, h0, h3, h4, h5, eq_false d1]
      exact hQ _ _ _ ⟨rfl, by rw [e]; exact hy, by rw [e]; exact ho, hst, by simp only [get_put, n_put, ↓reduceIte, Nat.reduceEqDiff, hn], by simp only [get_put, n_put, ↓reduceIte, Nat.reduceEqDiff, h3]⟩
    have d1 : (k : Int) + 1 ≤ 15 := by omega
    have hp : 2 ^ k ≤ 2 ^ 15 := Nat.pow_le_pow_right (by omega) (by omega)
    have hp2 : (2 : Nat) ^ 15 = 32768 := by decide
    have hps : 2 ^ (k + 1) = 2 * 2 ^ k := by rw [Nat.pow_succ, Nat.mul_comm]
    have hsh : binA Try.prog .shl 3 (.int .i64 (n : Nat)) (.int .u64 1) = some (.int .i64 ((2 * n : Nat) : Int)) := by
      rw [bin_shl _ _ .i64 _ _ .u64 (by omega)]
      have e : min (1 : Int).toNat IntKind.i64.bits = 1 := by decide
      rw [e, wrapI (by omega)]
      congr 2; omega
    rw [show 15 - k = (15 - (k + 1)) + 1 by omega, tabC] at hc
    have hrs := rowC_snd c (k + 1) c.length 0 o (2 * n)
    have hrl := rowC_len c (k + 1) c.length 0 o (2 * n)
    simp (config := { maxSteps := 1000000, implicitDefEqProofs := false }) (disch := omega) only [allW, allR, oneOf, evalAll, partsA, optA, Nat.reduceLT, Nat.reduceLeDiff, Nat.reduceEqDiff, Nat.reduceAdd, ↓reduceIte, hn, h0, h3, h4, h5, eq_true d1, hsh]
    refine Comes.loopOut (fun z f t' => ∃ (i : Nat) (o1 : List Nat) (n1 : Nat), z = c.length - i ∧ i ≤ c.length ∧ o1.length = c.length ∧ rowC c (k + 1) c.length 0 o (2 * n) = rowC c (k + 1) (c.length - i) i o1 n1 ∧ n1 ≤ 2 * n + i ∧ Own t' 1 y c.length (natsV o1) ∧ Stay s.next s t' ∧ f.n = 35 ∧ f.get 0 = x ∧ f.get 3 = y ∧ f.get 4 = .int .i64 (n1 : Nat) ∧ f.get 5 = .int .i64 ((k : Int) + 1) ∧ f.get 6 = .int .i64 (i : Nat))
      (fun z f t' => z = .exit 2 ∧ Own t' 1 y c.length (natsV (rowC c (k + 1) c.length 0 o (2 * n)).1) ∧ Stay s.next s t' ∧ f.n = 35 ∧ f.get 0 = x ∧ f.get 3 = y ∧ f.get 4 = .int .i64 ((rowC c (k + 1) c.length 0 o (2 * n)).2 : Nat) ∧ f.get 5 = .int .i64 ((k : Int) + 1))
      ⟨0, o, 2 * n, rfl, by omega, ho, rfl, by omega, hy, hst, by simp only [get_put, n_put, ↓reduceIte, Nat.reduceEqDiff, hn], by simp only [get_put, n_put, ↓reduceIte, Nat.reduceEqDiff, h0], by simp only [get_put, n_put, ↓reduceIte, Nat.reduceEqDiff, h3], by simp only [get_put, n_put, ↓reduceIte, Nat.reduceEqDiff], by simp only [get_put, n_put, ↓reduceIte, Nat.reduceEqDiff, h5], by simp only [get_put, n_put, ↓reduceIte, Nat.reduceEqDiff]; rfl⟩ ?_ ?_
    · clear hn h0 h3 h4 h5 f
      rintro Q2 hQ2 z f t' ⟨i, o1, n1, rfl, hi, ho1, hr, hb1, hy1, hst1, hn, h0, h3, h4, h5, h6⟩
      have hx1 := hx.keeps hst1
      by_cases hic : i < c.length
      rotate_left
      · obtain rfl : i = c.length := by omega
        have d2 : ¬ ((c.length : Nat) : Int) < ((c.length : Nat) : Int) := by omega
        rw [Nat.sub_self, rowC] at hr
        simp (config := { maxSteps := 1000000, implicitDefEqProofs := false }) (disch := omega) only [allW, allR, oneOf, evalAll, partsA, optA, Nat.reduceLT, Nat.reduceLeDiff, Nat.reduceEqDiff, Nat.reduceAdd, ↓reduceIte, hn, h0, h3, h4, h5, h6, hx1.lenA uCodeF, eq_false d2]
        exact hQ2 _ _ _ ⟨rfl, by rw [hr]; exact hy1, hst1, by simp only [get_put, n_put, ↓reduceIte, Nat.reduceEqDiff, hn], by simp only [get_put, n_put, ↓reduceIte, Nat.reduceEqDiff, h0], by simp only [get_put, n_put, ↓reduceIte, Nat.reduceEqDiff, h3], by simp only [get_put, n_put, ↓reduceIte, Nat.reduceEqDiff, h4]; rw [hr], by simp only [get_put, n_put, ↓reduceIte, Nat.reduceEqDiff, h5]⟩
      have d2 : (i : Int) < (c.length : Int) := by omega
      have hi1 := hx1.indexAddr (P := Try.prog) (k := .i64) (x := (i : Int)) uCodeF szInt (by omega) (by omega)
      rw [Int.toNat_natCast] at hi1
      have k1 := hx1.load1 (P := Try.prog) agIntF hic
      rw [natsV_getD hic] at k1
      rw [show c.length - i = (c.length - (i + 1)) + 1 by omega, rowC] at hr
      by_cases he : c.getD i 0 = k + 1
      · have d3 : ((c.getD i 0 : Nat) : Int) = (k : Int) + 1 := by omega
        rw [if_pos he] at hr
        have hj1 := hy1.sees.indexAddr (P := Try.prog) (k := .i64) (x := (i : Int)) uIntsF szInt (by omega) (by omega)
        rw [Int.toNat_natCast] at hj1
        simp (config := { maxSteps := 1000000, implicitDefEqProofs := false }) (disch := omega) only [allW, allR, oneOf, evalAll, partsA, optA, Nat.reduceLT, Nat.reduceLeDiff, Nat.reduceEqDiff, Nat.reduceAdd, ↓reduceIte, hn, h0, h3, h4, h5, h6, hx1.lenA uCodeF, eq_true d2, hi1, k1, eq_true d3, hj1]
        refine wstep_storeElem szInt hy1 hic rfl ?_
        intro t2 hy2 ht2
        rw [natsV_set] at hy2
        simp (config := { maxSteps := 1000000, implicitDefEqProofs := false }) (disch := omega) only [allW, allR, oneOf, evalAll, partsA, optA, Nat.reduceLT, Nat.reduceLeDiff, Nat.reduceEqDiff, Nat.reduceAdd, ↓reduceIte, hn, h0, h3, h4, h5, h6, wrapI]
        exact wround_next (c.length - (i + 1)) (by omega) ⟨i + 1, _, n1 + 1, rfl, by omega, by simpa using ho1, hr, by omega, hy2, hst1.trans (ht2.keeps hyF (Nat.le_trans (Nat.le_refl _) hst1.next)), by simp only [get_put, n_put, ↓reduceIte, Nat.reduceEqDiff, hn], by simp only [get_put, n_put, ↓reduceIte, Nat.reduceEqDiff, h0], by simp only [get_put, n_put, ↓reduceIte, Nat.reduceEqDiff, h3], by simp only [get_put, n_put, ↓reduceIte, Nat.reduceEqDiff]; rfl, by simp only [get_put, n_put, ↓reduceIte, Nat.reduceEqDiff, h5], by simp only [get_put, n_put, ↓reduceIte, Nat.reduceEqDiff]; rfl⟩
      · have d3 : ¬ ((c.getD i 0 : Nat) : Int) = (k : Int) + 1 := by omega
        rw [if_neg he] at hr
        simp (config := { maxSteps := 1000000, implicitDefEqProofs := false }) (disch := omega) only [allW, allR, oneOf, evalAll, partsA, optA, Nat.reduceLT, Nat.reduceLeDiff, Nat.reduceEqDiff, Nat.reduceAdd, ↓reduceIte, hn, h0, h3, h4, h5, h6, hx1.lenA uCodeF, eq_true d2, hi1, k1, eq_false d3, wrapI]
        exact wround_next (c.length - (i + 1)) (by omega) ⟨i + 1, o1, n1, rfl, by omega, ho1, hr, by omega, hy1, hst1, by simp only [get_put, n_put, ↓reduceIte, Nat.reduceEqDiff, hn], by simp only [get_put, n_put, ↓reduceIte, Nat.reduceEqDiff, h0], by simp only [get_put, n_put, ↓reduceIte, Nat.reduceEqDiff, h3], by simp only [get_put, n_put, ↓reduceIte, Nat.reduceEqDiff, h4], by simp only [get_put, n_put, ↓reduceIte, Nat.reduceEqDiff, h5], by simp only [get_put, n_put, ↓reduceIte, Nat.reduceEqDiff]; rfl⟩
    clear hn h0 h3 h4 h5 f
    rintro z f t' ⟨rfl, hy1, hst1, hn, h0, h3, h4, h5⟩
    simp (config := { maxSteps := 1000000, implicitDefEqProofs := false }) (disch := omega) only [allW, allR, oneOf, evalAll, partsA, optA, Nat.reduceLT, Nat.reduceLeDiff, Nat.reduceEqDiff, Nat.reduceAdd, ↓reduceIte, hn, h0, h3, h4, h5, wrapI]
    exact wround_next (15 - (k + 1)) (by omega) ⟨k + 1, _, _, rfl, by omega, by rw [hrl]; exact ho, hc, by rw [hps]; omega, hy1, hst1, by simp only [get_put, n_put, ↓reduceIte, Nat.reduceEqDiff, hn], by simp only [get_put, n_put, ↓reduceIte, Nat.reduceEqDiff, h0], by simp only [get_put, n_put, ↓reduceIte, Nat.reduceEqDiff, h3], by simp only [get_put, n_put, ↓reduceIte, Nat.reduceEqDiff, h4], by simp only [get_put, n_put, ↓reduceIte, Nat.reduceEqDiff]; rfl⟩
  clear hn h0 f
  rintro z f t ⟨rfl, hy1, hcl, hst2, hn, h3⟩
  simp (config := { maxSteps := 1000000, implicitDefEqProofs := false }) (disch := omega) only [allW, allR, wfn_ret, wfn_normal, oneOf, evalAll, partsA, optA, Nat.reduceLT, Nat.reduceLeDiff, Nat.reduceEqDiff, Nat.reduceAdd, ↓reduceIte, hn, h3, Try.results46]
  exact ⟨hy1, hcl, hyF, hst2⟩
end Go.Proofs.Ytnclklboogdoiaa
