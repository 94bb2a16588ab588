/-
  Deflate by the fixed codes: the program's rows that come again, and its block.
-/
import Derived.Test.YtnclklboogdoiaaFixW
set_option linter.unusedSimpArgs false
set_option linter.unusedVariables false
set_option maxRecDepth 100000
namespace Go.Cl.Fx
open Go.Cl.Rw Go.Cl.Sto
theorem comm_stop {l : List UInt8} {a d n f : Nat} (h : ¬ (a + n < l.length ∧ l.getD (a + n - d) 0 = l.getD (a + n) 0)) : comm l a d n f = n := by
  cases f with
  | zero => rfl
  | succ f => unfold comm; rw [if_neg h]
theorem comm_go {l : List UInt8} {a d n f : Nat} (h : a + n < l.length ∧ l.getD (a + n - d) 0 = l.getD (a + n) 0) : comm l a d n (f + 1) = comm l a d (n + 1) f := by rw [comm, if_pos h]
end Go.Cl.Fx
namespace Go.Proofs.Ytnclklboogdoiaa
open Go.Cl Go.Cl.Rw Go.Cl.Sto Go.Cl.Fx
set_option maxHeartbeats 4000000 in
theorem alike_any {lib : Prims} (hl : lib.at 47 = none) (s : ASt) (x : Value) (l : List UInt8) (hx : Sees s 1 x l.length (ofBytes l)) (hlen : l.length ≤ 1000000000) (a d : Nat) (hd1 : 1 ≤ d) (hda : d ≤ a) (hal : a ≤ l.length) :
    Runs Try.prog lib 47 [x, .int .i64 (a : Int), .int .i64 (d : Int)] s fun v s' => v = .int .i64 (com l a d : Nat) ∧ s' = s := by
  refine Runs.enter 38 Try.func47 rfl hl rfl rfl ?_
  intro f hn hf
  have h0 : f.get 0 = x := hf 0
  have h1 : f.get 1 = .int .i64 (a : Int) := hf 1
  have h2 : f.get 2 = .int .i64 (d : Int) := hf 2
  clear hf
  simp (config := { maxSteps := 1000000, implicitDefEqProofs := false }) (disch := omega) only [allW, allR, oneOf, evalAll, partsA, optA, Nat.reduceLT, Nat.reduceLeDiff, Nat.reduceEqDiff, Nat.reduceAdd, ↓reduceIte, hn, h0, h1, h2]
  refine Comes.loopOut (fun q f s' => ∃ k : Nat, q = 258 - k ∧ k ≤ 258 ∧ a + k ≤ l.length ∧ com l a d = comm l a d k (258 - k) ∧ s' = s ∧ f.n = 38 ∧ f.get 0 = x ∧ f.get 1 = .int .i64 (a : Int) ∧ f.get 2 = .int .i64 (d : Int) ∧ f.get 7 = .int .i64 (k : Nat))
    (fun z f s' => z = .exit 0 ∧ s' = s ∧ f.n = 38 ∧ f.get 7 = .int .i64 (com l a d : Nat))
    ⟨0, rfl, by omega, hal, rfl, rfl, by simp only [get_put, n_put, ↓reduceIte, Nat.reduceEqDiff, hn], by simp only [get_put, n_put, ↓reduceIte, Nat.reduceEqDiff, h0], by simp only [get_put, n_put, ↓reduceIte, Nat.reduceEqDiff, h1], by simp only [get_put, n_put, ↓reduceIte, Nat.reduceEqDiff, h2], by simp only [get_put, n_put, ↓reduceIte, Nat.reduceEqDiff]; rfl⟩ ?_ ?_
  · clear hn h0 h1 h2 f
    rintro Q hQ q f s' ⟨k, rfl, hk, hak, hc, rfl, hn, h0, h1, h2, h7⟩
    have e2 : (a : Int) + (k : Int) = ((a + k : Nat) : Int) := by omega
    have e1 : ((a + k : Nat) : Int) - (d : Int) = ((a + k - d : Nat) : Int) := by omega
    by_cases c1 : k < 258
    rotate_left
    · obtain rfl : k = 258 := by omega
      have d1 : ¬ ((258 : Nat) : Int) < 258 := by omega
      simp (config := { maxSteps := 1000000, implicitDefEqProofs := false }) (disch := omega) only [allW, allR, oneOf, evalAll, partsA, optA, Nat.reduceLT, Nat.reduceLeDiff, Nat.reduceEqDiff, Nat.reduceAdd, ↓reduceIte, undef, hn, h0, h1, h2, h7, eq_false d1, decide_false]
      exact hQ _ _ _ ⟨rfl, rfl, by simp only [get_put, n_put, ↓reduceIte, Nat.reduceEqDiff, hn], by simp only [get_put, n_put, ↓reduceIte, Nat.reduceEqDiff, h7]; rw [hc]; rfl⟩
    have d1 : (k : Int) < 258 := by omega
    by_cases c2 : a + k < l.length
    rotate_left
    · have d2 : ¬ ((a + k : Nat) : Int) < (l.length : Int) := by omega
      have hcs := comm_stop (l := l) (a := a) (d := d) (n := k) (f := 258 - k) (fun h => c2 h.1)
      simp (config := { maxSteps := 1000000, implicitDefEqProofs := false }) (disch := omega) only [allW, allR, oneOf, evalAll, partsA, optA, Nat.reduceLT, Nat.reduceLeDiff, Nat.reduceEqDiff, Nat.reduceAdd, ↓reduceIte, undef, hn, h0, h1, h2, h7, eq_true d1, decide_true, e2, wrapI, hx.lenA Try.underlying22, hx.self, eq_false d2, decide_false]
      exact hQ _ _ _ ⟨rfl, rfl, by simp only [get_put, n_put, ↓reduceIte, Nat.reduceEqDiff, hn], by simp only [get_put, n_put, ↓reduceIte, Nat.reduceEqDiff, h7]; rw [hc, hcs]⟩
    have d2 : ((a + k : Nat) : Int) < (l.length : Int) := by omega
    have hlt : a + k - d < l.length := by omega
    have hi1 := hx.indexAddr (P := Try.prog) (k := .i64) (x := ((a + k : Nat) : Int)) Try.underlying22 szU8 (by omega) (by omega)
    have hi2 := hx.indexAddr (P := Try.prog) (k := .i64) (x := ((a + k - d : Nat) : Int)) Try.underlying22 szU8 (by omega) (by omega)
    rw [Int.toNat_natCast] at hi1 hi2
    have k1 := hx.load1 (P := Try.prog) agU8 c2
    have k2 := hx.load1 (P := Try.prog) agU8 hlt
    rw [ofBytes_getD c2] at k1
    rw [ofBytes_getD hlt] at k2
    by_cases c3 : l.getD (a + k - d) 0 = l.getD (a + k) 0
    · have hcs := comm_go (l := l) (a := a) (d := d) (n := k) (f := 258 - (k + 1)) ⟨c2, c3⟩
      rw [show 258 - (k + 1) + 1 = 258 - k by omega] at hcs
      rw [c3] at k2
      simp (config := { maxSteps := 1000000, implicitDefEqProofs := false }) (disch := omega) only [allW, allR, oneOf, evalAll, partsA, optA, Nat.reduceLT, Nat.reduceLeDiff, Nat.reduceEqDiff, Nat.reduceAdd, ↓reduceIte, undef, hn, h0, h1, h2, h7, eq_true d1, decide_true, e2, e1, wrapI, hx.lenA Try.underlying22, hx.self, eq_true d2, hi1, hi2, k1, k2, valEq_int, valEq_elemPtr]
      exact wround_next (258 - (k + 1)) (by omega) ⟨k + 1, rfl, by omega, by omega, by rw [hc, hcs], rfl, by simp only [get_put, n_put, ↓reduceIte, Nat.reduceEqDiff, hn], by simp only [get_put, n_put, ↓reduceIte, Nat.reduceEqDiff, h0], by simp only [get_put, n_put, ↓reduceIte, Nat.reduceEqDiff, h1], by simp only [get_put, n_put, ↓reduceIte, Nat.reduceEqDiff, h2], by simp only [get_put, n_put, ↓reduceIte, Nat.reduceEqDiff]; rfl⟩
    · have d3 : ¬ ((l.getD (a + k - d) 0).toNat : Int) = ((l.getD (a + k) 0).toNat : Int) := fun e => c3 (UInt8.toNat_inj.1 (by omega))
      have d4 : ¬ ((l.getD (a + k) 0).toNat : Int) = ((l.getD (a + k - d) 0).toNat : Int) := fun e => d3 e.symm
      have hcs := comm_stop (l := l) (a := a) (d := d) (n := k) (f := 258 - k) (fun h => c3 h.2)
      simp (config := { maxSteps := 1000000, implicitDefEqProofs := false }) (disch := omega) only [allW, allR, oneOf, evalAll, partsA, optA, Nat.reduceLT, Nat.reduceLeDiff, Nat.reduceEqDiff, Nat.reduceAdd, ↓reduceIte, undef, hn, h0, h1, h2, h7, eq_true d1, decide_true, e2, e1, wrapI, hx.lenA Try.underlying22, hx.self, eq_true d2, hi1, hi2, k1, k2, eq_false d3, eq_false d4, decide_false, valEq_int, valEq_elemPtr]
      exact hQ _ _ _ ⟨rfl, rfl, by simp only [get_put, n_put, ↓reduceIte, Nat.reduceEqDiff, hn], by simp only [get_put, n_put, ↓reduceIte, Nat.reduceEqDiff, h7]; rw [hc, hcs]⟩
  clear hn h0 h1 h2 f
  rintro z f s' ⟨rfl, rfl, hn, h7⟩
  simp (config := { maxSteps := 1000000, implicitDefEqProofs := false }) (disch := omega) only [allW, allR, wfn_ret, wfn_normal, oneOf, evalAll, partsA, optA, Nat.reduceLT, Nat.reduceLeDiff, Nat.reduceEqDiff, Nat.reduceAdd, ↓reduceIte, hn, h7, Try.results47]
  try exact ⟨rfl, rfl⟩
def FixedR (s : ASt) (l : List UInt8) (v : Value) (s' : ASt) : Prop := Own s' 1 v (fixed l).length (ofBytes (fixed l)) ∧ Fresh s.next v ∧ Stay s.next s s'
end Go.Proofs.Ytnclklboogdoiaa
