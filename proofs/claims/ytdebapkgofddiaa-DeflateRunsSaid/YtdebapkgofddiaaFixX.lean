/-
  Deflate by the fixed codes: the program's rows that come again, and its block.
-/
import Derived.Test.YtdebapkgofddiaaFixW
set_option linter.unusedSimpArgs false
set_option linter.unusedVariables false
namespace Go.Cl.Fx
open Go.Cl.Rw Go.Cl.Sto
theorem comm_stop {l : List UInt8} {a d n f : Nat} (h : ¬ (a + n < l.length ∧ l.getD (a + n - d) 0 = l.getD (a + n) 0)) : comm l a d n f = n := by
  cases f with
  | zero => rfl
  | succ f => unfold comm; rw [if_neg h]
theorem comm_go {l : List UInt8} {a d n f : Nat} (h : a + n < l.length ∧ l.getD (a + n - d) 0 = l.getD (a + n) 0) : comm l a d n (f + 1) = comm l a d (n + 1) f := by rw [comm, if_pos h]
end Go.Cl.Fx
namespace Go.Proofs.Ytdebapkgofddiaa
open Go.Cl Go.Cl.Rw Go.Cl.Sto Go.Cl.Fx
set_option maxHeartbeats 4000000 in
theorem same1_any {lib : Prims} (hl : lib.at 35 = none) (s : ASt) (x : Value) (l : List UInt8) (hx : Sees s 1 x l.length (ofBytes l)) (hlen : l.length ≤ 1000000000) (a d : Nat) (hd1 : 1 ≤ d) (hda : d ≤ a) (hal : a ≤ l.length) :
    Runs Try.prog lib 35 [x, .int .i64 (a : Int), .int .i64 ((a - d : Nat) : Int)] s fun v s' => v = .int .i64 (com l a d : Nat) ∧ s' = s := by
  refine Runs.enter 36 Try.func35 rfl hl rfl rfl ?_
  intro f hn hf
  have h0 : f.get 0 = x := hf 0
  have h1 : f.get 1 = .int .i64 (a : Int) := hf 1
  have h2 : f.get 2 = .int .i64 ((a - d : Nat) : Int) := hf 2
  clear hf
  simp (config := { maxSteps := 1000000, implicitDefEqProofs := false }) (disch := omega) only [allW, allR, oneOf, evalAll, partsA, optA, Nat.reduceLT, Nat.reduceLeDiff, Nat.reduceEqDiff, Nat.reduceAdd, ↓reduceIte, hn, h0, h1, h2]
  refine Comes.loopOut (fun q f s' => ∃ k : Nat, q = 258 - k ∧ k ≤ 258 ∧ a + k ≤ l.length ∧ com l a d = comm l a d k (258 - k) ∧ s' = s ∧ f.n = 36 ∧ f.get 0 = x ∧ f.get 1 = .int .i64 (a : Int) ∧ f.get 2 = .int .i64 ((a - d : Nat) : Int) ∧ f.get 7 = .int .i64 (k : Nat))
    (fun z f s' => z = .exit 0 ∧ s' = s ∧ f.n = 36 ∧ f.get 7 = .int .i64 (com l a d : Nat))
    ⟨0, rfl, by omega, hal, rfl, rfl, by simp only [get_put, n_put, ↓reduceIte, Nat.reduceEqDiff, hn], by simp only [get_put, n_put, ↓reduceIte, Nat.reduceEqDiff, h0], by simp only [get_put, n_put, ↓reduceIte, Nat.reduceEqDiff, h1], by simp only [get_put, n_put, ↓reduceIte, Nat.reduceEqDiff, h2], by simp only [get_put, n_put, ↓reduceIte, Nat.reduceEqDiff]; rfl⟩ ?_ ?_
  · clear hn h0 h1 h2 f
    rintro Q hQ q f s' ⟨k, rfl, hk, hak, hc, rfl, hn, h0, h1, h2, h7⟩
    have e2 : (a : Int) + (k : Int) = ((a + k : Nat) : Int) := by omega
    have e1 : ((a - d : Nat) : Int) + (k : Int) = ((a + k - d : Nat) : Int) := by omega
    by_cases c1 : k < 258
    rotate_left
    · obtain rfl : k = 258 := by omega
      have d1 : ¬ ((258 : Nat) : Int) < 258 := by omega
      simp (config := { maxSteps := 1000000, implicitDefEqProofs := false }) (disch := omega) only [allW, allR, oneOf, evalAll, partsA, optA, Nat.reduceLT, Nat.reduceLeDiff, Nat.reduceEqDiff, Nat.reduceAdd, ↓reduceIte, undef, hn, h0, h1, h2, h7, eq_false d1, decide_false]
      exact hQ _ _ _ ⟨rfl, rfl, by simp only [get_put, n_put, ↓reduceIte, Nat.reduceEqDiff, hn], by simp only [get_put, n_put, ↓reduceIte, Nat.reduceEqDiff, h7]; rw [hc]; rfl⟩
    have d1 : (k : Int) < 258 := by omega
    by_cases c2 : a + k < l.length
    rotate_left
    · have d2 : ¬ ((a + k : Nat) : Int) < (l.length : Int) := by omega
      have hcs := comm_stop (l := l) (a := a) (d := d) (n := k) (f := 258 - k) (fun h => c2 h.1)
      simp (config := { maxSteps := 1000000, implicitDefEqProofs := false }) (disch := omega) only [allW, allR, oneOf, evalAll, partsA, optA, Nat.reduceLT, Nat.reduceLeDiff, Nat.reduceEqDiff, Nat.reduceAdd, ↓reduceIte, undef, hn, h0, h1, h2, h7, eq_true d1, decide_true, e2, wrapI, hx.lenA Try.underlying24, hx.self, eq_false d2, decide_false]
      exact hQ _ _ _ ⟨rfl, rfl, by simp only [get_put, n_put, ↓reduceIte, Nat.reduceEqDiff, hn], by simp only [get_put, n_put, ↓reduceIte, Nat.reduceEqDiff, h7]; rw [hc, hcs]⟩
    have d2 : ((a + k : Nat) : Int) < (l.length : Int) := by omega
    have hlt : a + k - d < l.length := by omega
    have hi1 := hx.indexAddr (P := Try.prog) (k := .i64) (x := ((a + k : Nat) : Int)) Try.underlying24 szU8 (by omega) (by omega)
    have hi2 := hx.indexAddr (P := Try.prog) (k := .i64) (x := ((a + k - d : Nat) : Int)) Try.underlying24 szU8 (by omega) (by omega)
    rw [Int.toNat_natCast] at hi1 hi2
    have k1 := hx.load1 (P := Try.prog) agU8 c2
    have k2 := hx.load1 (P := Try.prog) agU8 hlt
    rw [ofBytes_getD c2] at k1
    rw [ofBytes_getD hlt] at k2
    by_cases c3 : l.getD (a + k - d) 0 = l.getD (a + k) 0
    · have hcs := comm_go (l := l) (a := a) (d := d) (n := k) (f := 258 - (k + 1)) ⟨c2, c3⟩
      rw [show 258 - (k + 1) + 1 = 258 - k by omega] at hcs
      rw [c3] at k2
      simp (config := { maxSteps := 1000000, implicitDefEqProofs := false }) (disch := omega) only [allW, allR, oneOf, evalAll, partsA, optA, Nat.reduceLT, Nat.reduceLeDiff, Nat.reduceEqDiff, Nat.reduceAdd, ↓reduceIte, undef, hn, h0, h1, h2, h7, eq_true d1, decide_true, e2, e1, wrapI, hx.lenA Try.underlying24, hx.self, eq_true d2, hi1, hi2, k1, k2, valEq_int, valEq_elemPtr]
      exact wround_next (258 - (k + 1)) (by omega) ⟨k + 1, rfl, by omega, by omega, by rw [hc, hcs], rfl, by simp only [get_put, n_put, ↓reduceIte, Nat.reduceEqDiff, hn], by simp only [get_put, n_put, ↓reduceIte, Nat.reduceEqDiff, h0], by simp only [get_put, n_put, ↓reduceIte, Nat.reduceEqDiff, h1], by simp only [get_put, n_put, ↓reduceIte, Nat.reduceEqDiff, h2], by simp only [get_put, n_put, ↓reduceIte, Nat.reduceEqDiff]; rfl⟩
    · have d3 : ¬ ((l.getD (a + k - d) 0).toNat : Int) = ((l.getD (a + k) 0).toNat : Int) := fun e => c3 (UInt8.toNat_inj.1 (by omega))
      have d4 : ¬ ((l.getD (a + k) 0).toNat : Int) = ((l.getD (a + k - d) 0).toNat : Int) := fun e => d3 e.symm
      have hcs := comm_stop (l := l) (a := a) (d := d) (n := k) (f := 258 - k) (fun h => c3 h.2)
      simp (config := { maxSteps := 1000000, implicitDefEqProofs := false }) (disch := omega) only [allW, allR, oneOf, evalAll, partsA, optA, Nat.reduceLT, Nat.reduceLeDiff, Nat.reduceEqDiff, Nat.reduceAdd, ↓reduceIte, undef, hn, h0, h1, h2, h7, eq_true d1, decide_true, e2, e1, wrapI, hx.lenA Try.underlying24, hx.self, eq_true d2, hi1, hi2, k1, k2, eq_false d3, eq_false d4, decide_false, valEq_int, valEq_elemPtr]
      exact hQ _ _ _ ⟨rfl, rfl, by simp only [get_put, n_put, ↓reduceIte, Nat.reduceEqDiff, hn], by simp only [get_put, n_put, ↓reduceIte, Nat.reduceEqDiff, h7]; rw [hc, hcs]⟩
  clear hn h0 h1 h2 f
  rintro z f s' ⟨rfl, rfl, hn, h7⟩
  simp (config := { maxSteps := 1000000, implicitDefEqProofs := false }) (disch := omega) only [allW, allR, wfn_ret, wfn_normal, oneOf, evalAll, partsA, optA, Nat.reduceLT, Nat.reduceLeDiff, Nat.reduceEqDiff, Nat.reduceAdd, ↓reduceIte, hn, h7, Try.results35]
  try exact ⟨rfl, rfl⟩
set_option maxHeartbeats 4000000 in
theorem alike_any {lib : Prims} (hl : lib.at 39 = none) (s : ASt) (x : Value) (l : List UInt8) (hx : Sees s 1 x l.length (ofBytes l)) (hlen : l.length ≤ 1000000000) (a d : Nat) (hd1 : 1 ≤ d) (hda : d ≤ a) (hal : a ≤ l.length) :
    Runs Try.prog lib 39 [x, .int .i64 (a : Int), .int .i64 (d : Int)] s fun v s' => v = .int .i64 (com l a d : Nat) ∧ s' = s := by
  refine Runs.enter 38 Try.func39 rfl hl rfl rfl ?_
  intro f hn hf
  have h0 : f.get 0 = x := hf 0
  have h1 : f.get 1 = .int .i64 (a : Int) := hf 1
  have h2 : f.get 2 = .int .i64 (d : Int) := hf 2
  clear hf
  simp (config := { maxSteps := 1000000, implicitDefEqProofs := false }) (disch := omega) only [allW, allR, oneOf, evalAll, partsA, optA, Nat.reduceLT, Nat.reduceLeDiff, Nat.reduceEqDiff, Nat.reduceAdd, ↓reduceIte, hn, h0, h1, h2]
  refine Comes.loopOut (fun q f s' => ∃ k : Nat, q = 258 - k ∧ k ≤ 258 ∧ a + k ≤ l.length ∧ com l a d = comm l a d k (258 - k) ∧ s' = s ∧ f.n = 38 ∧ f.get 0 = x ∧ f.get 1 = .int .i64 (a : Int) ∧ f.get 2 = .int .i64 (d : Int) ∧ f.get 7 = .int .i64 (k : Nat))
    (fun z f s' => z = .exit 0 ∧ s' = s ∧ f.n = 38 ∧ f.get 7 = .int .i64 (com l a d : Nat))
    ⟨0, rfl, by omega, hal, rfl, rfl, by simp only [get_put, n_put, ↓reduceIte, Nat.reduceEqDiff, hn], by simp only [get_put, n_put, ↓reduceIte, Nat.reduceEqDiff, h0], by simp only [get_put, n_put, ↓reduceIte, Nat.reduceEqDiff, h1], by simp only [get_put, n_put, ↓reduceIte, Nat.reduceEqDiff, h2], by simp only [get_put, n_put, ↓reduceIte, Nat.reduceEqDiff]; rfl⟩ ?_ ?_
  · clear hn h0 h1 h2 f
    rintro Q hQ q f s' ⟨k, rfl, hk, hak, hc, rfl, hn, h0, h1, h2, h7⟩
    have e2 : (a : Int) + (k : Int) = ((a + k : Nat) : Int) := by omega
    have e1 : ((a + k : Nat) : Int) - (d : Int) = ((a + k - d : Nat) : Int) := by omega
    by_cases c1 : k < 258
    rotate_left
    · obtain rfl : k = 258 := by omega
      have d1 : ¬ ((258 : Nat) : Int) < 258 := by omega
      simp (config := { maxSteps := 1000000, implicitDefEqProofs := false }) (disch := omega) only [allW, allR, oneOf, evalAll, partsA, optA, Nat.reduceLT, Nat.reduceLeDiff, Nat.reduceEqDiff, Nat.reduceAdd, ↓reduceIte, undef, hn, h0, h1, h2, h7, eq_false d1, decide_false]
      exact hQ _ _ _ ⟨rfl, rfl, by simp only [get_put, n_put, ↓reduceIte, Nat.reduceEqDiff, hn], by simp only [get_put, n_put, ↓reduceIte, Nat.reduceEqDiff, h7]; rw [hc]; rfl⟩
    have d1 : (k : Int) < 258 := by omega
    by_cases c2 : a + k < l.length
    rotate_left
    · have d2 : ¬ ((a + k : Nat) : Int) < (l.length : Int) := by omega
      have hcs := comm_stop (l := l) (a := a) (d := d) (n := k) (f := 258 - k) (fun h => c2 h.1)
      simp (config := { maxSteps := 1000000, implicitDefEqProofs := false }) (disch := omega) only [allW, allR, oneOf, evalAll, partsA, optA, Nat.reduceLT, Nat.reduceLeDiff, Nat.reduceEqDiff, Nat.reduceAdd, ↓reduceIte, undef, hn, h0, h1, h2, h7, eq_true d1, decide_true, e2, wrapI, hx.lenA Try.underlying24, hx.self, eq_false d2, decide_false]
      exact hQ _ _ _ ⟨rfl, rfl, by simp only [get_put, n_put, ↓reduceIte, Nat.reduceEqDiff, hn], by simp only [get_put, n_put, ↓reduceIte, Nat.reduceEqDiff, h7]; rw [hc, hcs]⟩
    have d2 : ((a + k : Nat) : Int) < (l.length : Int) := by omega
    have hlt : a + k - d < l.length := by omega
    have hi1 := hx.indexAddr (P := Try.prog) (k := .i64) (x := ((a + k : Nat) : Int)) Try.underlying24 szU8 (by omega) (by omega)
    have hi2 := hx.indexAddr (P := Try.prog) (k := .i64) (x := ((a + k - d : Nat) : Int)) Try.underlying24 szU8 (by omega) (by omega)
    rw [Int.toNat_natCast] at hi1 hi2
    have k1 := hx.load1 (P := Try.prog) agU8 c2
    have k2 := hx.load1 (P := Try.prog) agU8 hlt
    rw [ofBytes_getD c2] at k1
    rw [ofBytes_getD hlt] at k2
    by_cases c3 : l.getD (a + k - d) 0 = l.getD (a + k) 0
    · have hcs := comm_go (l := l) (a := a) (d := d) (n := k) (f := 258 - (k + 1)) ⟨c2, c3⟩
      rw [show 258 - (k + 1) + 1 = 258 - k by omega] at hcs
      rw [c3] at k2
      simp (config := { maxSteps := 1000000, implicitDefEqProofs := false }) (disch := omega) only [allW, allR, oneOf, evalAll, partsA, optA, Nat.reduceLT, Nat.reduceLeDiff, Nat.reduceEqDiff, Nat.reduceAdd, ↓reduceIte, undef, hn, h0, h1, h2, h7, eq_true d1, decide_true, e2, e1, wrapI, hx.lenA Try.underlying24, hx.self, eq_true d2, hi1, hi2, k1, k2, valEq_int, valEq_elemPtr]
      exact wround_next (258 - (k + 1)) (by omega) ⟨k + 1, rfl, by omega, by omega, by rw [hc, hcs], rfl, by simp only [get_put, n_put, ↓reduceIte, Nat.reduceEqDiff, hn], by simp only [get_put, n_put, ↓reduceIte, Nat.reduceEqDiff, h0], by simp only [get_put, n_put, ↓reduceIte, Nat.reduceEqDiff, h1], by simp only [get_put, n_put, ↓reduceIte, Nat.reduceEqDiff, h2], by simp only [get_put, n_put, ↓reduceIte, Nat.reduceEqDiff]; rfl⟩
    · have d3 : ¬ ((l.getD (a + k - d) 0).toNat : Int) = ((l.getD (a + k) 0).toNat : Int) := fun e => c3 (UInt8.toNat_inj.1 (by omega))
      have d4 : ¬ ((l.getD (a + k) 0).toNat : Int) = ((l.getD (a + k - d) 0).toNat : Int) := fun e => d3 e.symm
      have hcs := comm_stop (l := l) (a := a) (d := d) (n := k) (f := 258 - k) (fun h => c3 h.2)
      simp (config := { maxSteps := 1000000, implicitDefEqProofs := false }) (disch := omega) only [allW, allR, oneOf, evalAll, partsA, optA, Nat.reduceLT, Nat.reduceLeDiff, Nat.reduceEqDiff, Nat.reduceAdd, ↓reduceIte, undef, hn, h0, h1, h2, h7, eq_true d1, decide_true, e2, e1, wrapI, hx.lenA Try.underlying24, hx.self, eq_true d2, hi1, hi2, k1, k2, eq_false d3, eq_false d4, decide_false, valEq_int, valEq_elemPtr]
      exact hQ _ _ _ ⟨rfl, rfl, by simp only [get_put, n_put, ↓reduceIte, Nat.reduceEqDiff, hn], by simp only [get_put, n_put, ↓reduceIte, Nat.reduceEqDiff, h7]; rw [hc, hcs]⟩
  clear hn h0 h1 h2 f
  rintro z f s' ⟨rfl, rfl, hn, h7⟩
  simp (config := { maxSteps := 1000000, implicitDefEqProofs := false }) (disch := omega) only [allW, allR, wfn_ret, wfn_normal, oneOf, evalAll, partsA, optA, Nat.reduceLT, Nat.reduceLeDiff, Nat.reduceEqDiff, Nat.reduceAdd, ↓reduceIte, hn, h7, Try.results39]
  try exact ⟨rfl, rfl⟩
/-- The bytes of a block. -/
def FixedR (s : ASt) (l : List UInt8) (v : Value) (s' : ASt) : Prop := Own s' 1 v (fixed l).length (ofBytes (fixed l)) ∧ Fresh s.next v ∧ Stay s.next s s'
theorem bWr0 : buildA Try.prog 64 [] = some (.agg #[.slice none 0 0, .int .i64 0]) := by kernel_rfl
set_option maxHeartbeats 4000000 in
theorem fixed_any {lib : Prims} (hl : lib.at 19 = none) (hsm : lib.at 35 = none) (hla : lib.at 37 = none) (hlg : lib.at 54 = none) (hls : lib.at 36 = none) (hlc : lib.at 53 = none) (hlp : lib.at 12 = none) (hlb : lib.at 32 = none) (hly : lib.at 17 = none) (hlcl : lib.at 33 = none)
    (s : ASt) (x : Value) (l : List UInt8) (hx : Sees s 1 x l.length (ofBytes l)) (hlen : l.length ≤ 10000000) :
    Runs Try.prog lib 19 [x] s (FixedR s l) := by
  refine Runs.enter 60 Try.func19 rfl hl rfl rfl ?_
  intro f hn hf
  have h0 : f.get 0 = x := hf 0
  clear hf
  simp (config := { maxSteps := 1000000, implicitDefEqProofs := false }) (disch := omega) only [allW, allR, oneOf, evalAll, partsA, optA, Nat.reduceLT, Nat.reduceLeDiff, Nat.reduceEqDiff, Nat.reduceAdd, ↓reduceIte, hn, h0, bWr0]
  refine wstep_newPtr ?_
  intro s1 ht1 hst1 hnx1
  have ht1 : Thing s1 s.next [.slice none 0 0, .int .i64 0] := ht1
  have hr1 : RowAt s.next s1 s.next (.slice none 0 0) ([], 0) := ⟨ht1, .nil, Fresh.nil _, (fun e => by cases e), Nat.le_refl _, ⟨Nat.le_refl _, by decide⟩⟩
  simp (config := { maxSteps := 1000000, implicitDefEqProofs := false }) (disch := omega) only [allW, allR, oneOf, evalAll, partsA, optA, Nat.reduceLT, Nat.reduceLeDiff, Nat.reduceEqDiff, Nat.reduceAdd, ↓reduceIte, hn, h0, wrf0, List.length_cons, List.length_nil]
  refine (put_any hlp hlb s.next s1 s.next (.slice none 0 0) ([], 0) 3 3 hr1 hst1.next (by decide)).mono ?_
  rintro _ s2 ⟨v2, hr2, to2⟩
  have hr2 : RowAt s.next s2 s.next v2 headP := hr2
  have hs2 : Stay s.next s s2 := hst1.trans (to2.stay (Nat.le_refl _) (Fresh.nil _) hst1.next)
  obtain ⟨j, hj⟩ : ∃ j, j = s.next := ⟨_, rfl⟩
  have hF := headP_ok.2
  simp (config := { maxSteps := 1000000, implicitDefEqProofs := false }) (disch := omega) only [allW, allR, oneOf, evalAll, partsA, optA, Nat.reduceLT, Nat.reduceLeDiff, Nat.reduceEqDiff, Nat.reduceAdd, ↓reduceIte, hn, h0]
  refine Comes.loopOut (fun z f t => ∃ (a : Nat) (p : List UInt8 × Nat) (v : Value), z = l.length - a ∧ a ≤ l.length ∧ RowAt s.next t s.next v p ∧ p.2 ≤ 3 + 9 * a ∧ fixA l a p = fixA l 0 headP ∧ Stay s.next s t ∧ f.n = 60 ∧ f.get 0 = x ∧ f.get 3 = qptr s.next ∧ f.get 4 = .int .i64 (a : Nat))
    (fun z f t => z = .exit 0 ∧ ∃ (p : List UInt8 × Nat) (v : Value), RowAt s.next t s.next v p ∧ p.2 ≤ 3 + 9 * l.length ∧ p = fixA l 0 headP ∧ Stay s.next s t ∧ f.n = 60 ∧ f.get 3 = qptr s.next)
    ⟨0, headP, v2, rfl, by omega, hr2, by omega, rfl, hs2, by simp only [get_put, n_put, ↓reduceIte, Nat.reduceEqDiff, hn], by simp only [get_put, n_put, ↓reduceIte, Nat.reduceEqDiff, h0], by simp only [get_put, n_put, ↓reduceIte, Nat.reduceEqDiff], by simp only [get_put, n_put, ↓reduceIte, Nat.reduceEqDiff]; rfl⟩ ?_ ?_
  · clear hn h0 f
    rintro Q hQ z f t ⟨a, p, v, rfl, ha, hr, hp, hfx, hst, hn, h0, h3, h4⟩
    have hxt := hx.keeps hst
    by_cases hlt : a < l.length
    rotate_left
    · obtain rfl : a = l.length := by omega
      have d1 : ¬ ((l.length : Nat) : Int) < ((l.length : Nat) : Int) := by omega
      rw [fixA_end l p (Nat.le_refl _)] at hfx
      simp (config := { maxSteps := 1000000, implicitDefEqProofs := false }) (disch := omega) only [allW, allR, oneOf, evalAll, partsA, optA, Nat.reduceLT, Nat.reduceLeDiff, Nat.reduceEqDiff, Nat.reduceAdd, ↓reduceIte, hn, h0, h3, h4, hxt.lenA Try.underlying24, eq_false d1]
      exact hQ _ _ _ ⟨rfl, p, v, hr, hp, hfx, hst, by simp only [get_put, n_put, ↓reduceIte, Nat.reduceEqDiff, hn], by simp only [get_put, n_put, ↓reduceIte, Nat.reduceEqDiff, h3]⟩
    have d1 : (a : Int) < (l.length : Int) := by omega
    rw [fixA_step l p hlt] at hfx
    simp (config := { maxSteps := 1000000, implicitDefEqProofs := false }) (disch := omega) only [allW, allR, oneOf, evalAll, partsA, optA, Nat.reduceLT, Nat.reduceLeDiff, Nat.reduceEqDiff, Nat.reduceAdd, ↓reduceIte, hn, h0, h3, h4, hxt.lenA Try.underlying24, eq_true d1]
    refine Comes.loopOut (fun z f t' => ∃ k : Nat, z = far a - k ∧ k ≤ far a ∧ t' = t ∧ f.n = 60 ∧ f.get 0 = x ∧ f.get 3 = qptr s.next ∧ f.get 4 = .int .i64 (a : Nat) ∧ f.get 5 = .int .i64 ((best l a k).1 : Nat) ∧ f.get 6 = .int .i64 ((best l a k).2 : Nat) ∧ f.get 7 = .int .i64 ((k : Int) + 1))
      (fun z f t' => z = .exit 2 ∧ t' = t ∧ f.n = 60 ∧ f.get 0 = x ∧ f.get 3 = qptr s.next ∧ f.get 4 = .int .i64 (a : Nat) ∧ f.get 5 = .int .i64 ((best l a (far a)).1 : Nat) ∧ f.get 6 = .int .i64 ((best l a (far a)).2 : Nat))
      ⟨0, rfl, by omega, rfl, by simp only [get_put, n_put, ↓reduceIte, Nat.reduceEqDiff, hn], by simp only [get_put, n_put, ↓reduceIte, Nat.reduceEqDiff, h0], by simp only [get_put, n_put, ↓reduceIte, Nat.reduceEqDiff, h3], by simp only [get_put, n_put, ↓reduceIte, Nat.reduceEqDiff, h4], by simp only [get_put, n_put, ↓reduceIte, Nat.reduceEqDiff]; rfl, by simp only [get_put, n_put, ↓reduceIte, Nat.reduceEqDiff]; rfl, by simp only [get_put, n_put, ↓reduceIte, Nat.reduceEqDiff]; rfl⟩ ?_ ?_
    · clear hn h0 h3 h4 f
      rintro Q2 hQ2 z f t' ⟨k, rfl, hk, rfl, hn, h0, h3, h4, h5, h6, h7⟩
      have hfar : (if (64 : Int) < (a : Int) then (64 : Int) else (a : Int)) = ((far a : Nat) : Int) := by unfold far; split <;> omega
      by_cases hkf : k < far a
      rotate_left
      · obtain rfl : k = far a := by omega
        have d2 : ¬ ((far a : Nat) : Int) + 1 ≤ ((far a : Nat) : Int) := by omega
        simp (config := { maxSteps := 1000000, implicitDefEqProofs := false }) (disch := omega) only [allW, allR, oneOf, evalAll, partsA, optA, Nat.reduceLT, Nat.reduceLeDiff, Nat.reduceEqDiff, Nat.reduceAdd, ↓reduceIte, hn, h0, h3, h4, h5, h6, h7, hfar, eq_false d2]
        exact hQ2 _ _ _ ⟨rfl, rfl, by simp only [get_put, n_put, ↓reduceIte, Nat.reduceEqDiff, hn], by simp only [get_put, n_put, ↓reduceIte, Nat.reduceEqDiff, h0], by simp only [get_put, n_put, ↓reduceIte, Nat.reduceEqDiff, h3], by simp only [get_put, n_put, ↓reduceIte, Nat.reduceEqDiff, h4], by simp only [get_put, n_put, ↓reduceIte, Nat.reduceEqDiff, h5], by simp only [get_put, n_put, ↓reduceIte, Nat.reduceEqDiff, h6]⟩
      have hka : k + 1 ≤ a := by unfold far at hkf; omega
      have d2 : (k : Int) + 1 ≤ ((far a : Nat) : Int) := by omega
      simp (config := { maxSteps := 1000000, implicitDefEqProofs := false }) (disch := omega) only [allW, allR, oneOf, evalAll, partsA, optA, Nat.reduceLT, Nat.reduceLeDiff, Nat.reduceEqDiff, Nat.reduceAdd, ↓reduceIte, hn, h0, h3, h4, h5, h6, h7, hfar, eq_true d2, wrapI]
      rw [show (a : Int) - ((k : Int) + 1) = ((a - (k + 1) : Nat) : Int) by omega]
      refine (same1_any hsm t' x l hxt (by omega) a (k + 1) (by omega) hka ha).mono ?_
      rintro _ t2 ⟨rfl, rfl⟩
      by_cases c : (best l a k).1 < com l a (k + 1)
      · have d3 : ((com l a (k + 1) : Nat) : Int) > ((best l a k).1 : Nat) := by omega
        have hb : best l a (k + 1) = (com l a (k + 1), k + 1) := by rw [best, if_pos c]
        simp (config := { maxSteps := 1000000, implicitDefEqProofs := false }) (disch := omega) only [allW, allR, oneOf, evalAll, partsA, optA, Nat.reduceLT, Nat.reduceLeDiff, Nat.reduceEqDiff, Nat.reduceAdd, ↓reduceIte, hn, h0, h3, h4, h5, h6, h7, eq_true d3, wrapI]
        exact wround_next (far a - (k + 1)) (by omega) ⟨k + 1, rfl, by omega, rfl, by simp only [get_put, n_put, ↓reduceIte, Nat.reduceEqDiff, hn], by simp only [get_put, n_put, ↓reduceIte, Nat.reduceEqDiff, h0], by simp only [get_put, n_put, ↓reduceIte, Nat.reduceEqDiff, h3], by simp only [get_put, n_put, ↓reduceIte, Nat.reduceEqDiff, h4], by simp only [get_put, n_put, ↓reduceIte, Nat.reduceEqDiff]; rw [hb], by simp only [get_put, n_put, ↓reduceIte, Nat.reduceEqDiff]; rw [hb]; rfl, by simp only [get_put, n_put, ↓reduceIte, Nat.reduceEqDiff]; rfl⟩
      · have d3 : ¬ ((com l a (k + 1) : Nat) : Int) > ((best l a k).1 : Nat) := by omega
        have hb : best l a (k + 1) = best l a k := by rw [best, if_neg c]
        simp (config := { maxSteps := 1000000, implicitDefEqProofs := false }) (disch := omega) only [allW, allR, oneOf, evalAll, partsA, optA, Nat.reduceLT, Nat.reduceLeDiff, Nat.reduceEqDiff, Nat.reduceAdd, ↓reduceIte, hn, h0, h3, h4, h5, h6, h7, eq_false d3, wrapI]
        exact wround_next (far a - (k + 1)) (by omega) ⟨k + 1, rfl, by omega, rfl, by simp only [get_put, n_put, ↓reduceIte, Nat.reduceEqDiff, hn], by simp only [get_put, n_put, ↓reduceIte, Nat.reduceEqDiff, h0], by simp only [get_put, n_put, ↓reduceIte, Nat.reduceEqDiff, h3], by simp only [get_put, n_put, ↓reduceIte, Nat.reduceEqDiff, h4], by simp only [get_put, n_put, ↓reduceIte, Nat.reduceEqDiff, h5]; rw [hb], by simp only [get_put, n_put, ↓reduceIte, Nat.reduceEqDiff, h6]; rw [hb], by simp only [get_put, n_put, ↓reduceIte, Nat.reduceEqDiff]; rfl⟩
    clear hn h0 h3 h4 f
    rintro z f t' ⟨rfl, rfl, hn, h0, h3, h4, h5, h6⟩
    have hsl := stepA_le l hlt
    have hsg := stepA_gt l a
    have hpl := stepP_le l a p
    by_cases c3 : (best l a (far a)).1 < 3
    · have d3 : (((best l a (far a)).1 : Nat) : Int) < 3 := by omega
      have eA : stepA l a = a + 1 := by unfold stepA; rw [if_pos c3]
      have eP : stepP l a p = symP p (l.getD a 0).toNat := by unfold stepP; rw [if_pos c3]
      rw [eA, eP] at hfx hpl
      have hi1 := hxt.indexAddr (P := Try.prog) (k := .i64) (x := (a : Int)) Try.underlying24 szU8 (by omega) (by omega)
      rw [Int.toNat_natCast] at hi1
      have k1 := hxt.load1 (P := Try.prog) agU8 hlt
      rw [ofBytes_getD hlt] at k1
      have hc := (l.getD a 0).toNat_lt
      simp (config := { maxSteps := 1000000, implicitDefEqProofs := false }) (disch := omega) only [allW, allR, oneOf, evalAll, partsA, optA, Nat.reduceLT, Nat.reduceLeDiff, Nat.reduceEqDiff, Nat.reduceAdd, ↓reduceIte, hn, h0, h3, h4, h5, h6, eq_true d3, hi1, k1, conv_int Try.underlying5 Try.underlying3, wrapI]
      refine (symbol_any hls hlc hlp hlb s.next t' s.next v p (l.getD a 0).toNat hr hst.next (by omega) (by omega)).mono ?_
      rintro _ t2 ⟨v', hr', to'⟩
      simp (config := { maxSteps := 1000000, implicitDefEqProofs := false }) (disch := omega) only [allW, allR, oneOf, evalAll, partsA, optA, Nat.reduceLT, Nat.reduceLeDiff, Nat.reduceEqDiff, Nat.reduceAdd, ↓reduceIte, hn, h0, h3, h4, h5, h6, wrapI]
      exact wround_next (l.length - (a + 1)) (by omega) ⟨a + 1, _, v', rfl, by omega, hr', by omega, hfx, hst.trans (to'.stay (Nat.le_refl _) hr.fresh hst.next), by simp only [get_put, n_put, ↓reduceIte, Nat.reduceEqDiff, hn], by simp only [get_put, n_put, ↓reduceIte, Nat.reduceEqDiff, h0], by simp only [get_put, n_put, ↓reduceIte, Nat.reduceEqDiff, h3], by simp only [get_put, n_put, ↓reduceIte, Nat.reduceEqDiff]; rfl⟩
    · have hbf := best_far c3
      have d3 : ¬ (((best l a (far a)).1 : Nat) : Int) < 3 := by omega
      have eA : stepA l a = a + (best l a (far a)).1 := by unfold stepA; rw [if_neg c3]
      have eP : stepP l a p = againP p (best l a (far a)).1 (best l a (far a)).2 := by unfold stepP; rw [if_neg c3]
      rw [eA] at hsl hsg
      rw [eA, eP] at hfx hpl
      simp (config := { maxSteps := 1000000, implicitDefEqProofs := false }) (disch := omega) only [allW, allR, oneOf, evalAll, partsA, optA, Nat.reduceLT, Nat.reduceLeDiff, Nat.reduceEqDiff, Nat.reduceAdd, ↓reduceIte, hn, h0, h3, h4, h5, h6, eq_false d3]
      refine (again_any hla hlg hls hlc hlp hlb s.next t' s.next v p _ _ hr hst.next (by omega) hbf.1 hbf.2.1 hbf.2.2.1 hbf.2.2.2.1).mono ?_
      rintro _ t2 ⟨v', hr', to'⟩
      simp (config := { maxSteps := 1000000, implicitDefEqProofs := false }) (disch := omega) only [allW, allR, oneOf, evalAll, partsA, optA, Nat.reduceLT, Nat.reduceLeDiff, Nat.reduceEqDiff, Nat.reduceAdd, ↓reduceIte, hn, h0, h3, h4, h5, h6, wrapI]
      exact wround_next (l.length - (a + (best l a (far a)).1)) (by omega) ⟨a + (best l a (far a)).1, _, v', rfl, by omega, hr', by omega, hfx, hst.trans (to'.stay (Nat.le_refl _) hr.fresh hst.next), by simp only [get_put, n_put, ↓reduceIte, Nat.reduceEqDiff, hn], by simp only [get_put, n_put, ↓reduceIte, Nat.reduceEqDiff, h0], by simp only [get_put, n_put, ↓reduceIte, Nat.reduceEqDiff, h3], by simp only [get_put, n_put, ↓reduceIte, Nat.reduceEqDiff]; rfl⟩
  clear hn h0 f
  rintro z f t ⟨rfl, p, v, hr, hp, hpe, hst, hn, h3⟩
  simp (config := { maxSteps := 1000000, implicitDefEqProofs := false }) (disch := omega) only [allW, allR, oneOf, evalAll, partsA, optA, Nat.reduceLT, Nat.reduceLeDiff, Nat.reduceEqDiff, Nat.reduceAdd, ↓reduceIte, hn, h3]
  refine (symbol_any hls hlc hlp hlb s.next t s.next v p 256 hr hst.next (by omega) (by omega)).mono ?_
  rintro _ t2 ⟨v', hr', to'⟩
  have hst2 := hst.trans (to'.stay (Nat.le_refl _) hr.fresh hst.next)
  simp (config := { maxSteps := 1000000, implicitDefEqProofs := false }) (disch := omega) only [allW, allR, oneOf, evalAll, partsA, optA, Nat.reduceLT, Nat.reduceLeDiff, Nat.reduceEqDiff, Nat.reduceAdd, ↓reduceIte, hn, h3, wrf0]
  have hfl := fixed_length l
  have e : fixed l = (symP p 256).1 := by unfold fixed; rw [fixP_eq, hpe]
  rw [e] at hfl
  refine (bytes_any hly hlcl s.next t2 s.next v' _ hr' (by omega)).mono ?_
  rintro w t3 ⟨ho, hF, hst3⟩
  simp (config := { maxSteps := 1000000, implicitDefEqProofs := false }) (disch := omega) only [allW, allR, wfn_ret, wfn_normal, oneOf, evalAll, partsA, optA, Nat.reduceLT, Nat.reduceLeDiff, Nat.reduceEqDiff, Nat.reduceAdd, ↓reduceIte, hn, h3, Try.results19]
  refine ⟨by rw [e]; exact ho, fun i hi => Nat.le_trans hst2.next (hF i hi), hst2.trans (hst3.weaken hst2.next)⟩
end Go.Proofs.Ytdebapkgofddiaa
