/-
  Deflate by the fixed codes: the program.
-/
import Derived.Test.YtdebapkgofddiaaRow
import Derived.Test.YtdebapkgofddiaaFixP
import Derived.Test.YtdebapkgofddiaaLooseB
set_option linter.unusedSimpArgs false
set_option linter.unusedVariables false
namespace Go.Cl.Fx
open Go.Cl.Rw Go.Cl.Sto
theorem fdivN (n k : Nat) : (n : Int).fdiv (2 ^ k) = ((n / 2 ^ k : Nat) : Int) := by
  rw [Int.fdiv_eq_ediv_of_nonneg _ (by exact Int.pow_nonneg (by omega))]
  norm_cast
theorem shrI (P : Program) (t : TypeId) (k' : IntKind) (n : Nat) {k : Nat} (h : k < 64) : binA P .shr t (.int .i64 (n : Int)) (.int k' (k : Nat)) = some (.int .i64 ((n / 2 ^ k : Nat) : Int)) := by
  rw [shrN P t k' (n : Int) h, fdivN]
theorem andMask {n k : Nat} (hn : n < 4294967296) (hk : k < 32) : IntKind.i64.wrap (((BitVec.ofInt IntKind.i64.bits (n : Int) &&& BitVec.ofInt IntKind.i64.bits (((1 * 2 ^ k : Nat) : Int) - 1)).toNat : Nat) : Int) = ((n % 2 ^ k : Nat) : Int) := by
  have e1 : IntKind.i64.bits = 64 := rfl
  have hp : 2 ^ k ≤ 2 ^ 32 := Nat.pow_le_pow_right (by omega) (by omega)
  have hp2 : (2 : Nat) ^ 32 = 4294967296 := by decide
  have hp1 : 1 ≤ 2 ^ k := Nat.pos_of_ne_zero (by simp)
  have e2 : (((1 * 2 ^ k : Nat) : Int) - 1) = ((2 ^ k - 1 : Nat) : Int) := by omega
  rw [e1, e2]
  have : (BitVec.ofInt 64 (n : Int) &&& BitVec.ofInt 64 ((2 ^ k - 1 : Nat) : Int)).toNat = n % 2 ^ k := by
    rw [BitVec.toNat_and, BitVec.ofInt_natCast, BitVec.ofInt_natCast, BitVec.toNat_ofNat, BitVec.toNat_ofNat, Nat.mod_eq_of_lt (by omega), Nat.mod_eq_of_lt (by omega), Nat.and_two_pow_sub_one_eq_mod]
  rw [this, wrapI (by have := Nat.mod_lt n (show 2 ^ k > 0 by omega); omega)]
theorem gb_zero {f n g : Nat} (h : n < 2 * g) : gb f n g = 0 := by
  cases f with
  | zero => rfl
  | succ f => unfold gb; rw [if_pos h]
theorem gb_succ {f n g : Nat} (h : ¬ n < 2 * g) : gb (f + 1) n g = gb f (n / 2) g + 1 := by rw [gb, if_neg h]
theorem graded_low {n g : Nat} (h : n < 2 * g) : graded n g = (n, 0, 0) := by
  unfold graded
  rw [gb_zero h]
  simp [Nat.mod_one]
theorem wif_cutF {P : Program} {lib : Prims} {cA cB : Code} {f : AFr} {s : ASt} {Q : AX → AFr → ASt → Prop} {b : Bool} (J : AFr → ASt → Prop) (h1 : ∀ Q' : AX → AFr → ASt → Prop, (∀ f' s', J f' s' → Q' .normal f' s') → wif P lib cA cB f s Q' b) (h2 : ∀ f' s', J f' s' → Q .normal f' s') : wif P lib cA cB f s Q b := h1 Q h2
end Go.Cl.Fx
namespace Go.Proofs.Ytdebapkgofddiaa
open Go.Cl Go.Cl.Rw Go.Cl.Sto Go.Cl.Fx
theorem puts_one (p : List UInt8 × Nat) (x : Int) : puts p x 1 = rput p x 1 := by unfold puts; rw [if_neg (by omega)]; rfl
theorem puts_nat (p : List UInt8 × Nat) (x : Nat) {w : Nat} (h : w ≤ 16) : puts p (x : Int) (w : Nat) = putE p x w := by
  unfold puts putE
  by_cases c : w = 0
  · subst c; rw [if_pos (by omega)]; rfl
  · rw [if_neg (by omega), Int.toNat_natCast]
theorem ext0F (a b c : Value) : extractA (.tuple #[a, b, c]) 0 = some a := rfl
theorem ext1F (a b c : Value) : extractA (.tuple #[a, b, c]) 1 = some b := rfl
theorem ext2F (a b c : Value) : extractA (.tuple #[a, b, c]) 2 = some c := rfl
theorem wrf0 (i o c : Nat) : fieldAddrA Try.prog 64 (.pointer (some ⟨i, o, some c⟩)) 0 = some (.pointer (some ⟨i, o + 0, some c⟩)) := by
  kernel_rfl
set_option maxHeartbeats 4000000 in
theorem code_any {lib : Prims} (hl : lib.at 53 = none) (hlp : lib.at 12 = none) (hlb : lib.at 32 = none) (base : Nat) (s : ASt) (j : Nat) (v : Value) (p : List UInt8 × Nat) (n w : Nat) (h : RowAt base s j v p) (hb : base ≤ s.next) (hp : p.2 + w ≤ 1000000000) (hw : w ≤ 16) :
    Runs Try.prog lib 53 [qptr j, .int .i64 (n : Int), .int .i64 (w : Int)] s fun _ s' => Does base j v s (codeP p n w) s' := by
  refine Runs.enter 20 Try.func53 rfl hl rfl rfl ?_
  intro f hn hf
  have h0 : f.get 0 = qptr j := hf 0
  have h1 : f.get 1 = .int .i64 (n : Int) := hf 1
  have h2 : f.get 2 = .int .i64 (w : Int) := hf 2
  clear hf
  simp (config := { maxSteps := 1000000, implicitDefEqProofs := false }) (disch := omega) only [allW, allR, oneOf, evalAll, partsA, optA, Nat.reduceLT, Nat.reduceLeDiff, Nat.reduceEqDiff, Nat.reduceAdd, ↓reduceIte, hn, h0, h1, h2, wrapI]
  refine Comes.loopAt (fun q f s' => ∃ (k : Nat) (p1 : List UInt8 × Nat), q = k ∧ k ≤ w ∧ Does base j v s p1 s' ∧ p1.2 + k = p.2 + w ∧ codeP p1 n k = codeP p n w ∧ f.n = 20 ∧ f.get 0 = qptr j ∧ f.get 1 = .int .i64 (n : Int) ∧ f.get 6 = .int .i64 ((k : Int) - 1))
    ⟨w, p, rfl, by omega, Does.start h, rfl, rfl, by simp only [get_put, n_put, ↓reduceIte, Nat.reduceEqDiff, hn], by simp only [get_put, n_put, ↓reduceIte, Nat.reduceEqDiff, h0], by simp only [get_put, n_put, ↓reduceIte, Nat.reduceEqDiff, h1], by simp only [get_put, n_put, ↓reduceIte, Nat.reduceEqDiff]⟩ ?_
  clear hn h0 h1 h2 f
  rintro k f s1 ⟨_, p1, rfl, hk, ⟨v1, hr1, hto⟩, hsz, hcd, hn, h0, h1, h6⟩
  by_cases hk0 : k = 0
  · subst hk0
    have d1 : ¬ ((0 : Nat) : Int) - 1 ≥ 0 := by omega
    simp (config := { maxSteps := 1000000, implicitDefEqProofs := false }) (disch := omega) only [allW, allR, wfn_ret, wfn_normal, oneOf, evalAll, partsA, optA, Nat.reduceLT, Nat.reduceLeDiff, Nat.reduceEqDiff, Nat.reduceAdd, ↓reduceIte, hn, h0, h1, h6, eq_false d1, Try.results53]
    rw [← hcd]
    exact ⟨v1, hr1, hto⟩
  obtain ⟨m, rfl⟩ : ∃ m, k = m + 1 := ⟨k - 1, by omega⟩
  have e1 : ((m + 1 : Nat) : Int) - 1 = (m : Int) := by omega
  rw [e1] at h6
  have d1 : (m : Int) ≥ 0 := by omega
  simp (config := { maxSteps := 1000000, implicitDefEqProofs := false }) (disch := omega) only [allW, allR, oneOf, evalAll, partsA, optA, Nat.reduceLT, Nat.reduceLeDiff, Nat.reduceEqDiff, Nat.reduceAdd, ↓reduceIte, hn, h0, h1, h6, eq_true d1]
  obtain ⟨B, hB⟩ : ∃ B : Nat → Bool, B = fun j => decide (j < s1.next) := ⟨_, rfl⟩
  have hBl : ∀ j, B j = true → j < s1.next := by
    intro j h
    rw [hB] at h
    exact of_decide_eq_true h
  refine LB.Drawn.looseK B hBl 0 0 (by kernel_rfl) (by kernel_rfl) ?_
  have hsq := Stay.spare s1 0
  have hnq : (spare s1 0).next = s1.next + 0 := spare_next _ _
  simp (config := { maxSteps := 1000000, implicitDefEqProofs := false }) (disch := omega) only [allW, allR, allL, allB, Nat.sub_self, Nat.add_one_sub_one, Nat.reduceSub, oneOf, evalAll, partsA, optA, Nat.reduceLT, Nat.reduceLeDiff, Nat.reduceEqDiff, Nat.reduceAdd, ↓reduceIte, hn, h0, h1, h6, wrf0, shrN, valEq_int]
  refine (put_any hlp hlb base (spare s1 0) j v1 p1 ((n : Int).fdiv (2 ^ m)) 1 (hr1.keeps hsq) (by have := hto.next; omega) (by omega)).mono ?_
  rintro _ s2 ⟨v2, hr2, hto2⟩
  rw [puts_one] at hr2
  refine ⟨fun h => h.elim, ?_⟩
  have hto' : RowTo j v1 s1 v2 s2 := ⟨by have := hto2.next; omega, fun i hi hj hv => by rw [hto2.get i (by omega) hj hv, hsq.get i hi], by
    rcases hto2.id with e | ⟨i, e, hi⟩
    · exact .inl e
    · exact .inr ⟨i, e, by omega⟩⟩
  simp (config := { maxSteps := 1000000, implicitDefEqProofs := false }) (disch := omega) only [allW, allR, allL, allB, Nat.sub_self, Nat.add_one_sub_one, Nat.reduceSub, oneOf, evalAll, partsA, optA, Nat.reduceLT, Nat.reduceLeDiff, Nat.reduceEqDiff, Nat.reduceAdd, ↓reduceIte, allW, allR, oneOf, evalAll, partsA, optA, Nat.reduceLT, Nat.reduceLeDiff, Nat.reduceEqDiff, Nat.reduceAdd, ↓reduceIte, hn, h0, h1, h6, wrapI]
  exact wround_next m (by omega) ⟨m, _, rfl, by omega, ⟨v2, hr2, hto.trans hto'⟩, by rw [rput_snd]; omega, hcd, by simp only [get_put, n_put, ↓reduceIte, Nat.reduceEqDiff, hn], by simp only [get_put, n_put, ↓reduceIte, Nat.reduceEqDiff, h0], by simp only [get_put, n_put, ↓reduceIte, Nat.reduceEqDiff, h1], by simp only [get_put, n_put, ↓reduceIte, Nat.reduceEqDiff]⟩
set_option maxHeartbeats 4000000 in
theorem symbol_any {lib : Prims} (hl : lib.at 36 = none) (hlc : lib.at 53 = none) (hlp : lib.at 12 = none) (hlb : lib.at 32 = none) (base : Nat) (s : ASt) (j : Nat) (v : Value) (p : List UInt8 × Nat) (n : Nat) (h : RowAt base s j v p) (hb : base ≤ s.next) (hp : p.2 ≤ 900000000) (hn : n < 288) :
    Runs Try.prog lib 36 [qptr j, .int .i64 (n : Int)] s fun _ s' => Does base j v s (symP p n) s' := by
  obtain ⟨PP, hPP⟩ : ∃ PP, PP = symP p n := ⟨_, rfl⟩
  have hPP0 := hPP
  rw [← hPP]
  unfold symP symC at hPP
  refine Runs.enter 31 Try.func36 rfl hl rfl rfl ?_
  intro f hn' hf
  have h0 : f.get 0 = qptr j := hf 0
  have h1 : f.get 1 = .int .i64 (n : Int) := hf 1
  clear hf
  by_cases c1 : n < 144
  · have d1 : (n : Int) < 144 := by omega
    rw [if_pos c1] at hPP
    simp (config := { maxSteps := 1000000, implicitDefEqProofs := false }) (disch := omega) only [allW, allR, oneOf, evalAll, partsA, optA, Nat.reduceLT, Nat.reduceLeDiff, Nat.reduceEqDiff, Nat.reduceAdd, ↓reduceIte, hn', h0, h1, eq_true d1, wrapI]
    rw [show (48 : Int) + n = ((48 + n : Nat) : Int) by omega]
    refine (code_any hlc hlp hlb base s j v p (48 + n) 8 h hb (by omega) (by omega)).mono ?_
    intro _ s2 h2
    simp (config := { maxSteps := 1000000, implicitDefEqProofs := false }) (disch := omega) only [allW, allR, wfn_ret, wfn_normal, oneOf, evalAll, partsA, optA, Nat.reduceLT, Nat.reduceLeDiff, Nat.reduceEqDiff, Nat.reduceAdd, ↓reduceIte, hn', h0, h1, Try.results36]
    rw [hPP]; exact h2
  have d1 : ¬ (n : Int) < 144 := by omega
  rw [if_neg c1] at hPP
  by_cases c2 : n < 256
  · have d2 : (n : Int) < 256 := by omega
    rw [if_pos c2] at hPP
    simp (config := { maxSteps := 1000000, implicitDefEqProofs := false }) (disch := omega) only [allW, allR, oneOf, evalAll, partsA, optA, Nat.reduceLT, Nat.reduceLeDiff, Nat.reduceEqDiff, Nat.reduceAdd, ↓reduceIte, hn', h0, h1, eq_false d1, eq_true d2, wrapI]
    rw [show (400 : Int) + n - 144 = ((256 + n : Nat) : Int) by omega]
    refine (code_any hlc hlp hlb base s j v p (256 + n) 9 h hb (by omega) (by omega)).mono ?_
    intro _ s2 h2
    simp (config := { maxSteps := 1000000, implicitDefEqProofs := false }) (disch := omega) only [allW, allR, wfn_ret, wfn_normal, oneOf, evalAll, partsA, optA, Nat.reduceLT, Nat.reduceLeDiff, Nat.reduceEqDiff, Nat.reduceAdd, ↓reduceIte, hn', h0, h1, Try.results36]
    rw [hPP]; exact h2
  have d2 : ¬ (n : Int) < 256 := by omega
  rw [if_neg c2] at hPP
  by_cases c3 : n < 280
  · have d3 : (n : Int) < 280 := by omega
    rw [if_pos c3] at hPP
    simp (config := { maxSteps := 1000000, implicitDefEqProofs := false }) (disch := omega) only [allW, allR, oneOf, evalAll, partsA, optA, Nat.reduceLT, Nat.reduceLeDiff, Nat.reduceEqDiff, Nat.reduceAdd, ↓reduceIte, hn', h0, h1, eq_false d1, eq_false d2, eq_true d3, wrapI]
    rw [show (n : Int) - 256 = ((n - 256 : Nat) : Int) by omega]
    refine (code_any hlc hlp hlb base s j v p (n - 256) 7 h hb (by omega) (by omega)).mono ?_
    intro _ s2 h2
    simp (config := { maxSteps := 1000000, implicitDefEqProofs := false }) (disch := omega) only [allW, allR, wfn_ret, wfn_normal, oneOf, evalAll, partsA, optA, Nat.reduceLT, Nat.reduceLeDiff, Nat.reduceEqDiff, Nat.reduceAdd, ↓reduceIte, hn', h0, h1, Try.results36]
    rw [hPP]; exact h2
  · have d3 : ¬ (n : Int) < 280 := by omega
    rw [if_neg c3] at hPP
    simp (config := { maxSteps := 1000000, implicitDefEqProofs := false }) (disch := omega) only [allW, allR, oneOf, evalAll, partsA, optA, Nat.reduceLT, Nat.reduceLeDiff, Nat.reduceEqDiff, Nat.reduceAdd, ↓reduceIte, hn', h0, h1, eq_false d1, eq_false d2, eq_false d3, wrapI]
    rw [show (192 : Int) + n - 280 = ((n - 88 : Nat) : Int) by omega]
    refine (code_any hlc hlp hlb base s j v p (n - 88) 8 h hb (by omega) (by omega)).mono ?_
    intro _ s2 h2
    simp (config := { maxSteps := 1000000, implicitDefEqProofs := false }) (disch := omega) only [allW, allR, wfn_ret, wfn_normal, oneOf, evalAll, partsA, optA, Nat.reduceLT, Nat.reduceLeDiff, Nat.reduceEqDiff, Nat.reduceAdd, ↓reduceIte, hn', h0, h1, Try.results36]
    rw [hPP]; exact h2
/-- A symbol, what stands behind it, how wide. -/
def Three (s : ASt) (x : Nat × Nat × Nat) (v : Value) (s' : ASt) : Prop := v = .tuple #[.int .i64 (x.1 : Nat), .int .i64 (x.2.1 : Nat), .int .i64 (x.2.2 : Nat)] ∧ s' = s
set_option maxHeartbeats 4000000 in
theorem graded_any {lib : Prims} (hl : lib.at 54 = none) (s : ASt) (n g : Nat) (hg : g = 2 ∨ g = 4) (hn : n < 32768) :
    Runs Try.prog lib 54 [.int .i64 (n : Int), .int .i64 (g : Int)] s (Three s (graded n g)) := by
  refine Runs.enter 37 Try.func54 rfl hl rfl rfl ?_
  intro f hn' hf
  have h0 : f.get 0 = .int .i64 (n : Int) := hf 0
  have h1 : f.get 1 = .int .i64 (g : Int) := hf 1
  clear hf
  have hg8 : 2 ≤ g ∧ g ≤ 4 := by omega
  by_cases c1 : n < 2 * g
  · have d1 : (n : Int) < 2 * g := by omega
    simp (config := { maxSteps := 1000000, implicitDefEqProofs := false }) (disch := omega) only [allW, allR, wfn_ret, wfn_normal, oneOf, evalAll, partsA, optA, Nat.reduceLT, Nat.reduceLeDiff, Nat.reduceEqDiff, Nat.reduceAdd, ↓reduceIte, hn', h0, h1, wrapI, eq_true d1, Try.results54]
    rw [graded_low c1]
    exact ⟨rfl, rfl⟩
  have d1 : ¬ (n : Int) < 2 * g := by omega
  simp (config := { maxSteps := 1000000, implicitDefEqProofs := false }) (disch := omega) only [allW, allR, oneOf, evalAll, partsA, optA, Nat.reduceLT, Nat.reduceLeDiff, Nat.reduceEqDiff, Nat.reduceAdd, ↓reduceIte, hn', h0, h1, wrapI, eq_false d1]
  refine Comes.loopOut (fun q f s' => ∃ k : Nat, q = 16 - k ∧ k ≤ 15 ∧ gb 16 n g = gb (16 - k) (n / 2 ^ k) g + k ∧ s' = s ∧ f.n = 37 ∧ f.get 0 = .int .i64 (n : Int) ∧ f.get 1 = .int .i64 (g : Int) ∧ f.get 7 = .int .i64 (k : Nat))
    (fun z f s' => z = .exit 0 ∧ ∃ k : Nat, k ≤ 15 ∧ gb 16 n g = k ∧ s' = s ∧ f.n = 37 ∧ f.get 0 = .int .i64 (n : Int) ∧ f.get 1 = .int .i64 (g : Int) ∧ f.get 7 = .int .i64 (k : Nat))
    ⟨0, rfl, by omega, by simp, rfl, by simp only [get_put, n_put, ↓reduceIte, Nat.reduceEqDiff, hn'], by simp only [get_put, n_put, ↓reduceIte, Nat.reduceEqDiff, h0], by simp only [get_put, n_put, ↓reduceIte, Nat.reduceEqDiff, h1], by simp only [get_put, n_put, ↓reduceIte, Nat.reduceEqDiff]; rfl⟩ ?_ ?_
  · clear hn' h0 h1 f
    rintro Q hQ q f s' ⟨k, rfl, hk, hgb, rfl, hn', h0, h1, h7⟩
    have hle : n / 2 ^ k ≤ n := Nat.div_le_self _ _
    have hsh := shrI Try.prog 3 .i64 n (k := k) (by omega)
    by_cases c2 : n / 2 ^ k < 2 * g
    · have d2 : ¬ ((n / 2 ^ k : Nat) : Int) ≥ 2 * g := by omega
      rw [gb_zero c2, Nat.zero_add] at hgb
      simp (config := { maxSteps := 1000000, implicitDefEqProofs := false }) (disch := omega) only [allW, allR, oneOf, evalAll, partsA, optA, Nat.reduceLT, Nat.reduceLeDiff, Nat.reduceEqDiff, Nat.reduceAdd, ↓reduceIte, hn', h0, h1, h7, hsh, wrapI, eq_false d2]
      exact hQ _ _ _ ⟨rfl, k, hk, hgb, rfl, by simp only [get_put, n_put, ↓reduceIte, Nat.reduceEqDiff, hn'], by simp only [get_put, n_put, ↓reduceIte, Nat.reduceEqDiff, h0], by simp only [get_put, n_put, ↓reduceIte, Nat.reduceEqDiff, h1], by simp only [get_put, n_put, ↓reduceIte, Nat.reduceEqDiff, h7]⟩
    · have d2 : ((n / 2 ^ k : Nat) : Int) ≥ 2 * g := by omega
      have hk15 : k < 15 := by
        refine Nat.lt_of_not_le (fun h => c2 ?_)
        have : 2 ^ 15 ≤ 2 ^ k := Nat.pow_le_pow_right (by omega) h
        have h2 : n / 2 ^ k = 0 := Nat.div_eq_of_lt (Nat.lt_of_lt_of_le hn this)
        omega
      have hs : gb (16 - k) (n / 2 ^ k) g = gb (16 - (k + 1)) (n / 2 ^ (k + 1)) g + 1 := by
        rw [show 16 - k = (16 - (k + 1)) + 1 by omega, gb_succ c2, Nat.pow_succ, Nat.div_div_eq_div_mul]
      simp (config := { maxSteps := 1000000, implicitDefEqProofs := false }) (disch := omega) only [allW, allR, oneOf, evalAll, partsA, optA, Nat.reduceLT, Nat.reduceLeDiff, Nat.reduceEqDiff, Nat.reduceAdd, ↓reduceIte, hn', h0, h1, h7, hsh, wrapI, eq_true d2]
      exact wround_next (16 - (k + 1)) (by omega) ⟨k + 1, rfl, by omega, by rw [hgb, hs]; omega, rfl, by simp only [get_put, n_put, ↓reduceIte, Nat.reduceEqDiff, hn'], by simp only [get_put, n_put, ↓reduceIte, Nat.reduceEqDiff, h0], by simp only [get_put, n_put, ↓reduceIte, Nat.reduceEqDiff, h1], by simp only [get_put, n_put, ↓reduceIte, Nat.reduceEqDiff]; rfl⟩
  clear hn' h0 h1 f
  rintro z f s' ⟨rfl, k, hk, hgb, rfl, hn', h0, h1, h7⟩
  have hle : n / 2 ^ k ≤ n := Nat.div_le_self _ _
  have hsh := shrI Try.prog 3 .i64 n (k := k) (by omega)
  have hsl := shlI Try.prog 3 .i64 (b := 1) (by omega) (k := k) (by omega)
  have hand := andMask (n := n) (k := k) (by omega) (by omega)
  have hp : 2 ^ k ≤ 32768 := by
    have : 2 ^ k ≤ 2 ^ 15 := Nat.pow_le_pow_right (by omega) hk
    exact this
  have e : graded n g = ((k + 1) * g + n / 2 ^ k - g, n % 2 ^ k, k) := by unfold graded; rw [hgb]
  rw [e]
  have hsl : binA Try.prog .shl 3 (.int .i64 1) (.int .i64 (k : Nat)) = some (.int .i64 ((1 * 2 ^ k : Nat) : Int)) := hsl
  rcases hg with rfl | rfl
  · simp (config := { maxSteps := 1000000, implicitDefEqProofs := false }) (disch := omega) only [allW, allR, wfn_ret, wfn_normal, oneOf, evalAll, partsA, optA, Nat.reduceLT, Nat.reduceLeDiff, Nat.reduceEqDiff, Nat.reduceAdd, ↓reduceIte, hn', h0, h1, h7, hsh, hsl, bin_and, hand, wrapI, Try.results54]
    have e1 : IntKind.i64.wrap (IntKind.i64.wrap (((k : Int) + 1) * ((2 : Nat) : Int) + ((n / 2 ^ k : Nat) : Int)) - ((2 : Nat) : Int)) = (((k + 1) * 2 + n / 2 ^ k - 2 : Nat) : Int) := by
      generalize n / 2 ^ k = q at hle
      rw [show ((2 : Nat) : Int) = 2 from rfl]
      simp (disch := omega) only [wrapI]
      omega
    rw [e1]
    exact ⟨rfl, rfl⟩
  · simp (config := { maxSteps := 1000000, implicitDefEqProofs := false }) (disch := omega) only [allW, allR, wfn_ret, wfn_normal, oneOf, evalAll, partsA, optA, Nat.reduceLT, Nat.reduceLeDiff, Nat.reduceEqDiff, Nat.reduceAdd, ↓reduceIte, hn', h0, h1, h7, hsh, hsl, bin_and, hand, wrapI, Try.results54]
    have e1 : IntKind.i64.wrap (IntKind.i64.wrap (((k : Int) + 1) * ((4 : Nat) : Int) + ((n / 2 ^ k : Nat) : Int)) - ((4 : Nat) : Int)) = (((k + 1) * 4 + n / 2 ^ k - 4 : Nat) : Int) := by
      generalize n / 2 ^ k = q at hle
      rw [show ((4 : Nat) : Int) = 4 from rfl]
      simp (disch := omega) only [wrapI]
      omega
    rw [e1]
    exact ⟨rfl, rfl⟩
set_option maxHeartbeats 4000000 in
theorem again_any {lib : Prims} (hl : lib.at 37 = none) (hlg : lib.at 54 = none) (hls : lib.at 36 = none) (hlc : lib.at 53 = none) (hlp : lib.at 12 = none) (hlb : lib.at 32 = none) (base : Nat) (s : ASt) (j : Nat) (v : Value) (p : List UInt8 × Nat) (n d : Nat) (h : RowAt base s j v p) (hb : base ≤ s.next) (hp : p.2 ≤ 800000000) (hn3 : 3 ≤ n) (hn : n ≤ 258) (hd1 : 1 ≤ d) (hd : d ≤ 64) :
    Runs Try.prog lib 37 [qptr j, .int .i64 (n : Int), .int .i64 (d : Int)] s fun _ s' => Does base j v s (againP p n d) s' := by
  have hls2 := len_small hn3 hn
  have hds := dst_same hd1 hd
  have hsw := symC_snd (lenC n).1
  refine Runs.enter 49 Try.func37 rfl hl rfl rfl ?_
  intro f hn' hf
  have h0 : f.get 0 = qptr j := hf 0
  have h1 : f.get 1 = .int .i64 (n : Int) := hf 1
  have h2 : f.get 2 = .int .i64 (d : Int) := hf 2
  clear hf
  simp (config := { maxSteps := 1000000, implicitDefEqProofs := false }) (disch := omega) only [allW, allR, oneOf, evalAll, partsA, optA, Nat.reduceLT, Nat.reduceLeDiff, Nat.reduceEqDiff, Nat.reduceAdd, ↓reduceIte, hn', h0, h1, h2]
  refine wif_cutF (fun f' s' => Does base j v s (putE (symP p (lenC n).1) (lenC n).2.1 (lenC n).2.2) s' ∧ f'.n = 49 ∧ f'.get 0 = qptr j ∧ f'.get 2 = .int .i64 (d : Int)) ?_ ?_
  · intro Q' hQ'
    by_cases c1 : n = 258
    · have d1 : (n : Int) = 258 := by omega
      simp (config := { maxSteps := 1000000, implicitDefEqProofs := false }) (disch := omega) only [allW, allR, oneOf, evalAll, partsA, optA, Nat.reduceLT, Nat.reduceLeDiff, Nat.reduceEqDiff, Nat.reduceAdd, ↓reduceIte, hn', h0, h1, h2, eq_true d1, decide_true]
      refine (symbol_any hls hlc hlp hlb base s j v p 285 h hb (by omega) (by omega)).mono ?_
      intro _ s2 h2'
      simp (config := { maxSteps := 1000000, implicitDefEqProofs := false }) (disch := omega) only [allW, allR, oneOf, evalAll, partsA, optA, Nat.reduceLT, Nat.reduceLeDiff, Nat.reduceEqDiff, Nat.reduceAdd, ↓reduceIte, hn', h0, h1, h2]
      refine hQ' _ _ ⟨?_, by simp only [get_put, n_put, ↓reduceIte, Nat.reduceEqDiff, hn'], by simp only [get_put, n_put, ↓reduceIte, Nat.reduceEqDiff, h0], by simp only [get_put, n_put, ↓reduceIte, Nat.reduceEqDiff, h2]⟩
      have e : lenC n = (285, 0, 0) := by unfold lenC; rw [if_pos c1]
      rw [e]; exact h2'
    · have d1 : ¬ (n : Int) = 258 := by omega
      simp (config := { maxSteps := 1000000, implicitDefEqProofs := false }) (disch := omega) only [allW, allR, oneOf, evalAll, partsA, optA, Nat.reduceLT, Nat.reduceLeDiff, Nat.reduceEqDiff, Nat.reduceAdd, ↓reduceIte, hn', h0, h1, h2, eq_false d1, decide_false, wrapI]
      rw [show (n : Int) - 3 = ((n - 3 : Nat) : Int) by omega]
      refine (graded_any hlg s (n - 3) 4 (.inr rfl) (by omega)).mono ?_
      rintro _ s2 ⟨rfl, rfl⟩
      have e : lenC n = (257 + (graded (n - 3) 4).1, (graded (n - 3) 4).2) := by unfold lenC; rw [if_neg c1]
      generalize graded (n - 3) 4 = x at e
      obtain ⟨x1, x2, x3⟩ := x
      rw [e] at hls2 hsw hQ'
      simp only at hls2 hsw hQ'
      simp (config := { maxSteps := 1000000, implicitDefEqProofs := false }) (disch := omega) only [allW, allR, oneOf, evalAll, partsA, optA, Nat.reduceLT, Nat.reduceLeDiff, Nat.reduceEqDiff, Nat.reduceAdd, ↓reduceIte, hn', h0, h1, h2, ext0F, ext1F, ext2F, wrapI]
      rw [show (257 : Int) + (x1 : Nat) = ((257 + x1 : Nat) : Int) by omega]
      refine (symbol_any hls hlc hlp hlb base s2 j v p (257 + x1) h hb (by omega) (by omega)).mono ?_
      rintro _ s3 ⟨v3, h3, to3⟩
      simp (config := { maxSteps := 1000000, implicitDefEqProofs := false }) (disch := omega) only [allW, allR, oneOf, evalAll, partsA, optA, Nat.reduceLT, Nat.reduceLeDiff, Nat.reduceEqDiff, Nat.reduceAdd, ↓reduceIte, hn', h0, h1, h2, wrf0]
      refine (put_any hlp hlb base s3 j v3 _ (x2 : Nat) (x3 : Nat) h3 (Nat.le_trans hb to3.next) (by rw [symP_snd]; omega)).mono ?_
      rintro _ s4 ⟨v4, h4, to4⟩
      rw [puts_nat _ _ (by omega)] at h4
      simp (config := { maxSteps := 1000000, implicitDefEqProofs := false }) (disch := omega) only [allW, allR, oneOf, evalAll, partsA, optA, Nat.reduceLT, Nat.reduceLeDiff, Nat.reduceEqDiff, Nat.reduceAdd, ↓reduceIte, hn', h0, h1, h2]
      exact hQ' _ _ ⟨⟨v4, h4, to3.trans to4⟩, by simp only [get_put, n_put, ↓reduceIte, Nat.reduceEqDiff, hn'], by simp only [get_put, n_put, ↓reduceIte, Nat.reduceEqDiff, h0], by simp only [get_put, n_put, ↓reduceIte, Nat.reduceEqDiff, h2]⟩
  clear hn' h0 h1 h2 f
  rintro f s1 ⟨⟨v1, h1, to1⟩, hn', h0, h2⟩
  simp (config := { maxSteps := 1000000, implicitDefEqProofs := false }) (disch := omega) only [allW, allR, oneOf, evalAll, partsA, optA, Nat.reduceLT, Nat.reduceLeDiff, Nat.reduceEqDiff, Nat.reduceAdd, ↓reduceIte, hn', h0, h2, wrapI]
  rw [show (d : Int) - 1 = ((d - 1 : Nat) : Int) by omega]
  refine (graded_any hlg s1 (d - 1) 2 (.inl rfl) (by omega)).mono ?_
  rintro _ s2 ⟨rfl, rfl⟩
  have e : dstC d = graded (d - 1) 2 := rfl
  unfold againP
  rw [e] at hds ⊢
  generalize graded (d - 1) 2 = x at hds
  obtain ⟨x1, x2, x3⟩ := x
  simp only at hds
  simp (config := { maxSteps := 1000000, implicitDefEqProofs := false }) (disch := omega) only [allW, allR, oneOf, evalAll, partsA, optA, Nat.reduceLT, Nat.reduceLeDiff, Nat.reduceEqDiff, Nat.reduceAdd, ↓reduceIte, hn', h0, h2, ext0F, ext1F, ext2F]
  have hz1 : (putE (symP p (lenC n).1) (lenC n).2.1 (lenC n).2.2).2 ≤ 810000000 := by rw [putE_snd, symP_snd]; omega
  refine (code_any hlc hlp hlb base s2 j v1 _ x1 5 h1 (Nat.le_trans hb to1.next) (by omega) (by omega)).mono ?_
  rintro _ s3 ⟨v3, h3, to3⟩
  simp (config := { maxSteps := 1000000, implicitDefEqProofs := false }) (disch := omega) only [allW, allR, oneOf, evalAll, partsA, optA, Nat.reduceLT, Nat.reduceLeDiff, Nat.reduceEqDiff, Nat.reduceAdd, ↓reduceIte, hn', h0, h2, wrf0]
  refine (put_any hlp hlb base s3 j v3 _ (x2 : Nat) (x3 : Nat) h3 (Nat.le_trans hb (Nat.le_trans to1.next to3.next)) (by rw [codeP_snd]; omega)).mono ?_
  rintro _ s4 ⟨v4, h4, to4⟩
  rw [puts_nat _ _ (by omega)] at h4
  simp (config := { maxSteps := 1000000, implicitDefEqProofs := false }) (disch := omega) only [allW, allR, wfn_ret, wfn_normal, oneOf, evalAll, partsA, optA, Nat.reduceLT, Nat.reduceLeDiff, Nat.reduceEqDiff, Nat.reduceAdd, ↓reduceIte, hn', h0, h2, Try.results37]
  exact ⟨v4, h4, (to1.trans to3).trans to4⟩
end Go.Proofs.Ytdebapkgofddiaa
