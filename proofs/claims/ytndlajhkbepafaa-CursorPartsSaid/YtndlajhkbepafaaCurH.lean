/-
  Where a text is found, from the end: the hash that runs along, the program's LastIndex.
-/
import Derived.Test.YtndlajhkbepafaaCur2
import Derived.Test.YtndlajhkbepafaaStr
set_option linter.unusedSimpArgs false
set_option linter.unusedVariables false
set_option maxRecDepth 100000
namespace Go.Cl.Fi
/-- The last place below so many. -/
def lastF (l s : List UInt8) : Nat → Int
  | 0 => -1
  | k + 1 => if (l.drop k).take s.length = s then (k : Int) else lastF l s k
def lastOf (l s : List UInt8) : Int := if s.length ≤ l.length then lastF l s (l.length - s.length + 1) else -1
/-- The hash, the last byte first. -/
def hN : List UInt8 → Nat
  | [] => 0
  | c :: r => (hN r * 16777619 + c.toNat) % 4294967296
def pw (n : Nat) : Nat := 16777619 ^ n % 4294967296
theorem hN_lt : ∀ l : List UInt8, hN l < 4294967296
  | [] => by decide
  | c :: r => Nat.mod_lt _ (by decide)
def gN : List UInt8 → Nat
  | [] => 0
  | c :: r => gN r * 16777619 + c.toNat
theorem hN_g : ∀ l : List UInt8, hN l = gN l % 4294967296
  | [] => rfl
  | c :: r => by unfold hN gN; rw [hN_g r]; omega
theorem gN_snoc : ∀ (r : List UInt8) (z : UInt8), gN (r ++ [z]) = gN r + z.toNat * 16777619 ^ r.length
  | [], z => by simp [gN]
  | c :: r, z => by
    show gN (r ++ [z]) * 16777619 + c.toNat = gN r * 16777619 + c.toNat + z.toNat * 16777619 ^ (r.length + 1)
    rw [gN_snoc r z, Nat.add_mul, Nat.pow_succ, Nat.mul_assoc]
    omega
theorem emods (A B P c z m : Int) : ((A % m) * P + c - (B % m) * z) % m = (A * P + c - B * z) % m := by
  rw [Int.sub_emod, Int.add_emod, Int.mul_emod, Int.emod_emod, ← Int.mul_emod, ← Int.add_emod, Int.mul_emod (B % m), Int.emod_emod, ← Int.mul_emod, ← Int.sub_emod]
theorem gN_cons (c : UInt8) (r : List UInt8) : gN (c :: r) = gN r * 16777619 + c.toNat := rfl
/-- One step back. -/
theorem roll (c : UInt8) (r : List UInt8) (z : UInt8) : ((hN (r ++ [z]) : Int) * 16777619 + (c.toNat : Int) - (pw (r.length + 1) : Int) * (z.toNat : Int)) % 4294967296 = (hN (c :: r) : Int) := by
  obtain ⟨w, hw⟩ : ∃ w, w = 16777619 ^ r.length := ⟨_, rfl⟩
  have hp : pw (r.length + 1) = (w * 16777619) % 4294967296 := by unfold pw; rw [Nat.pow_succ, ← hw]
  have hg := gN_snoc r z
  rw [← hw] at hg
  obtain ⟨u, hu⟩ : ∃ u, u = z.toNat * w := ⟨_, rfl⟩
  rw [← hu] at hg
  have hm : (w * 16777619) * z.toNat = 16777619 * u := by rw [hu, Nat.mul_comm w, Nat.mul_assoc, Nat.mul_comm w]
  have hm2 : ((w * 16777619 : Nat) : Int) * (z.toNat : Int) = ((16777619 * u : Nat) : Int) := by rw [← Int.natCast_mul, hm]
  clear hw hu hm
  have e1 : (hN (r ++ [z]) : Int) = (gN (r ++ [z]) : Int) % 4294967296 := by rw [hN_g]; omega
  have e2 : (pw (r.length + 1) : Int) = ((w * 16777619 : Nat) : Int) % 4294967296 := by rw [hp]; omega
  have e3 : (hN (c :: r) : Int) = ((gN r : Int) * 16777619 + (c.toNat : Int)) % 4294967296 := by rw [hN_g, gN_cons]; omega
  rw [e1, e2, e3, emods, hm2, hg]
  have e : ((gN r + u : Nat) : Int) * 16777619 + (c.toNat : Int) - ((16777619 * u : Nat) : Int) = (gN r : Int) * 16777619 + (c.toNat : Int) := by omega
  rw [e]
theorem lt32 {a c t : Int} : (((a * 16777619) % 4294967296 + c) % 4294967296 - t % 4294967296) % 4294967296 = (a * 16777619 + c - t) % 4294967296 := by omega
/-- A power by halves. -/
theorem pow_half (p q : Nat) {i : Nat} (hi : 0 < i) : p * q ^ i % 4294967296 = (if i % 2 = 1 then p * q % 4294967296 else p) * (q * q % 4294967296) ^ (i / 2) % 4294967296 := by
  have e : q ^ i = (if i % 2 = 1 then q else 1) * (q * q) ^ (i / 2) := by
    rw [← Nat.pow_two, ← Nat.pow_mul]
    by_cases c : i % 2 = 1
    · rw [if_pos c, ← Nat.pow_succ', show (2 * (i / 2)).succ = i by omega]
    · rw [if_neg c, Nat.one_mul, show 2 * (i / 2) = i by omega]
  rw [e]
  by_cases c : i % 2 = 1
  · rw [if_pos c, if_pos c, ← Nat.mul_assoc, Nat.mul_mod (p * q % 4294967296), Nat.mod_mod, ← Nat.pow_mod, ← Nat.mul_mod]
  · rw [if_neg c, if_neg c, Nat.one_mul, Nat.mul_mod p ((q * q % 4294967296) ^ (i / 2)), ← Nat.pow_mod, ← Nat.mul_mod]
theorem drop_at {l : List UInt8} {k : Nat} (h : k < l.length) : l.drop k = l.getD k 0 :: l.drop (k + 1) := by
  rw [List.drop_eq_getElem_cons h, List.getD_eq_getElem?_getD, List.getElem?_eq_getElem h]; rfl
theorem wrapu32m (x : Int) : IntKind.u32.wrap x = x % 4294967296 := by
  have e1 : IntKind.u32.bits = 32 := rfl
  have e2 : IntKind.u32.signed = false := rfl
  simp only [IntKind.wrap, e1, e2, Bool.false_and]
  simp
theorem and1 {n : Nat} (h : n < 4294967296) : IntKind.i64.wrap (((BitVec.ofInt IntKind.i64.bits (n : Int) &&& BitVec.ofInt IntKind.i64.bits 1).toNat : Nat) : Int) = ((n % 2 : Nat) : Int) := by
  have e1 : IntKind.i64.bits = 64 := rfl
  rw [e1]
  have : (BitVec.ofInt 64 (n : Int) &&& BitVec.ofInt 64 1).toNat = n % 2 := by
    rw [show (1 : Int) = ((1 : Nat) : Int) from rfl, BitVec.toNat_and, BitVec.ofInt_natCast, BitVec.ofInt_natCast, BitVec.toNat_ofNat, BitVec.toNat_ofNat, Nat.mod_eq_of_lt (by omega), Nat.mod_eq_of_lt (by omega), Nat.and_one_is_mod]
  rw [this, wrapI (by omega)]
theorem shr1 (P : Program) (t : TypeId) (k' : IntKind) (n : Nat) : binA P .shr t (.int .i64 (n : Int)) (.int k' 1) = some (.int .i64 ((n / 2 : Nat) : Int)) := by
  rw [bin_shr P t .i64 _ _ k' (by omega)]
  have e : min (1 : Int).toNat IntKind.i64.bits = 1 := rfl
  have e2 : (n : Int).fdiv (2 ^ 1) = ((n / 2 : Nat) : Int) := by
    rw [Int.fdiv_eq_ediv_of_nonneg _ (by decide)]; omega
  rw [e, e2]
end Go.Cl.Fi
namespace Go.Proofs.Ytndlajhkbepafaa
open Go.Cl Go.Cl.Fi
set_option maxRecDepth 100000 in
set_option maxHeartbeats 8000000 in
theorem hash_any {lib : Prims} (hl : lib.at 43 = none) (s : ASt) (x : Value) (l : List UInt8) (hx : Sees s 1 x l.length (ofBytes l)) (hlen : l.length ≤ 100000) :
    Runs Try.prog lib 43 [x] s fun v s' => v = .tuple #[.int .u32 (hN l : Nat), .int .u32 (pw l.length : Nat)] ∧ s' = s := by
  refine Runs.enter 41 Try.func43 rfl hl rfl rfl ?_
  intro f hn hf
  have h0 : f.get 0 = x := hf 0
  clear hf
  simp (config := { maxSteps := 1000000, implicitDefEqProofs := false }) (disch := omega) only [allW, allR, oneOf, evalAll, partsA, optA, Nat.reduceLT, Nat.reduceLeDiff, Nat.reduceEqDiff, Nat.reduceAdd, ↓reduceIte, hn, h0, hx.lenA Try.underlying22, wrapI]
  refine Comes.loopOut (fun z f t => ∃ k : Nat, z = k ∧ k ≤ l.length ∧ t = s ∧ f.n = 41 ∧ f.get 0 = x ∧ f.get 4 = .int .u32 (hN (l.drop k) : Nat) ∧ f.get 5 = .int .i64 ((k : Int) - 1))
    (fun z f t => z = .exit 0 ∧ t = s ∧ f.n = 41 ∧ f.get 0 = x ∧ f.get 4 = .int .u32 (hN l : Nat))
    ⟨l.length, rfl, Nat.le_refl _, rfl, by simp only [get_put, n_put, ↓reduceIte, Nat.reduceEqDiff, hn], by simp only [get_put, n_put, ↓reduceIte, Nat.reduceEqDiff, h0], by simp only [get_put, n_put, ↓reduceIte, Nat.reduceEqDiff]; rw [List.drop_of_length_le (Nat.le_refl _)]; rfl, by simp only [get_put, n_put, ↓reduceIte, Nat.reduceEqDiff]⟩ ?_ ?_
  · clear hn h0 f
    rintro Q hQ k f t ⟨_, rfl, hk, rfl, hn, h0, h4, h5⟩
    cases k with
    | zero =>
      have d1 : ¬ ((0 : Nat) : Int) - 1 ≥ 0 := by omega
      simp (config := { maxSteps := 1000000, implicitDefEqProofs := false }) (disch := omega) only [allW, allR, oneOf, evalAll, partsA, optA, Nat.reduceLT, Nat.reduceLeDiff, Nat.reduceEqDiff, Nat.reduceAdd, ↓reduceIte, hn, h0, h4, h5, eq_false d1, decide_false]
      exact hQ _ _ _ ⟨rfl, rfl, by simp only [get_put, n_put, ↓reduceIte, Nat.reduceEqDiff, hn], by simp only [get_put, n_put, ↓reduceIte, Nat.reduceEqDiff, h0], by simp only [get_put, n_put, ↓reduceIte, Nat.reduceEqDiff, h4]; rfl⟩
    | succ k =>
      have e1 : (((k + 1 : Nat) : Int)) - 1 = (k : Int) := by omega
      have d1 : ((k : Nat) : Int) ≥ 0 := by omega
      have hii := hx.indexAddr (P := Try.prog) (k := .i64) (x := (k : Int)) Try.underlying22 szU8 (by omega) (by omega)
      rw [Int.toNat_natCast] at hii
      have hli := hx.load1 (P := Try.prog) agU8 (k := k) (by omega)
      rw [ofBytes_getD (by omega)] at hli
      have hb := (l.getD k 0).toNat_lt
      have hh := hN_lt (l.drop (k + 1))
      have hd : ((((hN (l.drop (k + 1)) : Nat) : Int) * 16777619) % 4294967296 + (((l.getD k 0).toNat : Nat) : Int) % 4294967296) % 4294967296 = ((hN (l.drop k) : Nat) : Int) := by
        rw [drop_at (k := k) (by omega), hN]; omega
      simp (config := { maxSteps := 1000000, implicitDefEqProofs := false }) (disch := omega) only [allW, allR, oneOf, evalAll, partsA, optA, Nat.reduceLT, Nat.reduceLeDiff, Nat.reduceEqDiff, Nat.reduceAdd, ↓reduceIte, hn, h0, h4, h5, e1, eq_true d1, decide_true, hii, hli, conv_int Try.underlying5 Try.underlying57, wrapu32m, hd, wrapI]
      exact wround_next k (by omega) ⟨k, rfl, by omega, rfl, by simp only [get_put, n_put, ↓reduceIte, Nat.reduceEqDiff, hn], by simp only [get_put, n_put, ↓reduceIte, Nat.reduceEqDiff, h0], by simp only [get_put, n_put, ↓reduceIte, Nat.reduceEqDiff], by simp only [get_put, n_put, ↓reduceIte, Nat.reduceEqDiff]⟩
  clear hn h0 f
  rintro z f t ⟨rfl, rfl, hn, h0, h4⟩
  simp (config := { maxSteps := 1000000, implicitDefEqProofs := false }) (disch := omega) only [allW, allR, oneOf, evalAll, partsA, optA, Nat.reduceLT, Nat.reduceLeDiff, Nat.reduceEqDiff, Nat.reduceAdd, ↓reduceIte, hn, h0, h4, hx.lenA Try.underlying22]
  refine Comes.loopOut (fun z f t' => ∃ i p q : Nat, z = i ∧ i ≤ l.length ∧ p < 4294967296 ∧ q < 4294967296 ∧ p * q ^ i % 4294967296 = pw l.length ∧ t' = t ∧ f.n = 41 ∧ f.get 4 = .int .u32 (hN l : Nat) ∧ f.get 6 = .int .u32 (p : Nat) ∧ f.get 7 = .int .u32 (q : Nat) ∧ f.get 8 = .int .i64 (i : Nat))
    (fun z f t' => z = .exit 2 ∧ t' = t ∧ f.n = 41 ∧ f.get 4 = .int .u32 (hN l : Nat) ∧ f.get 6 = .int .u32 (pw l.length : Nat))
    ⟨l.length, 1, 16777619, rfl, Nat.le_refl _, by decide, by decide, by rw [Nat.one_mul]; rfl, rfl, by simp only [get_put, n_put, ↓reduceIte, Nat.reduceEqDiff, hn], by simp only [get_put, n_put, ↓reduceIte, Nat.reduceEqDiff, h4], by simp only [get_put, n_put, ↓reduceIte, Nat.reduceEqDiff]; rfl, by simp only [get_put, n_put, ↓reduceIte, Nat.reduceEqDiff]; rfl, by simp only [get_put, n_put, ↓reduceIte, Nat.reduceEqDiff]⟩ ?_ ?_
  · clear hn h0 h4 f
    rintro Q hQ i f t' ⟨_, p, q, rfl, hi, hp, hq, hpq, rfl, hn, h4, h6, h7, h8⟩
    by_cases c : 0 < i
    rotate_left
    · have d1 : ¬ ((i : Nat) : Int) > 0 := by omega
      obtain rfl : i = 0 := by omega
      rw [Nat.pow_zero, Nat.mul_one, Nat.mod_eq_of_lt hp] at hpq
      subst hpq
      simp (config := { maxSteps := 1000000, implicitDefEqProofs := false }) (disch := omega) only [allW, allR, oneOf, evalAll, partsA, optA, Nat.reduceLT, Nat.reduceLeDiff, Nat.reduceEqDiff, Nat.reduceAdd, ↓reduceIte, hn, h4, h6, h7, h8, eq_false d1, decide_false]
      exact hQ _ _ _ ⟨rfl, rfl, by simp only [get_put, n_put, ↓reduceIte, Nat.reduceEqDiff, hn], by simp only [get_put, n_put, ↓reduceIte, Nat.reduceEqDiff, h4], by simp only [get_put, n_put, ↓reduceIte, Nat.reduceEqDiff, h6]⟩
    have d1 : ((i : Nat) : Int) > 0 := by omega
    have hh := pow_half p q c
    rw [hpq] at hh
    have s1 : ∀ t' k', binA Try.prog .shr t' (.int .i64 (i : Nat)) (.int k' 1) = some (.int .i64 ((i / 2 : Nat) : Int)) := fun t' k' => shr1 _ _ _ _
    have a1 := and1 (n := i) (by omega)
    have q2 : ((q : Nat) : Int) * (q : Int) % 4294967296 = ((q * q % 4294967296 : Nat) : Int) := by
      have : ((q * q : Nat) : Int) = (q : Int) * q := Int.natCast_mul q q
      omega
    have p2 : ((p : Nat) : Int) * (q : Int) % 4294967296 = ((p * q % 4294967296 : Nat) : Int) := by
      have : ((p * q : Nat) : Int) = (p : Int) * q := Int.natCast_mul p q
      omega
    by_cases co : i % 2 = 1
    · have d2 : ¬ ((i % 2 : Nat) : Int) = 0 := by omega
      rw [if_pos co] at hh
      simp (config := { maxSteps := 1000000, implicitDefEqProofs := false }) (disch := omega) only [allW, allR, oneOf, evalAll, partsA, optA, Nat.reduceLT, Nat.reduceLeDiff, Nat.reduceEqDiff, Nat.reduceAdd, ↓reduceIte, hn, h4, h6, h7, h8, eq_true d1, decide_true, bin_and, a1, eq_false d2, not_false_eq_true, wrapu32m, q2, p2, s1]
      exact wround_next (i / 2) (by omega) ⟨i / 2, _, _, rfl, by omega, Nat.mod_lt _ (by decide), Nat.mod_lt _ (by decide), hh.symm, rfl, by simp only [get_put, n_put, ↓reduceIte, Nat.reduceEqDiff, hn], by simp only [get_put, n_put, ↓reduceIte, Nat.reduceEqDiff, h4], by simp only [get_put, n_put, ↓reduceIte, Nat.reduceEqDiff], by simp only [get_put, n_put, ↓reduceIte, Nat.reduceEqDiff], by simp only [get_put, n_put, ↓reduceIte, Nat.reduceEqDiff]⟩
    · have d2 : ((i % 2 : Nat) : Int) = 0 := by omega
      rw [if_neg co] at hh
      simp (config := { maxSteps := 1000000, implicitDefEqProofs := false }) (disch := omega) only [allW, allR, oneOf, evalAll, partsA, optA, Nat.reduceLT, Nat.reduceLeDiff, Nat.reduceEqDiff, Nat.reduceAdd, ↓reduceIte, hn, h4, h6, h7, h8, eq_true d1, decide_true, bin_and, a1, eq_true d2, not_true_eq_false, decide_false, wrapu32m, q2, p2, s1]
      exact wround_next (i / 2) (by omega) ⟨i / 2, _, _, rfl, by omega, hp, Nat.mod_lt _ (by decide), hh.symm, rfl, by simp only [get_put, n_put, ↓reduceIte, Nat.reduceEqDiff, hn], by simp only [get_put, n_put, ↓reduceIte, Nat.reduceEqDiff, h4], by simp only [get_put, n_put, ↓reduceIte, Nat.reduceEqDiff, h6], by simp only [get_put, n_put, ↓reduceIte, Nat.reduceEqDiff], by simp only [get_put, n_put, ↓reduceIte, Nat.reduceEqDiff]⟩
  clear hn h0 h4 f
  rintro z f t' ⟨rfl, rfl, hn, h4, h6⟩
  simp (config := { maxSteps := 1000000, implicitDefEqProofs := false }) (disch := omega) only [allW, allR, wfn_ret, wfn_normal, oneOf, evalAll, partsA, optA, Nat.reduceLT, Nat.reduceLeDiff, Nat.reduceEqDiff, Nat.reduceAdd, ↓reduceIte, hn, h4, h6, Try.results43]
  try exact ⟨rfl, rfl⟩
theorem lastByte_any {lib : Prims} (hl : lib.at 38 = none) (s : ASt) (x : Value) (l : List UInt8) (c : UInt8) (hx : Sees s 1 x l.length (ofBytes l)) (hlen : l.length ≤ 100000) :
    Runs Try.prog lib 38 [x, .int .u8 (c.toNat : Nat)] s fun v s' => v = .int .i64 (lastF l [c] l.length) ∧ s' = s := by
  refine Runs.enter 20 Try.func38 rfl hl rfl rfl ?_
  intro f hn hf
  have h0 : f.get 0 = x := hf 0
  have h1 : f.get 1 = .int .u8 (c.toNat : Nat) := hf 1
  clear hf
  obtain ⟨R, hR⟩ : ∃ R, R = lastF l [c] l.length := ⟨_, rfl⟩
  rw [← hR]
  simp (config := { maxSteps := 1000000, implicitDefEqProofs := false }) (disch := omega) only [allW, allR, oneOf, evalAll, partsA, optA, Nat.reduceLT, Nat.reduceLeDiff, Nat.reduceEqDiff, Nat.reduceAdd, ↓reduceIte, hn, h0, h1, hx.lenA Try.underlying22, wrapI]
  refine Comes.loopOut (fun z f t => ∃ k : Nat, z = k ∧ k ≤ l.length ∧ t = s ∧ f.n = 20 ∧ f.get 0 = x ∧ f.get 1 = .int .u8 (c.toNat : Nat) ∧ f.get 5 = .int .i64 ((k : Int) - 1) ∧ R = lastF l [c] k)
    (fun z f t => t = s ∧ f.n = 20 ∧ ((z = .exit 0 ∧ R = -1) ∨ (z = .ret ∧ f.get 4 = .int .i64 R)))
    ⟨l.length, rfl, Nat.le_refl _, rfl, by simp only [get_put, n_put, ↓reduceIte, Nat.reduceEqDiff, hn], by simp only [get_put, n_put, ↓reduceIte, Nat.reduceEqDiff, h0], by simp only [get_put, n_put, ↓reduceIte, Nat.reduceEqDiff, h1], by simp only [get_put, n_put, ↓reduceIte, Nat.reduceEqDiff], hR⟩ ?_ ?_
  · clear hn h0 h1 f
    rintro Q hQ k f t ⟨_, rfl, hk, rfl, hn, h0, h1, h5, hr⟩
    cases k with
    | zero =>
      have d1 : ¬ ((0 : Nat) : Int) - 1 ≥ 0 := by omega
      simp (config := { maxSteps := 1000000, implicitDefEqProofs := false }) (disch := omega) only [allW, allR, oneOf, evalAll, partsA, optA, Nat.reduceLT, Nat.reduceLeDiff, Nat.reduceEqDiff, Nat.reduceAdd, ↓reduceIte, hn, h0, h1, h5, eq_false d1, decide_false]
      exact hQ _ _ _ ⟨rfl, by simp only [get_put, n_put, ↓reduceIte, Nat.reduceEqDiff, hn], .inl ⟨rfl, hr⟩⟩
    | succ k =>
      have e1 : (((k + 1 : Nat) : Int)) - 1 = (k : Int) := by omega
      have d1 : ((k : Nat) : Int) ≥ 0 := by omega
      have hii := hx.indexAddr (P := Try.prog) (k := .i64) (x := (k : Int)) Try.underlying22 szU8 (by omega) (by omega)
      rw [Int.toNat_natCast] at hii
      have hli := hx.load1 (P := Try.prog) agU8 (k := k) (by omega)
      rw [ofBytes_getD (by omega)] at hli
      rw [lastF, drop_at (k := k) (by omega)] at hr
      have ht : (l.getD k 0 :: l.drop (k + 1)).take [c].length = [l.getD k 0] := by simp
      rw [ht] at hr
      by_cases ce : l.getD k 0 = c
      · rw [if_pos (by rw [ce])] at hr
        have d2 : (((l.getD k 0).toNat : Nat) : Int) = ((c.toNat : Nat) : Int) := by rw [ce]
        simp (config := { maxSteps := 1000000, implicitDefEqProofs := false }) (disch := omega) only [allW, allR, oneOf, evalAll, partsA, optA, Nat.reduceLT, Nat.reduceLeDiff, Nat.reduceEqDiff, Nat.reduceAdd, ↓reduceIte, hn, h0, h1, h5, e1, eq_true d1, decide_true, hii, hli, eq_true d2]
        exact hQ _ _ _ ⟨rfl, by simp only [get_put, n_put, ↓reduceIte, Nat.reduceEqDiff, hn], .inr ⟨rfl, by simp only [get_put, n_put, ↓reduceIte, Nat.reduceEqDiff]; rw [hr]⟩⟩
      · rw [if_neg (fun e => ce (by injection e))] at hr
        have d2 : ¬ (((l.getD k 0).toNat : Nat) : Int) = ((c.toNat : Nat) : Int) := fun e => ce (UInt8.toNat_inj.1 (by omega))
        simp (config := { maxSteps := 1000000, implicitDefEqProofs := false }) (disch := omega) only [allW, allR, oneOf, evalAll, partsA, optA, Nat.reduceLT, Nat.reduceLeDiff, Nat.reduceEqDiff, Nat.reduceAdd, ↓reduceIte, hn, h0, h1, h5, e1, eq_true d1, decide_true, hii, hli, eq_false d2, decide_false, wrapI]
        exact wround_next k (by omega) ⟨k, rfl, by omega, rfl, by simp only [get_put, n_put, ↓reduceIte, Nat.reduceEqDiff, hn], by simp only [get_put, n_put, ↓reduceIte, Nat.reduceEqDiff, h0], by simp only [get_put, n_put, ↓reduceIte, Nat.reduceEqDiff, h1], by simp only [get_put, n_put, ↓reduceIte, Nat.reduceEqDiff], hr⟩
  clear hn h0 h1 f
  rintro z f t ⟨rfl, hn, (⟨rfl, hr⟩ | ⟨rfl, h4⟩)⟩
  · simp (config := { maxSteps := 1000000, implicitDefEqProofs := false }) (disch := omega) only [allW, allR, wfn_ret, wfn_normal, oneOf, evalAll, partsA, optA, Nat.reduceLT, Nat.reduceLeDiff, Nat.reduceEqDiff, Nat.reduceAdd, ↓reduceIte, hn, Try.results38]
    rw [hr]
  · simp (config := { maxSteps := 1000000, implicitDefEqProofs := false }) (disch := omega) only [allW, allR, wfn_ret, wfn_normal, oneOf, evalAll, partsA, optA, Nat.reduceLT, Nat.reduceLeDiff, Nat.reduceEqDiff, Nat.reduceAdd, ↓reduceIte, hn, h4, Try.results38]
    try exact ⟨rfl, rfl⟩
end Go.Proofs.Ytndlajhkbepafaa
