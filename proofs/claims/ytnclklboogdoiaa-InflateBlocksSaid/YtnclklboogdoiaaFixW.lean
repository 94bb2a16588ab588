/-
  Deflate by the fixed codes: the program.
-/
import Derived.Test.YtnclklboogdoiaaRow
import Derived.Test.YtnclklboogdoiaaFixP
import Derived.Test.YtnclklboogdoiaaLooseB
set_option linter.unusedSimpArgs false
set_option linter.unusedVariables false
set_option maxRecDepth 100000
namespace Go.Cl.Fx
open Go.Cl.Rw Go.Cl.Sto
theorem fdivN (n k : Nat) : (n : Int).fdiv (2 ^ k) = ((n / 2 ^ k : Nat) : Int) := by
  rw [Int.fdiv_eq_ediv_of_nonneg _ (by exact Int.pow_nonneg (by omega))]
  norm_cast
theorem shrI (P : Program) (t : TypeId) (k' : IntKind) (n : Nat) {k : Nat} (h : k < 64) : binA P .shr t (.int .i64 (n : Int)) (.int k' (k : Nat)) = some (.int .i64 ((n / 2 ^ k : Nat) : Int)) := by
  rw [shrN P t k' (n : Int) h, fdivN]
theorem andMask {n k : Nat} (hn : n < 4294967296) (hk : k < 32) : IntKind.i64.wrap (((BitVec.ofInt IntKind.i64.bits (n : Int) &&& BitVec.ofInt IntKind.i64.bits (((1 * 2 ^ k : Nat) : Int) - 1)).toNat : Nat) : Int) = ((n % 2 ^ k : Nat) : Int) := by
  have e1 : IntKind.i64.bits = 64 := rfl
  have hp : 2 ^ k ≤ 2 ^ 32 := Nat.pow_le_pow_right (by omega) (by omega)
  have hp2 : (2 : Nat) ^ 32 = 4294967296 := by decide
  have hp1 : 1 ≤ 2 ^ k := Nat.pos_of_ne_zero (by simp)
  have e2 : (((1 * 2 ^ k : Nat) : Int) - 1) = ((2 ^ k - 1 : Nat) : Int) := by omega
  rw [e1, e2]
  have : (BitVec.ofInt 64 (n : Int) &&& BitVec.ofInt 64 ((2 ^ k - 1 : Nat) : Int)).toNat = n % 2 ^ k := by
    rw [BitVec.toNat_and, BitVec.ofInt_natCast, BitVec.ofInt_natCast, BitVec.toNat_ofNat, BitVec.toNat_ofNat, Nat.mod_eq_of_lt (by omega), Nat.mod_eq_of_lt (by omega), Nat.and_two_pow_sub_one_eq_mod]
  rw [this, wrapI (by have := Nat.mod_lt n (show 2 ^ k > 0 by omega); omega)]
theorem gb_zero {f n g : Nat} (h : n < 2 * g) : gb f n g = 0 := by
  cases f with
  | zero => rfl
  | succ f => unfold gb; rw [if_pos h]
theorem gb_succ {f n g : Nat} (h : ¬ n < 2 * g) : gb (f + 1) n g = gb f (n / 2) g + 1 := by rw [gb, if_neg h]
theorem graded_low {n g : Nat} (h : n < 2 * g) : graded n g = (n, 0, 0) := by
  unfold graded
  rw [gb_zero h]
  simp [Nat.mod_one]
theorem wif_cutF {P : Program} {lib : Prims} {cA cB : Code} {f : AFr} {s : ASt} {Q : AX → AFr → ASt → Prop} {b : Bool} (J : AFr → ASt → Prop) (h1 : ∀ Q' : AX → AFr → ASt → Prop, (∀ f' s', J f' s' → Q' .normal f' s') → wif P lib cA cB f s Q' b) (h2 : ∀ f' s', J f' s' → Q .normal f' s') : wif P lib cA cB f s Q b := h1 Q h2
end Go.Cl.Fx
namespace Go.Proofs.Ytnclklboogdoiaa
open Go.Cl Go.Cl.Rw Go.Cl.Sto Go.Cl.Fx
theorem puts_one (p : List UInt8 × Nat) (x : Int) : puts p x 1 = rput p x 1 := by unfold puts; rw [if_neg (by omega)]; rfl
theorem puts_nat (p : List UInt8 × Nat) (x : Nat) {w : Nat} (h : w ≤ 16) : puts p (x : Int) (w : Nat) = putE p x w := by
  unfold puts putE
  by_cases c : w = 0
  · subst c; rw [if_pos (by omega)]; rfl
  · rw [if_neg (by omega), Int.toNat_natCast]
theorem ext0F (a b c : Value) : extractA (.tuple #[a, b, c]) 0 = some a := rfl
theorem ext1F (a b c : Value) : extractA (.tuple #[a, b, c]) 1 = some b := rfl
theorem ext2F (a b c : Value) : extractA (.tuple #[a, b, c]) 2 = some c := rfl
/-- A symbol, what stands behind it, how wide. -/
def Three (s : ASt) (x : Nat × Nat × Nat) (v : Value) (s' : ASt) : Prop := v = .tuple #[.int .i64 (x.1 : Nat), .int .i64 (x.2.1 : Nat), .int .i64 (x.2.2 : Nat)] ∧ s' = s
end Go.Proofs.Ytnclklboogdoiaa
