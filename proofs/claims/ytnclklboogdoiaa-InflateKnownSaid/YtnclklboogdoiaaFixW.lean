/-
  Deflate by the fixed codes: the program.
-/
import Derived.Test.YtnclklboogdoiaaRow
import Derived.Test.YtnclklboogdoiaaFixP
import Derived.Test.YtnclklboogdoiaaLooseB
set_option linter.unusedSimpArgs false
set_option linter.unusedVariables false
set_option maxRecDepth 100000
namespace Go.Cl.Fx
open Go.Cl.Rw Go.Cl.Sto
theorem fdivN (n k : Nat) : (n : Int).fdiv (2 ^ k) = ((n / 2 ^ k : Nat) : Int) := by
  rw [Int.fdiv_eq_ediv_of_nonneg _ (by exact Int.pow_nonneg (by omega))]
  norm_cast
theorem shrI (P : Program) (t : TypeId) (k' : IntKind) (n : Nat) {k : Nat} (h : k < 64) : binA P .shr t (.int .i64 (n : Int)) (.int k' (k : Nat)) = some (.int .i64 ((n / 2 ^ k : Nat) : Int)) := by
  rw [shrN P t k' (n : Int) h, fdivN]
theorem wif_cutF {P : Program} {lib : Prims} {cA cB : Code} {f : AFr} {s : ASt} {Q : AX → AFr → ASt → Prop} {b : Bool} (J : AFr → ASt → Prop) (h1 : ∀ Q' : AX → AFr → ASt → Prop, (∀ f' s', J f' s' → Q' .normal f' s') → wif P lib cA cB f s Q' b) (h2 : ∀ f' s', J f' s' → Q .normal f' s') : wif P lib cA cB f s Q b := h1 Q h2
end Go.Cl.Fx
namespace Go.Proofs.Ytnclklboogdoiaa
open Go.Cl Go.Cl.Rw Go.Cl.Sto Go.Cl.Fx
theorem puts_one (p : List UInt8 × Nat) (x : Int) : puts p x 1 = rput p x 1 := by unfold puts; rw [if_neg (by omega)]; rfl
theorem puts_nat (p : List UInt8 × Nat) (x : Nat) {w : Nat} (h : w ≤ 16) : puts p (x : Int) (w : Nat) = putE p x w := by
  unfold puts putE
  by_cases c : w = 0
  · subst c; rw [if_pos (by omega)]; rfl
  · rw [if_neg (by omega), Int.toNat_natCast]
theorem ext0F (a b c : Value) : extractA (.tuple #[a, b, c]) 0 = some a := rfl
theorem ext1F (a b c : Value) : extractA (.tuple #[a, b, c]) 1 = some b := rfl
theorem ext2F (a b c : Value) : extractA (.tuple #[a, b, c]) 2 = some c := rfl
def Three (s : ASt) (x : Nat × Nat × Nat) (v : Value) (s' : ASt) : Prop := v = .tuple #[.int .i64 (x.1 : Nat), .int .i64 (x.2.1 : Nat), .int .i64 (x.2.2 : Nat)] ∧ s' = s
end Go.Proofs.Ytnclklboogdoiaa
