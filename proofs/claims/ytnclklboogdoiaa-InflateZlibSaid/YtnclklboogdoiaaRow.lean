/-
  Rows of bits: the program's and the reference's.
-/
import Derived.Test.YtnclklboogdoiaaCopy
import Derived.Test.YtnclklboogdoiaaRowP
set_option linter.unusedSimpArgs false
set_option linter.unusedVariables false
set_option maxRecDepth 100000
namespace Go.Proofs.Ytnclklboogdoiaa
open Go.Cl Go.Cl.Rw
theorem wrapu64x {x : Int} (h0 : 0 ≤ x) (h : x < 18446744073709551616) : IntKind.u64.wrap x = x := by
  have e1 : IntKind.u64.bits = 64 := rfl
  have e2 : IntKind.u64.signed = false := rfl
  simp only [IntKind.wrap, e1, e2, Bool.false_and]
  simp
  omega
def Does (base : Nat) (j : Nat) (v : Value) (s : ASt) (p : List UInt8 × Nat) (s' : ASt) : Prop := ∃ v', RowAt base s' j v' p ∧ RowTo j v s v' s'
theorem Does.start {base j : Nat} {v : Value} {s : ASt} {p : List UInt8 × Nat} (h : RowAt base s j v p) : Does base j v s p s := ⟨v, h, RowTo.refl _ _ _⟩
def puts (p : List UInt8 × Nat) (x w : Int) : List UInt8 × Nat := if w < 1 ∨ 16 < w then p else rput p x w.toNat
end Go.Proofs.Ytnclklboogdoiaa
