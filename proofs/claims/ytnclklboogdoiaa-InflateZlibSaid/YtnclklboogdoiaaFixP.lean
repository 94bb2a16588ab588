/-
  Deflate by the fixed codes: the plain law.
-/
import Derived.Test.YtnclklboogdoiaaRowP
import Derived.Test.YtnclklboogdoiaaStoP
namespace Go.Cl.Fx
open Go.Cl.Rw Go.Cl.Sto
def symC (s : Nat) : Nat × Nat := if s < 144 then (48 + s, 8) else if s < 256 then (256 + s, 9) else if s < 280 then (s - 256, 7) else (s - 88, 8)
theorem symC_snd (s : Nat) : 7 ≤ (symC s).2 ∧ (symC s).2 ≤ 9 := by
  unfold symC
  split
  · simp
  · split
    · simp
    · split <;> simp
end Go.Cl.Fx
