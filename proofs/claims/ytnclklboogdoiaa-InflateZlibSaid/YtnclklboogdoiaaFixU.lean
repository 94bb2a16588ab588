/-
  Deflate by the fixed codes: the reference's block.
-/
import Derived.Test.YtnclklboogdoiaaFixV
import Derived.Test.YtnclklboogdoiaaLow
set_option linter.unusedSimpArgs false
set_option linter.unusedVariables false
set_option maxRecDepth 100000
namespace Go.Cl.Fx
open Go.Cl.Rw Go.Cl.Sto
def ApartR (j : Nat) (v a : Value) : Prop := ∀ i, idOf a = some i → i ≠ j ∧ idOf v ≠ some i
theorem ApartR.own {j : Nat} {v v' a : Value} {s s' : ASt} {n : Nat} {L : List Value} (h : ApartR j v a) (ho : Own s 1 a n L) (k : RowTo j v s v' s') : Own s' 1 a n L ∧ ApartR j v' a := by
  refine ⟨?_, fun i hi => ⟨(h i hi).1, ?_⟩⟩
  · cases ho with
    | nil => exact .nil
    | of i n low l hi hb hl hlen =>
      have := h i rfl
      refine .of i _ low _ (Nat.lt_of_lt_of_le hi k.next) ?_ hl hlen
      simp only [ASt.blk?, k.get i hi this.1 this.2]; exact hb
  · rcases k.id with e | ⟨q, e, hq⟩
    · rw [e]; exact (h i hi).2
    · rw [e]; intro e2; injection e2 with e2; have := ho.idlt i hi; omega
end Go.Cl.Fx
namespace Go.Proofs.Ytnclklboogdoiaa
open Go.Cl Go.Cl.Rw Go.Cl.Sto Go.Cl.Fx
theorem ext0F' (a b : Value) : extractA (.tuple #[a, b]) 0 = some a := rfl
theorem ext1F' (a b : Value) : extractA (.tuple #[a, b]) 1 = some b := rfl
end Go.Proofs.Ytnclklboogdoiaa
