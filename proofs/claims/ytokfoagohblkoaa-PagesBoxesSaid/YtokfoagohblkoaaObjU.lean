/-
  Objects: the numbers that one names.
-/
import Derived.Test.YtokfoagohblkoaaObjT
namespace Go.Cl
def partsO : O → List O
  | .mk k _ _ l d => if k = 6 then l else if k = 7 ∨ k = 8 then d.map (·.2) else []
def refsN : Nat → O → List Int
  | 0, _ => []
  | m + 1, o => if o.kind = 9 then [o.num] else (partsO o).flatMap (refsN m)
noncomputable def refsO (o : O) : List Int := refsN (SizeOf.sizeOf o) o
theorem O.size_pos (o : O) : 0 < SizeOf.sizeOf o := by cases o; simp only [O.mk.sizeOf_spec]; omega
def intsV (l : List Int) : List Value := l.map (.int .i64)
end Go.Cl
