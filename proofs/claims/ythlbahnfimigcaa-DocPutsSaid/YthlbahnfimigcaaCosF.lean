import Derived.Test.YthlbahnfimigcaaCosE
import Derived.Test.YthlbahnfimigcaaObjT
import Derived.Test.YthlbahnfimigcaaClearW
set_option linter.unusedSimpArgs false
set_option linter.unusedVariables false
set_option maxRecDepth 100000
namespace Go.Cl
theorem aop_makeFunc {P : Program} {d : Option Tmp} {ty : TypeId} {ps : String} {af : Array Edge} {gd : Option (Nat × Bool)} {f : AFr} {s : ASt} (g : FuncId) (xs bs : Array Operand) : aop P ⟨d, .makeFunc (.func g) xs bs, ty, ps, af, gd⟩ f s = match evalAll f xs.toList, evalAll f bs.toList with
  | some l, some m => some (.val (.func (.func g) l.toArray m.toArray) s)
  | _, _ => none := rfl
def FirstAt (p : Nat -> Bool) (n : Nat) (r : Int) : Prop := (r = -1 ∧ ∀ i, i < n -> p i = false) ∨ ∃ k, k < n ∧ r = (k : Nat) ∧ p k = true ∧ ∀ i, i < k -> p i = false
end Go.Cl
namespace Go.Proofs.Ythlbahnfimigcaa
open Go.Cl Go.Lib
end Go.Proofs.Ythlbahnfimigcaa
namespace Go.Cl
end Go.Cl
namespace Go.Proofs.Ythlbahnfimigcaa
open Go.Cl
end Go.Proofs.Ythlbahnfimigcaa
namespace Go.Cl
theorem Turns.trans {v : Value} {s s' s'' : ASt} (h : Turns v s s') (k : Turns v s' s'') : Turns v s s'' :=
 ⟨Nat.le_trans h.next k.next, fun i hi hne => (k.get i (Nat.lt_of_lt_of_le hi h.next) hne).trans (h.get i hi hne)⟩
end Go.Cl
namespace Go.Proofs.Ythlbahnfimigcaa
open Go.Cl
end Go.Proofs.Ythlbahnfimigcaa