/-
  Objects: keys compared, slices.IndexFunc, Clone, DeleteFunc of entries.
-/
import Derived.Test.YthlbahnfimigcaaCosE
import Derived.Test.YthlbahnfimigcaaObjT
import Derived.Test.YthlbahnfimigcaaClearW
set_option linter.unusedSimpArgs false
set_option linter.unusedVariables false
/-
  Objects: keys compared; the first entry that a closure takes.
-/
namespace Go.Cl
theorem aop_makeFunc {P : Program} {d : Option Tmp} {ty : TypeId} {ps : String} {af : Array Edge} {gd : Option (Nat × Bool)} {f : AFr} {s : ASt} (g : FuncId) (xs bs : Array Operand) : aop P ⟨d, .makeFunc (.func g) xs bs, ty, ps, af, gd⟩ f s = match evalAll f xs.toList, evalAll f bs.toList with
    | some l, some m => some (.val (.func (.func g) l.toArray m.toArray) s)
    | _, _ => none := rfl
/-- The first of so many that is taken, or none. -/
def FirstAt (p : Nat → Bool) (n : Nat) (r : Int) : Prop := (r = -1 ∧ ∀ i, i < n → p i = false) ∨ ∃ k, k < n ∧ r = (k : Nat) ∧ p k = true ∧ ∀ i, i < k → p i = false
end Go.Cl
namespace Go.Proofs.Ythlbahnfimigcaa
open Go.Cl Go.Lib
end Go.Proofs.Ythlbahnfimigcaa
/-
  Objects: slices.Clone of entries.
-/
namespace Go.Cl
/-- Rows that are good are good together. -/
theorem rows_ok {z : Nat} (hz : 0 < z) : ∀ (n : Nat) (l : List Value), l.length = n * z → (∀ i, i < n → ((l.drop (i * z)).take z).all okCell = true) → l.all okCell = true
  | 0, l, h, _ => by
    have : l = [] := List.eq_nil_of_length_eq_zero (by omega)
    rw [this]; rfl
  | n + 1, l, h, k => by
    have h1 : (l.take z).all okCell = true := by
      have := k 0 (by omega)
      rwa [Nat.zero_mul, List.drop_zero] at this
    have h2 : (l.drop z).all okCell = true := by
      refine rows_ok hz n _ (by rw [List.length_drop, h, Nat.succ_mul]; omega) (fun i hi => ?_)
      have := k (i + 1) (by omega)
      rw [List.drop_drop]
      rwa [Nat.succ_mul, Nat.add_comm] at this
    rw [← List.take_append_drop z l, List.all_append, h1, h2]; rfl
end Go.Cl
namespace Go.Proofs.Ythlbahnfimigcaa
open Go.Cl
end Go.Proofs.Ythlbahnfimigcaa
/-
  Objects: slices.DeleteFunc of entries.
-/
namespace Go.Cl
theorem Turns.trans {v : Value} {s s' s'' : ASt} (h : Turns v s s') (k : Turns v s' s'') : Turns v s s'' :=
  ⟨Nat.le_trans h.next k.next, fun i hi hne => (k.get i (Nat.lt_of_lt_of_le hi h.next) hne).trans (h.get i hi hne)⟩
end Go.Cl
namespace Go.Proofs.Ythlbahnfimigcaa
open Go.Cl
end Go.Proofs.Ythlbahnfimigcaa
