/-
  The clean machine: a law's argument that is a slice of structs, whose fields are whole numbers or texts.
-/
import Derived.Test.YtnclklboogdoiaaStart
namespace Go.Cl
open Go.RowKit Go.ChangeShapes Go.WideShapes
theorem add_none (b o n : Nat) : (⟨b, o, none⟩ : Addr).add n = ⟨b, o + n, none⟩ := by
  unfold Addr.add; split
  · rename_i h; subst h; rfl
  · rfl
theorem cell_spot {W : World} {a : Addr} {v : Value} (h : W.cell? a = some v) : a.spot = none := by
  unfold World.cell? at h
  split at h
  · split at h
    · cases h
    · rename_i q; simpa using q
  · cases h
theorem cell_size {W : World} {b o : Nat} {v : Value} (h : W.cell? ⟨b, o, none⟩ = some v) : ∃ arr E fr, W.heap[b]? = some (.cells arr E fr) ∧ o < arr.size := by
  unfold World.cell? at h
  split at h
  · rename_i c E fr hh
    refine ⟨c, E, fr, hh, ?_⟩
    simp only [Option.isSome_none, Bool.false_eq_true, if_false] at h
    rcases Nat.lt_or_ge o c.size with q | q
    · exact q
    · rw [Array.getElem?_eq_none q] at h; cases h
  · cases h
variable {H : Type} {enc : TypeId × Value → H} {P : Program}
end Go.Cl
