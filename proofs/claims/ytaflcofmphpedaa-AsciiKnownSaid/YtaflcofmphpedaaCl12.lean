/-
  The clean machine, part 12: calls from nothing: a call without arguments that the machine answers with true answers true in the model, whatever the world.
-/
import Derived.Test.YtaflcofmphpedaaCl11
namespace Go.Cl
open Go.RowKit

/-- The machine that knows nothing, beside any world. -/
def St.start (w : World) : St := ⟨ASt.empty, ⟨fun _ _ => (0, 0), fun _ => 0⟩, w⟩
theorem SR.start (w : World) : SR w.heap.size (St.start w) := by
  refine ⟨by simp [St.start, ASt.empty], ?_, ?_, ?_, ?_, ?_, ?_, Nat.le_refl _, ?_⟩ <;> intros <;> simp_all [St.start, ASt.empty, ASt.blk?, ASt.map?, Tr.get]

theorem closed_call {P : Program} {bad : List Nat} (hp : progOk P bad = true) (n : Nat) (g : FuncId) (h : answersTrue (acall P bad n g [] ASt.empty) = true) (w : World) :
    Calls P g #[] w fun e w' => e = .returned (.bool true) ∧ Below w.heap.size w w' := by
  unfold answersTrue at h
  split at h
  · rename_i b s' hc
    obtain ⟨_, hcalls⟩ := acall_ok hp n w.heap.size (St.start w) ASt.empty g [] (.bool b) s' (Same.refl _) (SR.start w) hc #[] VRL.nil
    refine Calls.mono hcalls ?_
    rintro e w' ⟨T, v', _, rfl, rfl, hv, hg⟩
    cases hv
    exact ⟨by rw [h], hg.below⟩
  · cases h

end Go.Cl
