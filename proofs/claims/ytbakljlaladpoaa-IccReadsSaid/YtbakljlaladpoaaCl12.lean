/-
  The clean machine, part 12: calls from nothing: a call without arguments that the machine answers with true answers true in the model, whatever the world.
-/
import Derived.Test.YtbakljlaladpoaaCl11
namespace Go.Cl
open Go.RowKit

/-- The machine that knows nothing, beside any world. -/
def St.start (w : World) : St := ⟨ASt.empty, ⟨fun _ _ => (0, 0), fun _ => 0⟩, w⟩
theorem SR.start (w : World) : SR w.heap.size (St.start w) := by
  refine ⟨by omega, ?_, ?_, ?_, ?_, ?_, ?_, Nat.le_refl _, ?_⟩ <;> intros <;> simp_all [St.start, ASt.empty, ASt.blk?, ASt.map?, Tr.get]

theorem closed_call_at {P : Program} {Pre : Nat → World → Prop} (hst : Stays Pre) {lib : Prims} (hlf : LibFr lib) (hlib : LibOk P Pre lib) (hp : progOk P lib = true) (n : Nat) (g : FuncId) (hg : lib.at g = none) (h : answersTrue (acall P lib n g [] ASt.empty) = true) (w : World) (hw : Pre w.heap.size w) :
    Calls P g #[] w fun e w' => e = .returned (.bool true) ∧ Below w.heap.size w w' := by
  unfold answersTrue at h
  split at h
  · rename_i b s' hc
    have hcalls := acall_enters hst hlf hlib hp n hg w.heap.size (St.start w) ASt.empty [] (.bool b) s' (Same.refl _) (SR.start w) hw hc #[] VRL.nil
    refine Calls.mono hcalls ?_
    rintro e w' ⟨T, v', _, rfl, rfl, hv, hg⟩
    cases hv
    exact ⟨by rw [h], hg.below⟩
  · cases h
theorem closed_call {P : Program} (hp : progOk P [] = true) (n : Nat) (g : FuncId) (h : answersTrue (acall P [] n g [] ASt.empty) = true) (w : World) :
    Calls P g #[] w fun e w' => e = .returned (.bool true) ∧ Below w.heap.size w w' :=
  closed_call_at (Pre := fun _ _ => True) (fun _ _ _ _ h => h) LibFr.nil (LibOk.nil P _) hp n g rfl h w trivial

end Go.Cl
