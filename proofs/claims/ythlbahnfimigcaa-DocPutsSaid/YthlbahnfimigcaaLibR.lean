import Derived.Test.YthlbahnfimigcaaProg
import Derived.Test.YthlbahnfimigcaaPrim
import Derived.Test.YthlbahnfimigcaaStart
import Derived.KernelRfl
set_option linter.unusedSimpArgs false
set_option linter.unusedVariables false
set_option maxRecDepth 100000
namespace Go.Cl
open Go.RowKit Go.ChangeShapes Go.WideShapes
variable {P : Program}
theorem Runs.callsL {lib : Prims} (hf : LibFr lib) (ho : LibOk P (fun _ _ => True) lib) (hp : progOk P lib = true) {g : FuncId} (hg : lib.at g = none) {args : List Value} {S : St} {W : World} (hB : Begun W S) (hr : Runs P lib g args S.s fun v _ => v = .bool true) {args' : Array Value} (hv : VRL S args args'.toList) :
  Calls P g args' W fun e w' => e = .returned (.bool true) ∧ Below W.heap.size W w' := by
 obtain ⟨v, s', ⟨n, hn⟩, _, rfl⟩ := hr hB.sr.wf
 have hc := acall_enters (Pre := fun _ _ => True) (fun _ _ _ _ h => h) hf ho hp n (g := g) hg W.heap.size S S.s args _ s' (Same.refl _) hB.sr trivial (hn n (Nat.le_refl _)) args' hv
 rw [hB.w] at hc
 refine Calls.mono hc ?_
 rintro e w' ⟨T, v', _, rfl, rfl, hv, hg⟩
 cases hv
 refine ⟨rfl, ?_⟩
 have := hg.below
 rw [hB.w] at this
 exact this
end Go.Cl
namespace Go.Proofs.Ythlbahnfimigcaa
open Go.Cl
noncomputable abbrev libN : Prims :=
 []
theorem libFr : LibFr libN :=
 LibFr.nil
theorem libOk (Pre : Nat -> World -> Prop) : LibOk Try.prog Pre libN :=
 LibOk.nil _ _
end Go.Proofs.Ythlbahnfimigcaa