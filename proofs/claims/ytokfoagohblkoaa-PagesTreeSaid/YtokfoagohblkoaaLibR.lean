import Derived.Test.YtokfoagohblkoaaProg
import Derived.Test.YtokfoagohblkoaaPrim
import Derived.Test.YtokfoagohblkoaaStart
import Derived.KernelRfl
set_option linter.unusedSimpArgs false
set_option linter.unusedVariables false
set_option maxRecDepth 100000
namespace Go.Cl
open Go.RowKit Go.ChangeShapes Go.WideShapes
variable {P : Program}
theorem Runs.callsL {lib : Prims} (hf : LibFr lib) (ho : LibOk P (fun _ _ => True) lib) (hp : progOk P lib = true) {g : FuncId} (hg : lib.at g = none) {args : List Value} {S : St} {W : World} (hB : Begun W S) (hr : Runs P lib g args S.s fun v _ => v = .bool true) {args' : Array Value} (hv : VRL S args args'.toList) :
    Calls P g args' W fun e w' => e = .returned (.bool true) ∧ Below W.heap.size W w' := by
  obtain ⟨v, s', ⟨n, hn⟩, _, rfl⟩ := hr hB.sr.wf
  have hc := acall_enters (Pre := fun _ _ => True) (fun _ _ _ _ h => h) hf ho hp n (g := g) hg W.heap.size S S.s args _ s' (Same.refl _) hB.sr trivial (hn n (Nat.le_refl _)) args' hv
  rw [hB.w] at hc
  refine Calls.mono hc ?_
  rintro e w' ⟨T, v', _, rfl, rfl, hv, hg⟩
  cases hv
  refine ⟨rfl, ?_⟩
  have := hg.below
  rw [hB.w] at this
  exact this
end Go.Cl
namespace Go.Proofs.Ytokfoagohblkoaa
open Go.Cl
theorem extAt {g : FuncId} {fn : Func} {e : Array Value → Sem Value} (h : Try.prog.funcs[g]? = some fn) (h1 : (fn.name == "runtime.NumGoroutine") = false := by kernel_rfl) (h2 : fn.body.isNone = true := by kernel_rfl) (h3 : Extern.findNext fn = none := by kernel_rfl) (h4 : Extern.find fn = some e := by kernel_rfl) : ExtAt Try.prog g e := ⟨fn, h, h1, h2, h3, h4⟩
abbrev libN : Prims :=
  (74, pCmpStr) ::
  []
theorem libFr : LibFr libN :=
  LibFr.cons pCmpStr_fr <|
  LibFr.nil
theorem libOk (Pre : Nat → World → Prop) : LibOk Try.prog Pre libN :=
  LibOk.cons (PrimAt.ok _ (extAt Try.func74) (pCmpStr_fr) (pCmpStr_at)) <|
  LibOk.nil _ _
end Go.Proofs.Ytokfoagohblkoaa
