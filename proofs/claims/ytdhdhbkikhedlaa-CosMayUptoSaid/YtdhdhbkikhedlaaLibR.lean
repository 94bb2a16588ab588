/-
  Functions that the model stands in for, less those of reflectlite: the clean machine's stand-ins, in a list; a law's call by them.
-/
import Derived.Test.YtdhdhbkikhedlaaProg
import Derived.Test.YtdhdhbkikhedlaaPrim
import Derived.Test.YtdhdhbkikhedlaaStart
import Derived.KernelRfl
set_option linter.unusedSimpArgs false
set_option linter.unusedVariables false
set_option maxRecDepth 100000
namespace Go.Cl
open Go.RowKit Go.ChangeShapes Go.WideShapes
variable {P : Program}
theorem Runs.callsL {lib : Prims} (hf : LibFr lib) (ho : LibOk P (fun _ _ => True) lib) (hp : progOk P lib = true) {g : FuncId} (hg : lib.at g = none) {args : List Value} {S : St} {W : World} (hB : Begun W S) (hr : Runs P lib g args S.s fun v _ => v = .bool true) {args' : Array Value} (hv : VRL S args args'.toList) :
    Calls P g args' W fun e w' => e = .returned (.bool true) ∧ Below W.heap.size W w' := by
  obtain ⟨v, s', ⟨n, hn⟩, _, rfl⟩ := hr hB.sr.wf
  have hc := acall_enters (Pre := fun _ _ => True) (fun _ _ _ _ h => h) hf ho hp n (g := g) hg W.heap.size S S.s args _ s' (Same.refl _) hB.sr trivial (hn n (Nat.le_refl _)) args' hv
  rw [hB.w] at hc
  refine Calls.mono hc ?_
  rintro e w' ⟨T, v', _, rfl, rfl, hv, hg⟩
  cases hv
  refine ⟨rfl, ?_⟩
  have := hg.below
  rw [hB.w] at this
  exact this
end Go.Cl
namespace Go.Proofs.Ytdhdhbkikhedlaa
open Go.Cl
theorem extAt {g : FuncId} {fn : Func} {e : Array Value → Sem Value} (h : Try.prog.funcs[g]? = some fn) (h1 : (fn.name == "runtime.NumGoroutine") = false := by kernel_rfl) (h2 : fn.body.isNone = true := by kernel_rfl) (h3 : Extern.findNext fn = none := by kernel_rfl) (h4 : Extern.find fn = some e := by kernel_rfl) : ExtAt Try.prog g e := ⟨fn, h, h1, h2, h3, h4⟩
noncomputable abbrev libN : Prims :=
  (90, pIndexByteStr) ::
  (83, pCmpStr) ::
  (81, pValueOf Try.prog) ::
  (82, pLen Try.prog) ::
  []
theorem libFr : LibFr libN :=
  LibFr.cons pIndexByteStr_fr <|
  LibFr.cons pCmpStr_fr <|
  LibFr.cons (pValueOf_fr _) <|
  LibFr.cons (pLen_fr _) <|
  LibFr.nil
theorem libOk (Pre : Nat → World → Prop) : LibOk Try.prog Pre libN :=
  LibOk.cons (PrimAt.ok _ (extAt Try.func90) (pIndexByteStr_fr) (pIndexByteStr_at)) <|
  LibOk.cons (PrimAt.ok _ (extAt Try.func83) (pCmpStr_fr) (pCmpStr_at)) <|
  LibOk.cons (PrimAt.ok _ (extAt Try.func81) (pValueOf_fr _) (pValueOf_at)) <|
  LibOk.cons (PrimAt.ok _ (extAt Try.func82) (pLen_fr _) (pLen_at)) <|
  LibOk.nil _ _
end Go.Proofs.Ytdhdhbkikhedlaa
