/-
  The closed statement PagesKnown: the law returns true, whatever the world: the machine runs it, in the kernel.
  Conditions: none.
-/
import Derived.Test.YtboafokjgnikcaaRows
import Derived.Test.YtboafokjgnikcaaPrim
import Derived.ProofKit
import Derived.OpenShut
set_option linter.unusedSimpArgs false
set_option linter.unusedVariables false
namespace Go.Proofs.Ytboafokjgnikcaa.pagesKnown
open Go.ChangeShapes Go.WideShapes Go.ChangeAt Go.RowKit Go.Cl

theorem ext {g : FuncId} {fn : Func} {e : Array Value → Sem Value} (h : Try.prog.funcs[g]? = some fn) (h1 : (fn.name == "runtime.NumGoroutine") = false := by kernel_rfl) (h2 : fn.body.isNone = true := by kernel_rfl) (h3 : Extern.findNext fn = none := by kernel_rfl) (h4 : Extern.find fn = some e := by kernel_rfl) : ExtAt Try.prog g e := ⟨fn, h, h1, h2, h3, h4⟩
theorem libFr : LibFr [(126, pNoZero), (207, pIndexByteStr), (202, pCmpStr), (184, pValueOf Try.prog), (185, pLen Try.prog)] := (LibFr.cons (pNoZero_fr) (LibFr.cons (pIndexByteStr_fr) (LibFr.cons (pCmpStr_fr) (LibFr.cons (pValueOf_fr _) (LibFr.cons (pLen_fr _) LibFr.nil)))))
theorem libOk (Pre : Nat → World → Prop) : LibOk Try.prog Pre [(126, pNoZero), (207, pIndexByteStr), (202, pCmpStr), (184, pValueOf Try.prog), (185, pLen Try.prog)] := (LibOk.cons (PrimAt.ok _ (ext Try.func126) (pNoZero_fr) (pNoZero_at (ps := #[3]) (t := 23) (e := 5) Try.underlying23)) ((LibOk.cons (PrimAt.ok _ (ext Try.func207) (pIndexByteStr_fr) (pIndexByteStr_at)) ((LibOk.cons (PrimAt.ok _ (ext Try.func202) (pCmpStr_fr) (pCmpStr_at)) ((LibOk.cons (PrimAt.ok _ (ext Try.func184) (pValueOf_fr _) (pValueOf_at)) ((LibOk.cons (PrimAt.ok _ (ext Try.func185) (pLen_fr _) (pLen_at)) (LibOk.nil _ _))))))))))
theorem own : ownKnob Try.prog.godebug = none := by kernel_rfl
theorem sound : progOk Try.prog [(126, pNoZero), (207, pIndexByteStr), (202, pCmpStr), (184, pValueOf Try.prog), (185, pLen Try.prog)] = true := by kernel_rfl
theorem runs : answersTrue (acall Try.prog [(126, pNoZero), (207, pIndexByteStr), (202, pCmpStr), (184, pValueOf Try.prog), (185, pLen Try.prog)] 1000000 6 [] ASt.empty) = true := by kernel_rfl

set_option maxRecDepth 100000 in
theorem lifted (os : Os) (started : os.Started) (H : Type) (enc : TypeId × Value → H) :
    ReturnsInHanded {} Try.checked os 6 .any (Rows.pagesKnownSpec.pre6 enc Try.prog Try.f6 Rows.pagesKnownRow.domain false) (Rows.pagesKnownSpec.post enc Try.prog Try.f6 false true false false) := by
  refine returnsInHanded_of_change (C := Try.checked) own started (by kernel_rfl) Try.func6
    (ChangeSpec.witness6 (enc := enc) (C := Try.checked) false ⟨#[], #[], []⟩ 8 (by kernel_rfl) (by kernel_rfl) (by kernel_rfl) (by kernel_rfl)) ?_
  intro W base args ds gs before hval0 hW hcnd _
  have hW' := hW
  obtain ⟨p, q, hA0, hV, rfl, hfz, hnd⟩ := hW
  have hA : DataW.TrodAll enc Try.prog W 0 (fun _ => true) true Try.f6.params.toList args.toList ds p := hA0
  rw [Try.params6] at hA
  obtain ⟨rfl, rfl, rfl⟩ := trodAll_none hA
  obtain ⟨rfl, rfl⟩ := trodVars_none hV
  clear hA0 hval0
  simp only [List.append_nil] at hW'
  refine (closed_call_at (Pre := fun _ _ => True) (fun _ _ _ _ h => h) libFr (libOk _) sound 1000000 6 rfl runs W trivial).mono fun e W' ⟨he, hb⟩ => ?_
  subst he
  exact ⟨_, rfl, [], [], [], [], [], [], hW', trodAll_cons_mk (shut_bool Try.underlying4 _) trodAll_mk0, rfl, rfl, hb.frame _, fun h => by cases h⟩

theorem over : Rows.pagesKnownRow.holds Try.pinned (OpenSpec.ofChange Rows.pagesKnownSpec) :=
  OpenClaim.holds_of_wide 6 Try.f6 rfl rfl rfl rfl rfl rfl rfl ⟨rfl, rfl, rfl, rfl, rfl⟩ rfl rfl rfl rfl rfl (by kernel_rfl) Try.func6 (by kernel_rfl)
    (of_decide_eq_true (by kernel_rfl)) (by unfold Func.isWrapper; first | (rw [if_pos (by decide +kernel)]; kernel_rfl) | (rw [if_neg (by decide +kernel)]; exact ⟨rfl, rfl⟩))
    (fun os started H enc _ => lifted os started H enc)

/-- THE STATEMENT. -/
theorem proved : Rows.PagesKnownSaid := over
#print axioms proved
end Go.Proofs.Ytboafokjgnikcaa.pagesKnown
