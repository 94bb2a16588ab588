/-
  The closed statement ChainKnown: the law returns true, whatever the world: the machine runs it, in the kernel.
  Conditions: none.
-/
import Derived.Test.YtboafokjgnikcaaGreatRows
import Derived.Test.YtboafokjgnikcaaGreatPrim
import Derived.ProofKit
import Derived.OpenShut
set_option linter.unusedSimpArgs false
set_option linter.unusedVariables false
namespace Go.Proofs.YtboafokjgnikcaaGreat.chainKnown
open Go.ChangeShapes Go.WideShapes Go.ChangeAt Go.RowKit Go.Cl

theorem ext {g : FuncId} {fn : Func} {e : Array Value → Sem Value} (h : Tryz.prog.funcs[g]? = some fn) (h1 : (fn.name == "runtime.NumGoroutine") = false := by kernel_rfl) (h2 : fn.body.isNone = true := by kernel_rfl) (h3 : Extern.findNext fn = none := by kernel_rfl) (h4 : Extern.find fn = some e := by kernel_rfl) : ExtAt Tryz.prog g e := ⟨fn, h, h1, h2, h3, h4⟩
theorem libFr : LibFr [(102, pNoZero), (137, pCmpStr)] := (LibFr.cons (pNoZero_fr) (LibFr.cons (pCmpStr_fr) LibFr.nil))
theorem libOk (Pre : Nat → World → Prop) : LibOk Tryz.prog Pre [(102, pNoZero), (137, pCmpStr)] := (LibOk.cons (PrimAt.ok _ (ext Tryz.func102) (pNoZero_fr) (pNoZero_at (ps := #[3]) (t := 27) (e := 5) Tryz.underlying27)) ((LibOk.cons (PrimAt.ok _ (ext Tryz.func137) (pCmpStr_fr) (pCmpStr_at)) (LibOk.nil _ _))))
theorem own : ownKnob Tryz.prog.godebug = none := by kernel_rfl
theorem sound : progOk Tryz.prog [(102, pNoZero), (137, pCmpStr)] = true := by kernel_rfl
theorem runs : answersTrue (acall Tryz.prog [(102, pNoZero), (137, pCmpStr)] 1000000 3 [] ASt.empty) = true := by kernel_rfl

set_option maxRecDepth 100000 in
theorem lifted (os : Os) (started : os.Started) (H : Type) (enc : TypeId × Value → H) :
    ReturnsInHanded {} Tryz.checked os 3 .any (Rows.chainKnownSpec.pre6 enc Tryz.prog Tryz.f3 Rows.chainKnownRow.domain false) (Rows.chainKnownSpec.post enc Tryz.prog Tryz.f3 false true false false) := by
  refine returnsInHanded_of_change (C := Tryz.checked) own started (by kernel_rfl) Tryz.func3
    (ChangeSpec.witness6 (enc := enc) (C := Tryz.checked) false ⟨#[], #[], []⟩ 8 (by kernel_rfl) (by kernel_rfl) (by kernel_rfl) (by kernel_rfl)) ?_
  intro W base args ds gs before hval0 hW hcnd _
  have hW' := hW
  obtain ⟨p, q, hA0, hV, rfl, hfz, hnd⟩ := hW
  have hA : DataW.TrodAll enc Tryz.prog W 0 (fun _ => true) true Tryz.f3.params.toList args.toList ds p := hA0
  rw [Tryz.params3] at hA
  obtain ⟨rfl, rfl, rfl⟩ := trodAll_none hA
  obtain ⟨rfl, rfl⟩ := trodVars_none hV
  clear hA0 hval0
  simp only [List.append_nil] at hW'
  refine (closed_call_at (Pre := fun _ _ => True) (fun _ _ _ _ h => h) libFr (libOk _) sound 1000000 3 rfl runs W trivial).mono fun e W' ⟨he, hb⟩ => ?_
  subst he
  exact ⟨_, rfl, [], [], [], [], [], [], hW', trodAll_cons_mk (shut_bool Tryz.underlying4 _) trodAll_mk0, rfl, rfl, hb.frame _, fun h => by cases h⟩

theorem over : Rows.chainKnownRow.holds Tryz.pinned (OpenSpec.ofChange Rows.chainKnownSpec) :=
  OpenClaim.holds_of_wide 3 Tryz.f3 rfl rfl rfl rfl rfl rfl rfl ⟨rfl, rfl, rfl, rfl, rfl⟩ rfl rfl rfl rfl rfl (by kernel_rfl) Tryz.func3 (by kernel_rfl)
    (of_decide_eq_true (by kernel_rfl)) (by unfold Func.isWrapper; first | (rw [if_pos (by decide +kernel)]; kernel_rfl) | (rw [if_neg (by decide +kernel)]; exact ⟨rfl, rfl⟩))
    (fun os started H enc _ => lifted os started H enc)

/-- THE STATEMENT. -/
theorem proved : Rows.ChainKnownSaid := over
#print axioms proved
end Go.Proofs.YtboafokjgnikcaaGreat.chainKnown
