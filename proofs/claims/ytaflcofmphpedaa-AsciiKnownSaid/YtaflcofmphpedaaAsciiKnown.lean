/-
  The closed statement AsciiKnown: the law returns true, whatever the world: the machine runs it, in the kernel.
  Conditions: none.
-/
import Derived.Test.YtaflcofmphpedaaRows
import Derived.Test.YtaflcofmphpedaaCl12
import Derived.ProofKit
import Derived.OpenShut
namespace Go.Proofs.Ytaflcofmphpedaa.asciiKnown
open Go.ChangeShapes Go.WideShapes Go.ChangeAt Go.RowKit Go.Cl

theorem own : ownKnob Try.prog.godebug = none := by kernel_rfl
theorem sound : progOk Try.prog [] = true := by kernel_rfl
theorem runs : answersTrue (acall Try.prog [] 1000000 6 [] ASt.empty) = true := by kernel_rfl

set_option maxRecDepth 100000 in
theorem lifted (os : Os) (started : os.Started) (H : Type) (enc : TypeId × Value → H) :
    ReturnsInHanded {} Try.checked os 6 .any (Rows.asciiKnownSpec.pre6 enc Try.prog Try.f6 Rows.asciiKnownRow.domain false) (Rows.asciiKnownSpec.post enc Try.prog Try.f6 false true false false) := by
  refine returnsInHanded_of_change (C := Try.checked) own started (by kernel_rfl) Try.func6
    (ChangeSpec.witness6 (enc := enc) (C := Try.checked) false ⟨#[], #[], []⟩ 8 (by kernel_rfl) (by kernel_rfl) (by kernel_rfl) (by kernel_rfl)) ?_
  intro W base args ds gs before hval0 hW hcnd _
  have hW' := hW
  obtain ⟨p, q, hA0, hV, rfl, hfz, hnd⟩ := hW
  have hA : DataW.TrodAll enc Try.prog W 0 (fun _ => true) true Try.f6.params.toList args.toList ds p := hA0
  rw [Try.params6] at hA
  obtain ⟨rfl, rfl, rfl⟩ := trodAll_none hA
  obtain ⟨rfl, rfl⟩ := trodVars_none hV
  clear hA0 hval0
  simp only [List.append_nil] at hW'
  refine (closed_call sound 1000000 6 runs W).mono fun e W' ⟨he, hb⟩ => ?_
  subst he
  exact ⟨_, rfl, [], [], [], [], [], [], hW', trodAll_cons_mk (shut_bool Try.underlying4 _) trodAll_mk0, rfl, rfl, hb.frame _, fun h => by cases h⟩

theorem over : Rows.asciiKnownRow.holds Try.pinned (OpenSpec.ofChange Rows.asciiKnownSpec) :=
  OpenClaim.holds_of_wide 6 Try.f6 rfl rfl rfl rfl rfl rfl rfl ⟨rfl, rfl, rfl, rfl, rfl⟩ rfl rfl rfl rfl rfl (by kernel_rfl) Try.func6 (by kernel_rfl)
    (of_decide_eq_true (by kernel_rfl)) (by unfold Func.isWrapper; first | (rw [if_pos (by decide +kernel)]; kernel_rfl) | (rw [if_neg (by decide +kernel)]; exact ⟨rfl, rfl⟩))
    (fun os started H enc _ => lifted os started H enc)

/-- THE STATEMENT. -/
theorem proved : Rows.AsciiKnownSaid := over
#print axioms proved
end Go.Proofs.Ytaflcofmphpedaa.asciiKnown
