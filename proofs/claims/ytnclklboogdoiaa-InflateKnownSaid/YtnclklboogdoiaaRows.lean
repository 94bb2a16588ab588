/-
  No cell of these rows narrows 'for every input' (looked for: loops, veiled, ifaces, maps, wideKeys, modest, calm, conditions, laid).
  DERIVED. THE GIVEN ROWS OF THIS SEAT. 7 by the template 'for every input the law returns true; each argument reads behind the call as it read before'; 0 by the template 'total and deterministic' (their statements: YtnclklboogdoiaaTotals.lean).
  GIVEN WITH THE SEED: the statements are not yours to turn. If you find one false, say at which input.
  Laid BY PROGRAM, IN A SANDBOX (cutbox-rows.mjs): the forced cells as the released guide's own fill.sh prints them over the translation 26a4ae7bec6e78b4… (all of the seat's roots in one cut). By AI agents, Wed Nov 11 2026. No macro, syntax, notation, axiom, sorry.
-/
import Derived.Test.YtnclklboogdoiaaChecked
import GoSem.Claim
import GoSem.ClaimJoined
import GoSem.ClaimMapViews
import Derived.JoinedTies
import Derived.KernelRfl
namespace Go.Proofs.Ytnclklboogdoiaa
/- THE CELL 'sum', in the pinned program and in every row, IS THE sha256 OF THE DUMP (.gsa) THAT YtnclklboogdoiaaProg.lean LOADS. Nothing in Lean hashes anything: it is a label: what it is worth is what the hold of that sum in a sandbox is worth. -/
noncomputable def Try.pinned : Pinned := { name := "ytnclklboogdoiaa", sum := "26a4ae7bec6e78b481933109941765d55b49d3888802376b82ae862452aefccb", checked := Try.checked }
namespace Rows
def none {H : Type} : Left H := { results := [], args := [] }

/-- 'pressmarklaw4.InflateBits': WHATEVER THE INPUT: true; the input reads as it did. -/
def inflateBitsSpec : ChangeSpec := { name := "inflateBits", fn := fun _ => fun
  | [d1, d2] => { results := [.lit (.bool true)], args := [d1, d2] }
  | _ => none }
def inflateBitsRow : OpenClaim := { program := "ytnclklboogdoiaa", sum := "26a4ae7bec6e78b481933109941765d55b49d3888802376b82ae862452aefccb", func := "pressmark/pressmarklaw4.InflateBits", spec := "inflateBits", apart := false }
def InflateBitsSaid : Prop := inflateBitsRow.holds Try.pinned (OpenSpec.ofChange inflateBitsSpec)

/-- ITS FALSE NEIGHBOUR: 'it returns false'. Refute it at one input. -/
def inflateBitsWrong : ChangeSpec := { name := "inflateBits", fn := fun _ => fun
  | [d1, d2] => { results := [.lit (.bool false)], args := [d1, d2] }
  | _ => none }
def InflateBitsWrongFalsely : Prop := inflateBitsRow.holds Try.pinned (OpenSpec.ofChange inflateBitsWrong)

/-- 'pressmarklaw4.InflateBlocks': WHATEVER THE INPUT: true; the input reads as it did. -/
def inflateBlocksSpec : ChangeSpec := { name := "inflateBlocks", fn := fun _ => fun
  | [d1, d2] => { results := [.lit (.bool true)], args := [d1, d2] }
  | _ => none }
def inflateBlocksRow : OpenClaim := { program := "ytnclklboogdoiaa", sum := "26a4ae7bec6e78b481933109941765d55b49d3888802376b82ae862452aefccb", func := "pressmark/pressmarklaw4.InflateBlocks", spec := "inflateBlocks", apart := false }
def InflateBlocksSaid : Prop := inflateBlocksRow.holds Try.pinned (OpenSpec.ofChange inflateBlocksSpec)

/-- ITS FALSE NEIGHBOUR: 'it returns false'. Refute it at one input. -/
def inflateBlocksWrong : ChangeSpec := { name := "inflateBlocks", fn := fun _ => fun
  | [d1, d2] => { results := [.lit (.bool false)], args := [d1, d2] }
  | _ => none }
def InflateBlocksWrongFalsely : Prop := inflateBlocksRow.holds Try.pinned (OpenSpec.ofChange inflateBlocksWrong)

/-- 'pressmarklaw4.InflateJoins': WHATEVER THE INPUT: true; the input reads as it did. -/
def inflateJoinsSpec : ChangeSpec := { name := "inflateJoins", fn := fun _ => fun
  | [d1, d2] => { results := [.lit (.bool true)], args := [d1, d2] }
  | _ => none }
def inflateJoinsRow : OpenClaim := { program := "ytnclklboogdoiaa", sum := "26a4ae7bec6e78b481933109941765d55b49d3888802376b82ae862452aefccb", func := "pressmark/pressmarklaw4.InflateJoins", spec := "inflateJoins", apart := false }
def InflateJoinsSaid : Prop := inflateJoinsRow.holds Try.pinned (OpenSpec.ofChange inflateJoinsSpec)

/-- ITS FALSE NEIGHBOUR: 'it returns false'. Refute it at one input. -/
def inflateJoinsWrong : ChangeSpec := { name := "inflateJoins", fn := fun _ => fun
  | [d1, d2] => { results := [.lit (.bool false)], args := [d1, d2] }
  | _ => none }
def InflateJoinsWrongFalsely : Prop := inflateJoinsRow.holds Try.pinned (OpenSpec.ofChange inflateJoinsWrong)

/-- 'pressmarklaw4.InflateKnown': WHATEVER THE INPUT: true; the input reads as it did. -/
def inflateKnownSpec : ChangeSpec := { name := "inflateKnown", fn := fun _ => fun
  | [] => { results := [.lit (.bool true)], args := [] }
  | _ => none }
def inflateKnownRow : OpenClaim := { program := "ytnclklboogdoiaa", sum := "26a4ae7bec6e78b481933109941765d55b49d3888802376b82ae862452aefccb", func := "pressmark/pressmarklaw4.InflateKnown", spec := "inflateKnown", apart := false }
def InflateKnownSaid : Prop := inflateKnownRow.holds Try.pinned (OpenSpec.ofChange inflateKnownSpec)

/-- ITS FALSE NEIGHBOUR: 'it returns false'. Refute it at one input. -/
def inflateKnownWrong : ChangeSpec := { name := "inflateKnown", fn := fun _ => fun
  | [] => { results := [.lit (.bool false)], args := [] }
  | _ => none }
def InflateKnownWrongFalsely : Prop := inflateKnownRow.holds Try.pinned (OpenSpec.ofChange inflateKnownWrong)

/-- 'pressmarklaw4.InflateZlib': WHATEVER THE INPUT: true; the input reads as it did. -/
def inflateZlibSpec : ChangeSpec := { name := "inflateZlib", fn := fun _ => fun
  | [d1, d2] => { results := [.lit (.bool true)], args := [d1, d2] }
  | _ => none }
def inflateZlibRow : OpenClaim := { program := "ytnclklboogdoiaa", sum := "26a4ae7bec6e78b481933109941765d55b49d3888802376b82ae862452aefccb", func := "pressmark/pressmarklaw4.InflateZlib", spec := "inflateZlib", apart := false }
def InflateZlibSaid : Prop := inflateZlibRow.holds Try.pinned (OpenSpec.ofChange inflateZlibSpec)

/-- ITS FALSE NEIGHBOUR: 'it returns false'. Refute it at one input. -/
def inflateZlibWrong : ChangeSpec := { name := "inflateZlib", fn := fun _ => fun
  | [d1, d2] => { results := [.lit (.bool false)], args := [d1, d2] }
  | _ => none }
def InflateZlibWrongFalsely : Prop := inflateZlibRow.holds Try.pinned (OpenSpec.ofChange inflateZlibWrong)

/-- 'pressmarklaw4.InflateBack': WHATEVER THE INPUT: true; the input reads as it did. -/
def inflateBackSpec : ChangeSpec := { name := "inflateBack", fn := fun _ => fun
  | [d1, d2] => { results := [.lit (.bool true)], args := [d1, d2] }
  | _ => none }
def inflateBackRow : OpenClaim := { program := "ytnclklboogdoiaa", sum := "26a4ae7bec6e78b481933109941765d55b49d3888802376b82ae862452aefccb", func := "pressmark/pressmarklaw4.InflateBack", spec := "inflateBack", apart := false }
def InflateBackSaid : Prop := inflateBackRow.holds Try.pinned (OpenSpec.ofChange inflateBackSpec)

/-- ITS FALSE NEIGHBOUR: 'it returns false'. Refute it at one input. -/
def inflateBackWrong : ChangeSpec := { name := "inflateBack", fn := fun _ => fun
  | [d1, d2] => { results := [.lit (.bool false)], args := [d1, d2] }
  | _ => none }
def InflateBackWrongFalsely : Prop := inflateBackRow.holds Try.pinned (OpenSpec.ofChange inflateBackWrong)

/-- 'pressmarklaw4.InflateCuts': WHATEVER THE INPUT: true; the input reads as it did. -/
def inflateCutsSpec : ChangeSpec := { name := "inflateCuts", fn := fun _ => fun
  | [d1, d2] => { results := [.lit (.bool true)], args := [d1, d2] }
  | _ => none }
def inflateCutsRow : OpenClaim := { program := "ytnclklboogdoiaa", sum := "26a4ae7bec6e78b481933109941765d55b49d3888802376b82ae862452aefccb", func := "pressmark/pressmarklaw4.InflateCuts", spec := "inflateCuts", apart := false }
def InflateCutsSaid : Prop := inflateCutsRow.holds Try.pinned (OpenSpec.ofChange inflateCutsSpec)

/-- ITS FALSE NEIGHBOUR: 'it returns false'. Refute it at one input. -/
def inflateCutsWrong : ChangeSpec := { name := "inflateCuts", fn := fun _ => fun
  | [d1, d2] => { results := [.lit (.bool false)], args := [d1, d2] }
  | _ => none }
def InflateCutsWrongFalsely : Prop := inflateCutsRow.holds Try.pinned (OpenSpec.ofChange inflateCutsWrong)

/- THE SECOND FORM. 'bulk': how many values and letters a reading holds, each counted each time it is reached (what is shared counts as often as it is met; a slice's spare places count too). A statement '..UptoSaid' is the law's where the arguments, and the package variables that the reading takes, are together of bulk at most 1048576: NARROWER than '..Said'. Prove '..Said' where nothing that the law and all that it calls make is longer than what came in: it says more and counts as full. Else prove '..UptoSaid'. A law counts once. -/
mutual
def uptoBulk {H : Type} : DataW H → Nat
  | .lit (.string bytes) => bytes.length + 1
  | .lit _ => 1
  | .nil => 1
  | .ptr d => uptoBulk d + 1
  | .slice elems spare => uptoBulkAll elems + uptoBulkAll spare + 1
  | .agg parts => uptoBulkAll parts + 1
  | .iface _ d => uptoBulk d + 1
  | .map entries => uptoBulkEntries entries + 1
  | .held _ => 1
def uptoBulkAll {H : Type} : List (DataW H) → Nat
  | [] => 0
  | d :: r => uptoBulk d + uptoBulkAll r
def uptoBulkEntries {H : Type} : List (Lit × DataW H) → Nat
  | [] => 0
  | x :: r => uptoBulkEntry x + uptoBulkEntries r
def uptoBulkEntry {H : Type} : Lit × DataW H → Nat
  | (.string bytes, d) => bytes.length + uptoBulk d + 1
  | (_, d) => uptoBulk d + 1
 end
def uptoSmall : (H : Type) → List (DataW H) → Bool := fun _ ds => decide (uptoBulkAll ds ≤ 1048576)
def OpenSpec.upto (s : _root_.Go.ChangeSpec) : _root_.Go.OpenSpec := { _root_.Go.OpenSpec.ofChange s with cond := some uptoSmall }

/-- 'pressmarklaw4.InflateBits', WHERE WHAT IT READS IS OF BULK AT MOST 1048576: true; the input reads as it did. -/
def inflateBitsUptoRow : OpenClaim := { program := "ytnclklboogdoiaa", sum := "26a4ae7bec6e78b481933109941765d55b49d3888802376b82ae862452aefccb", func := "pressmark/pressmarklaw4.InflateBits", spec := "inflateBits", apart := false, narrowed := true }
def InflateBitsUptoSaid : Prop := inflateBitsUptoRow.holds Try.pinned (OpenSpec.upto inflateBitsSpec)

/-- 'pressmarklaw4.InflateBlocks', WHERE WHAT IT READS IS OF BULK AT MOST 1048576: true; the input reads as it did. -/
def inflateBlocksUptoRow : OpenClaim := { program := "ytnclklboogdoiaa", sum := "26a4ae7bec6e78b481933109941765d55b49d3888802376b82ae862452aefccb", func := "pressmark/pressmarklaw4.InflateBlocks", spec := "inflateBlocks", apart := false, narrowed := true }
def InflateBlocksUptoSaid : Prop := inflateBlocksUptoRow.holds Try.pinned (OpenSpec.upto inflateBlocksSpec)

/-- 'pressmarklaw4.InflateJoins', WHERE WHAT IT READS IS OF BULK AT MOST 1048576: true; the input reads as it did. -/
def inflateJoinsUptoRow : OpenClaim := { program := "ytnclklboogdoiaa", sum := "26a4ae7bec6e78b481933109941765d55b49d3888802376b82ae862452aefccb", func := "pressmark/pressmarklaw4.InflateJoins", spec := "inflateJoins", apart := false, narrowed := true }
def InflateJoinsUptoSaid : Prop := inflateJoinsUptoRow.holds Try.pinned (OpenSpec.upto inflateJoinsSpec)

/-- 'pressmarklaw4.InflateKnown', WHERE WHAT IT READS IS OF BULK AT MOST 1048576: true; the input reads as it did. -/
def inflateKnownUptoRow : OpenClaim := { program := "ytnclklboogdoiaa", sum := "26a4ae7bec6e78b481933109941765d55b49d3888802376b82ae862452aefccb", func := "pressmark/pressmarklaw4.InflateKnown", spec := "inflateKnown", apart := false, narrowed := true }
def InflateKnownUptoSaid : Prop := inflateKnownUptoRow.holds Try.pinned (OpenSpec.upto inflateKnownSpec)

/-- 'pressmarklaw4.InflateZlib', WHERE WHAT IT READS IS OF BULK AT MOST 1048576: true; the input reads as it did. -/
def inflateZlibUptoRow : OpenClaim := { program := "ytnclklboogdoiaa", sum := "26a4ae7bec6e78b481933109941765d55b49d3888802376b82ae862452aefccb", func := "pressmark/pressmarklaw4.InflateZlib", spec := "inflateZlib", apart := false, narrowed := true }
def InflateZlibUptoSaid : Prop := inflateZlibUptoRow.holds Try.pinned (OpenSpec.upto inflateZlibSpec)

/-- 'pressmarklaw4.InflateBack', WHERE WHAT IT READS IS OF BULK AT MOST 1048576: true; the input reads as it did. -/
def inflateBackUptoRow : OpenClaim := { program := "ytnclklboogdoiaa", sum := "26a4ae7bec6e78b481933109941765d55b49d3888802376b82ae862452aefccb", func := "pressmark/pressmarklaw4.InflateBack", spec := "inflateBack", apart := false, narrowed := true }
def InflateBackUptoSaid : Prop := inflateBackUptoRow.holds Try.pinned (OpenSpec.upto inflateBackSpec)

/-- 'pressmarklaw4.InflateCuts', WHERE WHAT IT READS IS OF BULK AT MOST 1048576: true; the input reads as it did. -/
def inflateCutsUptoRow : OpenClaim := { program := "ytnclklboogdoiaa", sum := "26a4ae7bec6e78b481933109941765d55b49d3888802376b82ae862452aefccb", func := "pressmark/pressmarklaw4.InflateCuts", spec := "inflateCuts", apart := false, narrowed := true }
def InflateCutsUptoSaid : Prop := inflateCutsUptoRow.holds Try.pinned (OpenSpec.upto inflateCutsSpec)

end Rows
end Go.Proofs.Ytnclklboogdoiaa
