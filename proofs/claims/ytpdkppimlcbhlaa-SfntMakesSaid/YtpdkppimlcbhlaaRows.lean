/-
  No cell of these rows narrows 'for every input' (looked for: loops, veiled, ifaces, maps, wideKeys, modest, calm, conditions, laid).
  DERIVED. THE GIVEN ROWS OF THIS SEAT. 4 by the template 'for every input the law returns true; each argument reads behind the call as it read before'; 0 by the template 'total and deterministic' (their statements: YtpdkppimlcbhlaaTotals.lean).
  GIVEN WITH THE SEED: the statements are not yours to turn. If you find one false, say at which input.
  Laid BY PROGRAM, IN A SANDBOX (cutbox-rows.mjs): the forced cells as the released guide's own fill.sh prints them over the translation d4d5acfd27d66f0f… (all of the seat's roots in one cut). By AI agents, Wed Nov 11 2026. No macro, syntax, notation, axiom, sorry.
-/
import Derived.Test.YtpdkppimlcbhlaaChecked
import GoSem.Claim
import GoSem.ClaimJoined
import GoSem.ClaimMapViews
import Derived.JoinedTies
import Derived.KernelRfl
namespace Go.Proofs.Ytpdkppimlcbhlaa
/- THE CELL 'sum', in the pinned program and in every row, IS THE sha256 OF THE DUMP (.gsa) THAT YtpdkppimlcbhlaaProg.lean LOADS. Nothing in Lean hashes anything: it is a label: what it is worth is what the hold of that sum in a sandbox is worth. -/
noncomputable def Try.pinned : Pinned := { name := "ytpdkppimlcbhlaa", sum := "d4d5acfd27d66f0fc7e3c64c18a61fcb1c4d1b7c5b8cd2119280658c676f61b0", checked := Try.checked }
namespace Rows
def none {H : Type} : Left H := { results := [], args := [] }

/-- 'pressmarklaw25.SfntKnown': WHATEVER THE INPUT: true; the input reads as it did. -/
def sfntKnownSpec : ChangeSpec := { name := "sfntKnown", fn := fun _ => fun
  | [] => { results := [.lit (.bool true)], args := [] }
  | _ => none }
def sfntKnownRow : OpenClaim := { program := "ytpdkppimlcbhlaa", sum := "d4d5acfd27d66f0fc7e3c64c18a61fcb1c4d1b7c5b8cd2119280658c676f61b0", func := "pressmark/pressmarklaw25.SfntKnown", spec := "sfntKnown", inPlace := ["internal/bytealg.MakeNoZero"], unfollowed := true, recurses := true, apart := false }
def SfntKnownSaid : Prop := sfntKnownRow.holds Try.pinned (OpenSpec.ofChange sfntKnownSpec)

/-- ITS FALSE NEIGHBOUR: 'it returns false'. Refute it at one input. -/
def sfntKnownWrong : ChangeSpec := { name := "sfntKnown", fn := fun _ => fun
  | [] => { results := [.lit (.bool false)], args := [] }
  | _ => none }
def SfntKnownWrongFalsely : Prop := sfntKnownRow.holds Try.pinned (OpenSpec.ofChange sfntKnownWrong)

/-- 'pressmarklaw25.SfntReads': WHATEVER THE INPUT: true; the input reads as it did. -/
def sfntReadsSpec : ChangeSpec := { name := "sfntReads", fn := fun _ => fun
  | [d] => { results := [.lit (.bool true)], args := [d] }
  | _ => none }
def sfntReadsRow : OpenClaim := { program := "ytpdkppimlcbhlaa", sum := "d4d5acfd27d66f0fc7e3c64c18a61fcb1c4d1b7c5b8cd2119280658c676f61b0", func := "pressmark/pressmarklaw25.SfntReads", spec := "sfntReads", inPlace := ["internal/bytealg.MakeNoZero"], unfollowed := true, recurses := true, apart := false }
def SfntReadsSaid : Prop := sfntReadsRow.holds Try.pinned (OpenSpec.ofChange sfntReadsSpec)

/-- ITS FALSE NEIGHBOUR: 'it returns false'. Refute it at one input. -/
def sfntReadsWrong : ChangeSpec := { name := "sfntReads", fn := fun _ => fun
  | [d] => { results := [.lit (.bool false)], args := [d] }
  | _ => none }
def SfntReadsWrongFalsely : Prop := sfntReadsRow.holds Try.pinned (OpenSpec.ofChange sfntReadsWrong)

/-- 'pressmarklaw25.SfntMakes': WHATEVER THE INPUT: true; the input reads as it did. -/
def sfntMakesSpec : ChangeSpec := { name := "sfntMakes", fn := fun _ => fun
  | [d1, d2, d3] => { results := [.lit (.bool true)], args := [d1, d2, d3] }
  | _ => none }
def sfntMakesRow : OpenClaim := { program := "ytpdkppimlcbhlaa", sum := "d4d5acfd27d66f0fc7e3c64c18a61fcb1c4d1b7c5b8cd2119280658c676f61b0", func := "pressmark/pressmarklaw25.SfntMakes", spec := "sfntMakes", inPlace := ["internal/bytealg.MakeNoZero"], unfollowed := true, recurses := true, apart := false }
def SfntMakesSaid : Prop := sfntMakesRow.holds Try.pinned (OpenSpec.ofChange sfntMakesSpec)

/-- ITS FALSE NEIGHBOUR: 'it returns false'. Refute it at one input. -/
def sfntMakesWrong : ChangeSpec := { name := "sfntMakes", fn := fun _ => fun
  | [d1, d2, d3] => { results := [.lit (.bool false)], args := [d1, d2, d3] }
  | _ => none }
def SfntMakesWrongFalsely : Prop := sfntMakesRow.holds Try.pinned (OpenSpec.ofChange sfntMakesWrong)

/-- 'pressmarklaw25.SfntCuts': WHATEVER THE INPUT: true; the input reads as it did. -/
def sfntCutsSpec : ChangeSpec := { name := "sfntCuts", fn := fun _ => fun
  | [d1, d2, d3] => { results := [.lit (.bool true)], args := [d1, d2, d3] }
  | _ => none }
def sfntCutsRow : OpenClaim := { program := "ytpdkppimlcbhlaa", sum := "d4d5acfd27d66f0fc7e3c64c18a61fcb1c4d1b7c5b8cd2119280658c676f61b0", func := "pressmark/pressmarklaw25.SfntCuts", spec := "sfntCuts", inPlace := ["internal/bytealg.MakeNoZero"], unfollowed := true, recurses := true, apart := false }
def SfntCutsSaid : Prop := sfntCutsRow.holds Try.pinned (OpenSpec.ofChange sfntCutsSpec)

/-- ITS FALSE NEIGHBOUR: 'it returns false'. Refute it at one input. -/
def sfntCutsWrong : ChangeSpec := { name := "sfntCuts", fn := fun _ => fun
  | [d1, d2, d3] => { results := [.lit (.bool false)], args := [d1, d2, d3] }
  | _ => none }
def SfntCutsWrongFalsely : Prop := sfntCutsRow.holds Try.pinned (OpenSpec.ofChange sfntCutsWrong)

/- THE SECOND FORM. 'bulk': how many values and letters a reading holds, each counted each time it is reached (what is shared counts as often as it is met; a slice's spare places count too). A statement '..UptoSaid' is the law's where the arguments, and the package variables that the reading takes, are together of bulk at most 1048576: NARROWER than '..Said'. Prove '..Said' where nothing that the law and all that it calls make is longer than what came in: it says more and counts as full. Else prove '..UptoSaid'. A law counts once. -/
mutual
def uptoBulk {H : Type} : DataW H → Nat
  | .lit (.string bytes) => bytes.length + 1
  | .lit _ => 1
  | .nil => 1
  | .ptr d => uptoBulk d + 1
  | .slice elems spare => uptoBulkAll elems + uptoBulkAll spare + 1
  | .agg parts => uptoBulkAll parts + 1
  | .iface _ d => uptoBulk d + 1
  | .map entries => uptoBulkEntries entries + 1
  | .held _ => 1
def uptoBulkAll {H : Type} : List (DataW H) → Nat
  | [] => 0
  | d :: r => uptoBulk d + uptoBulkAll r
def uptoBulkEntries {H : Type} : List (Lit × DataW H) → Nat
  | [] => 0
  | x :: r => uptoBulkEntry x + uptoBulkEntries r
def uptoBulkEntry {H : Type} : Lit × DataW H → Nat
  | (.string bytes, d) => bytes.length + uptoBulk d + 1
  | (_, d) => uptoBulk d + 1
 end
def uptoSmall : (H : Type) → List (DataW H) → Bool := fun _ ds => decide (uptoBulkAll ds ≤ 1048576)
def OpenSpec.upto (s : _root_.Go.ChangeSpec) : _root_.Go.OpenSpec := { _root_.Go.OpenSpec.ofChange s with cond := some uptoSmall }

/-- 'pressmarklaw25.SfntKnown', WHERE WHAT IT READS IS OF BULK AT MOST 1048576: true; the input reads as it did. -/
def sfntKnownUptoRow : OpenClaim := { program := "ytpdkppimlcbhlaa", sum := "d4d5acfd27d66f0fc7e3c64c18a61fcb1c4d1b7c5b8cd2119280658c676f61b0", func := "pressmark/pressmarklaw25.SfntKnown", spec := "sfntKnown", inPlace := ["internal/bytealg.MakeNoZero"], unfollowed := true, recurses := true, apart := false, narrowed := true }
def SfntKnownUptoSaid : Prop := sfntKnownUptoRow.holds Try.pinned (OpenSpec.upto sfntKnownSpec)

/-- 'pressmarklaw25.SfntReads', WHERE WHAT IT READS IS OF BULK AT MOST 1048576: true; the input reads as it did. -/
def sfntReadsUptoRow : OpenClaim := { program := "ytpdkppimlcbhlaa", sum := "d4d5acfd27d66f0fc7e3c64c18a61fcb1c4d1b7c5b8cd2119280658c676f61b0", func := "pressmark/pressmarklaw25.SfntReads", spec := "sfntReads", inPlace := ["internal/bytealg.MakeNoZero"], unfollowed := true, recurses := true, apart := false, narrowed := true }
def SfntReadsUptoSaid : Prop := sfntReadsUptoRow.holds Try.pinned (OpenSpec.upto sfntReadsSpec)

/-- 'pressmarklaw25.SfntMakes', WHERE WHAT IT READS IS OF BULK AT MOST 1048576: true; the input reads as it did. -/
def sfntMakesUptoRow : OpenClaim := { program := "ytpdkppimlcbhlaa", sum := "d4d5acfd27d66f0fc7e3c64c18a61fcb1c4d1b7c5b8cd2119280658c676f61b0", func := "pressmark/pressmarklaw25.SfntMakes", spec := "sfntMakes", inPlace := ["internal/bytealg.MakeNoZero"], unfollowed := true, recurses := true, apart := false, narrowed := true }
def SfntMakesUptoSaid : Prop := sfntMakesUptoRow.holds Try.pinned (OpenSpec.upto sfntMakesSpec)

/-- 'pressmarklaw25.SfntCuts', WHERE WHAT IT READS IS OF BULK AT MOST 1048576: true; the input reads as it did. -/
def sfntCutsUptoRow : OpenClaim := { program := "ytpdkppimlcbhlaa", sum := "d4d5acfd27d66f0fc7e3c64c18a61fcb1c4d1b7c5b8cd2119280658c676f61b0", func := "pressmark/pressmarklaw25.SfntCuts", spec := "sfntCuts", inPlace := ["internal/bytealg.MakeNoZero"], unfollowed := true, recurses := true, apart := false, narrowed := true }
def SfntCutsUptoSaid : Prop := sfntCutsUptoRow.holds Try.pinned (OpenSpec.upto sfntCutsSpec)

end Rows
end Go.Proofs.Ytpdkppimlcbhlaa
