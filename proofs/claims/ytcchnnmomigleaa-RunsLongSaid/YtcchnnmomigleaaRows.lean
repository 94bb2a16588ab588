/-
  No cell of these rows narrows 'for every input' (looked for: loops, veiled, ifaces, maps, wideKeys, modest, calm, conditions, laid).
  DERIVED. THE GIVEN ROWS OF THIS SEAT. 6 by the template 'for every input the law returns true; each argument reads behind the call as it read before'; 0 by the template 'total and deterministic' (their statements: YtcchnnmomigleaaTotals.lean).
  GIVEN WITH THE SEED: the statements are not yours to turn. If you find one false, say at which input.
  Laid BY PROGRAM, IN A SANDBOX (cutbox-rows.mjs): the forced cells as the released guide's own fill.sh prints them over the translation 46d6ad1cee68b41f… (all of the seat's roots in one cut). By AI agents, Wed Nov 11 2026. No macro, syntax, notation, axiom, sorry.
-/
import Derived.Test.YtcchnnmomigleaaChecked
import GoSem.Claim
import GoSem.ClaimJoined
import GoSem.ClaimMapViews
import Derived.JoinedTies
import Derived.KernelRfl
namespace Go.Proofs.Ytcchnnmomigleaa
/- THE CELL 'sum', in the pinned program and in every row, IS THE sha256 OF THE DUMP (.gsa) THAT YtcchnnmomigleaaProg.lean LOADS. Nothing in Lean hashes anything: it is a label: what it is worth is what the hold of that sum in a sandbox is worth. -/
noncomputable def Try.pinned : Pinned := { name := "ytcchnnmomigleaa", sum := "46d6ad1cee68b41f1e3c53edabf5d9e3a24fd80885c3c6f93333afd68d27f4d1", checked := Try.checked }
namespace Rows
def none {H : Type} : Left H := { results := [], args := [] }

/-- 'pressmarklaw5.DeflateGreat': WHATEVER THE INPUT: true; the input reads as it did. -/
def deflateGreatSpec : ChangeSpec := { name := "deflateGreat", fn := fun _ => fun
  | [d1, d2] => { results := [.lit (.bool true)], args := [d1, d2] }
  | _ => none }
def deflateGreatRow : OpenClaim := { program := "ytcchnnmomigleaa", sum := "46d6ad1cee68b41f1e3c53edabf5d9e3a24fd80885c3c6f93333afd68d27f4d1", func := "pressmark/pressmarklaw5.DeflateGreat", spec := "deflateGreat", apart := false }
def DeflateGreatSaid : Prop := deflateGreatRow.holds Try.pinned (OpenSpec.ofChange deflateGreatSpec)

/-- ITS FALSE NEIGHBOUR: 'it returns false'. Refute it at one input. -/
def deflateGreatWrong : ChangeSpec := { name := "deflateGreat", fn := fun _ => fun
  | [d1, d2] => { results := [.lit (.bool false)], args := [d1, d2] }
  | _ => none }
def DeflateGreatWrongFalsely : Prop := deflateGreatRow.holds Try.pinned (OpenSpec.ofChange deflateGreatWrong)

/-- 'pressmarklaw5.DeflateRows': WHATEVER THE INPUT: true; the input reads as it did. -/
def deflateRowsSpec : ChangeSpec := { name := "deflateRows", fn := fun _ => fun
  | [d] => { results := [.lit (.bool true)], args := [d] }
  | _ => none }
def deflateRowsRow : OpenClaim := { program := "ytcchnnmomigleaa", sum := "46d6ad1cee68b41f1e3c53edabf5d9e3a24fd80885c3c6f93333afd68d27f4d1", func := "pressmark/pressmarklaw5.DeflateRows", spec := "deflateRows", apart := false }
def DeflateRowsSaid : Prop := deflateRowsRow.holds Try.pinned (OpenSpec.ofChange deflateRowsSpec)

/-- ITS FALSE NEIGHBOUR: 'it returns false'. Refute it at one input. -/
def deflateRowsWrong : ChangeSpec := { name := "deflateRows", fn := fun _ => fun
  | [d] => { results := [.lit (.bool false)], args := [d] }
  | _ => none }
def DeflateRowsWrongFalsely : Prop := deflateRowsRow.holds Try.pinned (OpenSpec.ofChange deflateRowsWrong)

/-- 'pressmarklaw7.RunsKnown': WHATEVER THE INPUT: true; the input reads as it did. -/
def runsKnownSpec : ChangeSpec := { name := "runsKnown", fn := fun _ => fun
  | [] => { results := [.lit (.bool true)], args := [] }
  | _ => none }
def runsKnownRow : OpenClaim := { program := "ytcchnnmomigleaa", sum := "46d6ad1cee68b41f1e3c53edabf5d9e3a24fd80885c3c6f93333afd68d27f4d1", func := "pressmark/pressmarklaw7.RunsKnown", spec := "runsKnown", apart := false }
def RunsKnownSaid : Prop := runsKnownRow.holds Try.pinned (OpenSpec.ofChange runsKnownSpec)

/-- ITS FALSE NEIGHBOUR: 'it returns false'. Refute it at one input. -/
def runsKnownWrong : ChangeSpec := { name := "runsKnown", fn := fun _ => fun
  | [] => { results := [.lit (.bool false)], args := [] }
  | _ => none }
def RunsKnownWrongFalsely : Prop := runsKnownRow.holds Try.pinned (OpenSpec.ofChange runsKnownWrong)

/-- 'pressmarklaw7.RunsBoth': WHATEVER THE INPUT: true; the input reads as it did. -/
def runsBothSpec : ChangeSpec := { name := "runsBoth", fn := fun _ => fun
  | [d1, d2] => { results := [.lit (.bool true)], args := [d1, d2] }
  | _ => none }
def runsBothRow : OpenClaim := { program := "ytcchnnmomigleaa", sum := "46d6ad1cee68b41f1e3c53edabf5d9e3a24fd80885c3c6f93333afd68d27f4d1", func := "pressmark/pressmarklaw7.RunsBoth", spec := "runsBoth", apart := false }
def RunsBothSaid : Prop := runsBothRow.holds Try.pinned (OpenSpec.ofChange runsBothSpec)

/-- ITS FALSE NEIGHBOUR: 'it returns false'. Refute it at one input. -/
def runsBothWrong : ChangeSpec := { name := "runsBoth", fn := fun _ => fun
  | [d1, d2] => { results := [.lit (.bool false)], args := [d1, d2] }
  | _ => none }
def RunsBothWrongFalsely : Prop := runsBothRow.holds Try.pinned (OpenSpec.ofChange runsBothWrong)

/-- 'pressmarklaw7.RunsBack': WHATEVER THE INPUT: true; the input reads as it did. -/
def runsBackSpec : ChangeSpec := { name := "runsBack", fn := fun _ => fun
  | [d1, d2] => { results := [.lit (.bool true)], args := [d1, d2] }
  | _ => none }
def runsBackRow : OpenClaim := { program := "ytcchnnmomigleaa", sum := "46d6ad1cee68b41f1e3c53edabf5d9e3a24fd80885c3c6f93333afd68d27f4d1", func := "pressmark/pressmarklaw7.RunsBack", spec := "runsBack", apart := false }
def RunsBackSaid : Prop := runsBackRow.holds Try.pinned (OpenSpec.ofChange runsBackSpec)

/-- ITS FALSE NEIGHBOUR: 'it returns false'. Refute it at one input. -/
def runsBackWrong : ChangeSpec := { name := "runsBack", fn := fun _ => fun
  | [d1, d2] => { results := [.lit (.bool false)], args := [d1, d2] }
  | _ => none }
def RunsBackWrongFalsely : Prop := runsBackRow.holds Try.pinned (OpenSpec.ofChange runsBackWrong)

/-- 'pressmarklaw7.RunsLong': WHATEVER THE INPUT: true; the input reads as it did. -/
def runsLongSpec : ChangeSpec := { name := "runsLong", fn := fun _ => fun
  | [d1, d2, d3] => { results := [.lit (.bool true)], args := [d1, d2, d3] }
  | _ => none }
def runsLongRow : OpenClaim := { program := "ytcchnnmomigleaa", sum := "46d6ad1cee68b41f1e3c53edabf5d9e3a24fd80885c3c6f93333afd68d27f4d1", func := "pressmark/pressmarklaw7.RunsLong", spec := "runsLong", apart := false }
def RunsLongSaid : Prop := runsLongRow.holds Try.pinned (OpenSpec.ofChange runsLongSpec)

/-- ITS FALSE NEIGHBOUR: 'it returns false'. Refute it at one input. -/
def runsLongWrong : ChangeSpec := { name := "runsLong", fn := fun _ => fun
  | [d1, d2, d3] => { results := [.lit (.bool false)], args := [d1, d2, d3] }
  | _ => none }
def RunsLongWrongFalsely : Prop := runsLongRow.holds Try.pinned (OpenSpec.ofChange runsLongWrong)

/- THE SECOND FORM. 'bulk': how many values and letters a reading holds, each counted each time it is reached (what is shared counts as often as it is met; a slice's spare places count too). A statement '..UptoSaid' is the law's where the arguments, and the package variables that the reading takes, are together of bulk at most 1048576: NARROWER than '..Said'. Prove '..Said' where nothing that the law and all that it calls make is longer than what came in: it says more and counts as full. Else prove '..UptoSaid'. A law counts once. -/
mutual
def uptoBulk {H : Type} : DataW H → Nat
  | .lit (.string bytes) => bytes.length + 1
  | .lit _ => 1
  | .nil => 1
  | .ptr d => uptoBulk d + 1
  | .slice elems spare => uptoBulkAll elems + uptoBulkAll spare + 1
  | .agg parts => uptoBulkAll parts + 1
  | .iface _ d => uptoBulk d + 1
  | .map entries => uptoBulkEntries entries + 1
  | .held _ => 1
def uptoBulkAll {H : Type} : List (DataW H) → Nat
  | [] => 0
  | d :: r => uptoBulk d + uptoBulkAll r
def uptoBulkEntries {H : Type} : List (Lit × DataW H) → Nat
  | [] => 0
  | x :: r => uptoBulkEntry x + uptoBulkEntries r
def uptoBulkEntry {H : Type} : Lit × DataW H → Nat
  | (.string bytes, d) => bytes.length + uptoBulk d + 1
  | (_, d) => uptoBulk d + 1
 end
def uptoSmall : (H : Type) → List (DataW H) → Bool := fun _ ds => decide (uptoBulkAll ds ≤ 1048576)
def OpenSpec.upto (s : _root_.Go.ChangeSpec) : _root_.Go.OpenSpec := { _root_.Go.OpenSpec.ofChange s with cond := some uptoSmall }

/-- 'pressmarklaw5.DeflateGreat', WHERE WHAT IT READS IS OF BULK AT MOST 1048576: true; the input reads as it did. -/
def deflateGreatUptoRow : OpenClaim := { program := "ytcchnnmomigleaa", sum := "46d6ad1cee68b41f1e3c53edabf5d9e3a24fd80885c3c6f93333afd68d27f4d1", func := "pressmark/pressmarklaw5.DeflateGreat", spec := "deflateGreat", apart := false, narrowed := true }
def DeflateGreatUptoSaid : Prop := deflateGreatUptoRow.holds Try.pinned (OpenSpec.upto deflateGreatSpec)

/-- 'pressmarklaw5.DeflateRows', WHERE WHAT IT READS IS OF BULK AT MOST 1048576: true; the input reads as it did. -/
def deflateRowsUptoRow : OpenClaim := { program := "ytcchnnmomigleaa", sum := "46d6ad1cee68b41f1e3c53edabf5d9e3a24fd80885c3c6f93333afd68d27f4d1", func := "pressmark/pressmarklaw5.DeflateRows", spec := "deflateRows", apart := false, narrowed := true }
def DeflateRowsUptoSaid : Prop := deflateRowsUptoRow.holds Try.pinned (OpenSpec.upto deflateRowsSpec)

/-- 'pressmarklaw7.RunsKnown', WHERE WHAT IT READS IS OF BULK AT MOST 1048576: true; the input reads as it did. -/
def runsKnownUptoRow : OpenClaim := { program := "ytcchnnmomigleaa", sum := "46d6ad1cee68b41f1e3c53edabf5d9e3a24fd80885c3c6f93333afd68d27f4d1", func := "pressmark/pressmarklaw7.RunsKnown", spec := "runsKnown", apart := false, narrowed := true }
def RunsKnownUptoSaid : Prop := runsKnownUptoRow.holds Try.pinned (OpenSpec.upto runsKnownSpec)

/-- 'pressmarklaw7.RunsBoth', WHERE WHAT IT READS IS OF BULK AT MOST 1048576: true; the input reads as it did. -/
def runsBothUptoRow : OpenClaim := { program := "ytcchnnmomigleaa", sum := "46d6ad1cee68b41f1e3c53edabf5d9e3a24fd80885c3c6f93333afd68d27f4d1", func := "pressmark/pressmarklaw7.RunsBoth", spec := "runsBoth", apart := false, narrowed := true }
def RunsBothUptoSaid : Prop := runsBothUptoRow.holds Try.pinned (OpenSpec.upto runsBothSpec)

/-- 'pressmarklaw7.RunsBack', WHERE WHAT IT READS IS OF BULK AT MOST 1048576: true; the input reads as it did. -/
def runsBackUptoRow : OpenClaim := { program := "ytcchnnmomigleaa", sum := "46d6ad1cee68b41f1e3c53edabf5d9e3a24fd80885c3c6f93333afd68d27f4d1", func := "pressmark/pressmarklaw7.RunsBack", spec := "runsBack", apart := false, narrowed := true }
def RunsBackUptoSaid : Prop := runsBackUptoRow.holds Try.pinned (OpenSpec.upto runsBackSpec)

/-- 'pressmarklaw7.RunsLong', WHERE WHAT IT READS IS OF BULK AT MOST 1048576: true; the input reads as it did. -/
def runsLongUptoRow : OpenClaim := { program := "ytcchnnmomigleaa", sum := "46d6ad1cee68b41f1e3c53edabf5d9e3a24fd80885c3c6f93333afd68d27f4d1", func := "pressmark/pressmarklaw7.RunsLong", spec := "runsLong", apart := false, narrowed := true }
def RunsLongUptoSaid : Prop := runsLongUptoRow.holds Try.pinned (OpenSpec.upto runsLongSpec)

end Rows
end Go.Proofs.Ytcchnnmomigleaa
