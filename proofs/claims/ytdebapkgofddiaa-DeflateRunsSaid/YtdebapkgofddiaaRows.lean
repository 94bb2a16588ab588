/-
  No cell of these rows narrows 'for every input' (looked for: loops, veiled, ifaces, maps, wideKeys, modest, calm, conditions, laid).
  DERIVED. THE GIVEN ROWS OF THIS SEAT. 6 by the template 'for every input the law returns true; each argument reads behind the call as it read before'; 0 by the template 'total and deterministic' (their statements: YtdebapkgofddiaaTotals.lean).
  GIVEN WITH THE SEED: the statements are not yours to turn. If you find one false, say at which input.
  Laid BY PROGRAM, IN A SANDBOX (cutbox-rows.mjs): the forced cells as the released guide's own fill.sh prints them over the translation ebb1ee0534c64882… (all of the seat's roots in one cut). By AI agents, Wed Nov 11 2026. No macro, syntax, notation, axiom, sorry.
-/
import Derived.Test.YtdebapkgofddiaaChecked
import GoSem.Claim
import GoSem.ClaimJoined
import GoSem.ClaimMapViews
import Derived.JoinedTies
import Derived.KernelRfl
namespace Go.Proofs.Ytdebapkgofddiaa
/- THE CELL 'sum', in the pinned program and in every row, IS THE sha256 OF THE DUMP (.gsa) THAT YtdebapkgofddiaaProg.lean LOADS. Nothing in Lean hashes anything: it is a label: what it is worth is what the hold of that sum in a sandbox is worth. -/
noncomputable def Try.pinned : Pinned := { name := "ytdebapkgofddiaa", sum := "ebb1ee0534c64882c0475e70eaa66b519e34f8647be40bbdfa9f7e823557feab", checked := Try.checked }
namespace Rows
def none {H : Type} : Left H := { results := [], args := [] }

/-- 'pressmarklaw5.DeflateGreat': WHATEVER THE INPUT: true; the input reads as it did. -/
def deflateGreatSpec : ChangeSpec := { name := "deflateGreat", fn := fun _ => fun
  | [d1, d2] => { results := [.lit (.bool true)], args := [d1, d2] }
  | _ => none }
def deflateGreatRow : OpenClaim := { program := "ytdebapkgofddiaa", sum := "ebb1ee0534c64882c0475e70eaa66b519e34f8647be40bbdfa9f7e823557feab", func := "pressmark/pressmarklaw5.DeflateGreat", spec := "deflateGreat", apart := false }
def DeflateGreatSaid : Prop := deflateGreatRow.holds Try.pinned (OpenSpec.ofChange deflateGreatSpec)

/-- ITS FALSE NEIGHBOUR: 'it returns false'. Refute it at one input. -/
def deflateGreatWrong : ChangeSpec := { name := "deflateGreat", fn := fun _ => fun
  | [d1, d2] => { results := [.lit (.bool false)], args := [d1, d2] }
  | _ => none }
def DeflateGreatWrongFalsely : Prop := deflateGreatRow.holds Try.pinned (OpenSpec.ofChange deflateGreatWrong)

/-- 'pressmarklaw5.DeflateRows': WHATEVER THE INPUT: true; the input reads as it did. -/
def deflateRowsSpec : ChangeSpec := { name := "deflateRows", fn := fun _ => fun
  | [d] => { results := [.lit (.bool true)], args := [d] }
  | _ => none }
def deflateRowsRow : OpenClaim := { program := "ytdebapkgofddiaa", sum := "ebb1ee0534c64882c0475e70eaa66b519e34f8647be40bbdfa9f7e823557feab", func := "pressmark/pressmarklaw5.DeflateRows", spec := "deflateRows", apart := false }
def DeflateRowsSaid : Prop := deflateRowsRow.holds Try.pinned (OpenSpec.ofChange deflateRowsSpec)

/-- ITS FALSE NEIGHBOUR: 'it returns false'. Refute it at one input. -/
def deflateRowsWrong : ChangeSpec := { name := "deflateRows", fn := fun _ => fun
  | [d] => { results := [.lit (.bool false)], args := [d] }
  | _ => none }
def DeflateRowsWrongFalsely : Prop := deflateRowsRow.holds Try.pinned (OpenSpec.ofChange deflateRowsWrong)

/-- 'pressmarklaw5.DeflateRuns': WHATEVER THE INPUT: true; the input reads as it did. -/
def deflateRunsSpec : ChangeSpec := { name := "deflateRuns", fn := fun _ => fun
  | [d1, d2] => { results := [.lit (.bool true)], args := [d1, d2] }
  | _ => none }
def deflateRunsRow : OpenClaim := { program := "ytdebapkgofddiaa", sum := "ebb1ee0534c64882c0475e70eaa66b519e34f8647be40bbdfa9f7e823557feab", func := "pressmark/pressmarklaw5.DeflateRuns", spec := "deflateRuns", apart := false }
def DeflateRunsSaid : Prop := deflateRunsRow.holds Try.pinned (OpenSpec.ofChange deflateRunsSpec)

/-- ITS FALSE NEIGHBOUR: 'it returns false'. Refute it at one input. -/
def deflateRunsWrong : ChangeSpec := { name := "deflateRuns", fn := fun _ => fun
  | [d1, d2] => { results := [.lit (.bool false)], args := [d1, d2] }
  | _ => none }
def DeflateRunsWrongFalsely : Prop := deflateRunsRow.holds Try.pinned (OpenSpec.ofChange deflateRunsWrong)

/-- 'pressmarklaw5.DeflateWrites': WHATEVER THE INPUT: true; the input reads as it did. -/
def deflateWritesSpec : ChangeSpec := { name := "deflateWrites", fn := fun _ => fun
  | [d] => { results := [.lit (.bool true)], args := [d] }
  | _ => none }
def deflateWritesRow : OpenClaim := { program := "ytdebapkgofddiaa", sum := "ebb1ee0534c64882c0475e70eaa66b519e34f8647be40bbdfa9f7e823557feab", func := "pressmark/pressmarklaw5.DeflateWrites", spec := "deflateWrites", inPlace := ["internal/bytealg.MakeNoZero"], apart := false }
def DeflateWritesSaid : Prop := deflateWritesRow.holds Try.pinned (OpenSpec.ofChange deflateWritesSpec)

/-- ITS FALSE NEIGHBOUR: 'it returns false'. Refute it at one input. -/
def deflateWritesWrong : ChangeSpec := { name := "deflateWrites", fn := fun _ => fun
  | [d] => { results := [.lit (.bool false)], args := [d] }
  | _ => none }
def DeflateWritesWrongFalsely : Prop := deflateWritesRow.holds Try.pinned (OpenSpec.ofChange deflateWritesWrong)

/-- 'pressmarklaw5.DeflateBack': WHATEVER THE INPUT: true; the input reads as it did. -/
def deflateBackSpec : ChangeSpec := { name := "deflateBack", fn := fun _ => fun
  | [d] => { results := [.lit (.bool true)], args := [d] }
  | _ => none }
def deflateBackRow : OpenClaim := { program := "ytdebapkgofddiaa", sum := "ebb1ee0534c64882c0475e70eaa66b519e34f8647be40bbdfa9f7e823557feab", func := "pressmark/pressmarklaw5.DeflateBack", spec := "deflateBack", inPlace := ["internal/bytealg.MakeNoZero"], apart := false }
def DeflateBackSaid : Prop := deflateBackRow.holds Try.pinned (OpenSpec.ofChange deflateBackSpec)

/-- ITS FALSE NEIGHBOUR: 'it returns false'. Refute it at one input. -/
def deflateBackWrong : ChangeSpec := { name := "deflateBack", fn := fun _ => fun
  | [d] => { results := [.lit (.bool false)], args := [d] }
  | _ => none }
def DeflateBackWrongFalsely : Prop := deflateBackRow.holds Try.pinned (OpenSpec.ofChange deflateBackWrong)

/-- 'pressmarklaw5.DeflateKnown': WHATEVER THE INPUT: true; the input reads as it did. -/
def deflateKnownSpec : ChangeSpec := { name := "deflateKnown", fn := fun _ => fun
  | [] => { results := [.lit (.bool true)], args := [] }
  | _ => none }
def deflateKnownRow : OpenClaim := { program := "ytdebapkgofddiaa", sum := "ebb1ee0534c64882c0475e70eaa66b519e34f8647be40bbdfa9f7e823557feab", func := "pressmark/pressmarklaw5.DeflateKnown", spec := "deflateKnown", inPlace := ["internal/bytealg.MakeNoZero"], apart := false }
def DeflateKnownSaid : Prop := deflateKnownRow.holds Try.pinned (OpenSpec.ofChange deflateKnownSpec)

/-- ITS FALSE NEIGHBOUR: 'it returns false'. Refute it at one input. -/
def deflateKnownWrong : ChangeSpec := { name := "deflateKnown", fn := fun _ => fun
  | [] => { results := [.lit (.bool false)], args := [] }
  | _ => none }
def DeflateKnownWrongFalsely : Prop := deflateKnownRow.holds Try.pinned (OpenSpec.ofChange deflateKnownWrong)

/- THE SECOND FORM. 'bulk': how many values and letters a reading holds, each counted each time it is reached (what is shared counts as often as it is met; a slice's spare places count too). A statement '..UptoSaid' is the law's where the arguments, and the package variables that the reading takes, are together of bulk at most 1048576: NARROWER than '..Said'. Prove '..Said' where nothing that the law and all that it calls make is longer than what came in: it says more and counts as full. Else prove '..UptoSaid'. A law counts once. -/
mutual
def uptoBulk {H : Type} : DataW H → Nat
  | .lit (.string bytes) => bytes.length + 1
  | .lit _ => 1
  | .nil => 1
  | .ptr d => uptoBulk d + 1
  | .slice elems spare => uptoBulkAll elems + uptoBulkAll spare + 1
  | .agg parts => uptoBulkAll parts + 1
  | .iface _ d => uptoBulk d + 1
  | .map entries => uptoBulkEntries entries + 1
  | .held _ => 1
def uptoBulkAll {H : Type} : List (DataW H) → Nat
  | [] => 0
  | d :: r => uptoBulk d + uptoBulkAll r
def uptoBulkEntries {H : Type} : List (Lit × DataW H) → Nat
  | [] => 0
  | x :: r => uptoBulkEntry x + uptoBulkEntries r
def uptoBulkEntry {H : Type} : Lit × DataW H → Nat
  | (.string bytes, d) => bytes.length + uptoBulk d + 1
  | (_, d) => uptoBulk d + 1
 end
def uptoSmall : (H : Type) → List (DataW H) → Bool := fun _ ds => decide (uptoBulkAll ds ≤ 1048576)
def OpenSpec.upto (s : _root_.Go.ChangeSpec) : _root_.Go.OpenSpec := { _root_.Go.OpenSpec.ofChange s with cond := some uptoSmall }

/-- 'pressmarklaw5.DeflateGreat', WHERE WHAT IT READS IS OF BULK AT MOST 1048576: true; the input reads as it did. -/
def deflateGreatUptoRow : OpenClaim := { program := "ytdebapkgofddiaa", sum := "ebb1ee0534c64882c0475e70eaa66b519e34f8647be40bbdfa9f7e823557feab", func := "pressmark/pressmarklaw5.DeflateGreat", spec := "deflateGreat", apart := false, narrowed := true }
def DeflateGreatUptoSaid : Prop := deflateGreatUptoRow.holds Try.pinned (OpenSpec.upto deflateGreatSpec)

/-- 'pressmarklaw5.DeflateRows', WHERE WHAT IT READS IS OF BULK AT MOST 1048576: true; the input reads as it did. -/
def deflateRowsUptoRow : OpenClaim := { program := "ytdebapkgofddiaa", sum := "ebb1ee0534c64882c0475e70eaa66b519e34f8647be40bbdfa9f7e823557feab", func := "pressmark/pressmarklaw5.DeflateRows", spec := "deflateRows", apart := false, narrowed := true }
def DeflateRowsUptoSaid : Prop := deflateRowsUptoRow.holds Try.pinned (OpenSpec.upto deflateRowsSpec)

/-- 'pressmarklaw5.DeflateRuns', WHERE WHAT IT READS IS OF BULK AT MOST 1048576: true; the input reads as it did. -/
def deflateRunsUptoRow : OpenClaim := { program := "ytdebapkgofddiaa", sum := "ebb1ee0534c64882c0475e70eaa66b519e34f8647be40bbdfa9f7e823557feab", func := "pressmark/pressmarklaw5.DeflateRuns", spec := "deflateRuns", apart := false, narrowed := true }
def DeflateRunsUptoSaid : Prop := deflateRunsUptoRow.holds Try.pinned (OpenSpec.upto deflateRunsSpec)

/-- 'pressmarklaw5.DeflateWrites', WHERE WHAT IT READS IS OF BULK AT MOST 1048576: true; the input reads as it did. -/
def deflateWritesUptoRow : OpenClaim := { program := "ytdebapkgofddiaa", sum := "ebb1ee0534c64882c0475e70eaa66b519e34f8647be40bbdfa9f7e823557feab", func := "pressmark/pressmarklaw5.DeflateWrites", spec := "deflateWrites", inPlace := ["internal/bytealg.MakeNoZero"], apart := false, narrowed := true }
def DeflateWritesUptoSaid : Prop := deflateWritesUptoRow.holds Try.pinned (OpenSpec.upto deflateWritesSpec)

/-- 'pressmarklaw5.DeflateBack', WHERE WHAT IT READS IS OF BULK AT MOST 1048576: true; the input reads as it did. -/
def deflateBackUptoRow : OpenClaim := { program := "ytdebapkgofddiaa", sum := "ebb1ee0534c64882c0475e70eaa66b519e34f8647be40bbdfa9f7e823557feab", func := "pressmark/pressmarklaw5.DeflateBack", spec := "deflateBack", inPlace := ["internal/bytealg.MakeNoZero"], apart := false, narrowed := true }
def DeflateBackUptoSaid : Prop := deflateBackUptoRow.holds Try.pinned (OpenSpec.upto deflateBackSpec)

/-- 'pressmarklaw5.DeflateKnown', WHERE WHAT IT READS IS OF BULK AT MOST 1048576: true; the input reads as it did. -/
def deflateKnownUptoRow : OpenClaim := { program := "ytdebapkgofddiaa", sum := "ebb1ee0534c64882c0475e70eaa66b519e34f8647be40bbdfa9f7e823557feab", func := "pressmark/pressmarklaw5.DeflateKnown", spec := "deflateKnown", inPlace := ["internal/bytealg.MakeNoZero"], apart := false, narrowed := true }
def DeflateKnownUptoSaid : Prop := deflateKnownUptoRow.holds Try.pinned (OpenSpec.upto deflateKnownSpec)

end Rows
end Go.Proofs.Ytdebapkgofddiaa
