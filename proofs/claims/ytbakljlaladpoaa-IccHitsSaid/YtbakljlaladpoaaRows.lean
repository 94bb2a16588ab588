/-
  No cell of these rows narrows 'for every input' (looked for: loops, veiled, ifaces, maps, wideKeys, modest, calm, conditions, laid).
  DERIVED. THE GIVEN ROWS OF THIS SEAT. 4 by the template 'for every input the law returns true; each argument reads behind the call as it read before'; 0 by the template 'total and deterministic' (their statements: YtbakljlaladpoaaTotals.lean).
  GIVEN WITH THE SEED: the statements are not yours to turn. If you find one false, say at which input.
  Laid BY PROGRAM, IN A SANDBOX (cutbox-rows.mjs): the forced cells as the released guide's own fill.sh prints them over the translation d75b005f7e200d77… (all of the seat's roots in one cut). By AI agents, Wed Nov 11 2026. No macro, syntax, notation, axiom, sorry.
-/
import Derived.Test.YtbakljlaladpoaaChecked
import GoSem.Claim
import GoSem.ClaimJoined
import GoSem.ClaimMapViews
import Derived.JoinedTies
import Derived.KernelRfl
namespace Go.Proofs.Ytbakljlaladpoaa
/- THE CELL 'sum', in the pinned program and in every row, IS THE sha256 OF THE DUMP (.gsa) THAT YtbakljlaladpoaaProg.lean LOADS. Nothing in Lean hashes anything: it is a label: what it is worth is what the hold of that sum in a sandbox is worth. -/
noncomputable def Try.pinned : Pinned := { name := "ytbakljlaladpoaa", sum := "d75b005f7e200d773d4225978383354d9de1d007b88abbc8602f55691c013b88", checked := Try.checked }
namespace Rows
def none {H : Type} : Left H := { results := [], args := [] }

/-- 'pressmarklaw24.IccKnown': WHATEVER THE INPUT: true; the input reads as it did. -/
def iccKnownSpec : ChangeSpec := { name := "iccKnown", fn := fun _ => fun
  | [] => { results := [.lit (.bool true)], args := [] }
  | _ => none }
def iccKnownRow : OpenClaim := { program := "ytbakljlaladpoaa", sum := "d75b005f7e200d773d4225978383354d9de1d007b88abbc8602f55691c013b88", func := "pressmark/pressmarklaw24.IccKnown", spec := "iccKnown", inPlace := ["internal/bytealg.MakeNoZero"], unfollowed := true, recurses := true, apart := false }
def IccKnownSaid : Prop := iccKnownRow.holds Try.pinned (OpenSpec.ofChange iccKnownSpec)

/-- ITS FALSE NEIGHBOUR: 'it returns false'. Refute it at one input. -/
def iccKnownWrong : ChangeSpec := { name := "iccKnown", fn := fun _ => fun
  | [] => { results := [.lit (.bool false)], args := [] }
  | _ => none }
def IccKnownWrongFalsely : Prop := iccKnownRow.holds Try.pinned (OpenSpec.ofChange iccKnownWrong)

/-- 'pressmarklaw24.IccReads': WHATEVER THE INPUT: true; the input reads as it did. -/
def iccReadsSpec : ChangeSpec := { name := "iccReads", fn := fun _ => fun
  | [d1, d2] => { results := [.lit (.bool true)], args := [d1, d2] }
  | _ => none }
def iccReadsRow : OpenClaim := { program := "ytbakljlaladpoaa", sum := "d75b005f7e200d773d4225978383354d9de1d007b88abbc8602f55691c013b88", func := "pressmark/pressmarklaw24.IccReads", spec := "iccReads", inPlace := ["internal/bytealg.MakeNoZero"], unfollowed := true, recurses := true, apart := false }
def IccReadsSaid : Prop := iccReadsRow.holds Try.pinned (OpenSpec.ofChange iccReadsSpec)

/-- ITS FALSE NEIGHBOUR: 'it returns false'. Refute it at one input. -/
def iccReadsWrong : ChangeSpec := { name := "iccReads", fn := fun _ => fun
  | [d1, d2] => { results := [.lit (.bool false)], args := [d1, d2] }
  | _ => none }
def IccReadsWrongFalsely : Prop := iccReadsRow.holds Try.pinned (OpenSpec.ofChange iccReadsWrong)

/-- 'pressmarklaw24.IccMakes': WHATEVER THE INPUT: true; the input reads as it did. -/
def iccMakesSpec : ChangeSpec := { name := "iccMakes", fn := fun _ => fun
  | [d1, d2] => { results := [.lit (.bool true)], args := [d1, d2] }
  | _ => none }
def iccMakesRow : OpenClaim := { program := "ytbakljlaladpoaa", sum := "d75b005f7e200d773d4225978383354d9de1d007b88abbc8602f55691c013b88", func := "pressmark/pressmarklaw24.IccMakes", spec := "iccMakes", inPlace := ["internal/bytealg.MakeNoZero"], unfollowed := true, recurses := true, apart := false }
def IccMakesSaid : Prop := iccMakesRow.holds Try.pinned (OpenSpec.ofChange iccMakesSpec)

/-- ITS FALSE NEIGHBOUR: 'it returns false'. Refute it at one input. -/
def iccMakesWrong : ChangeSpec := { name := "iccMakes", fn := fun _ => fun
  | [d1, d2] => { results := [.lit (.bool false)], args := [d1, d2] }
  | _ => none }
def IccMakesWrongFalsely : Prop := iccMakesRow.holds Try.pinned (OpenSpec.ofChange iccMakesWrong)

/-- 'pressmarklaw24.IccHits': WHATEVER THE INPUT: true; the input reads as it did. -/
def iccHitsSpec : ChangeSpec := { name := "iccHits", fn := fun _ => fun
  | [d1, d2] => { results := [.lit (.bool true)], args := [d1, d2] }
  | _ => none }
def iccHitsRow : OpenClaim := { program := "ytbakljlaladpoaa", sum := "d75b005f7e200d773d4225978383354d9de1d007b88abbc8602f55691c013b88", func := "pressmark/pressmarklaw24.IccHits", spec := "iccHits", inPlace := ["internal/bytealg.MakeNoZero"], unfollowed := true, recurses := true, apart := false }
def IccHitsSaid : Prop := iccHitsRow.holds Try.pinned (OpenSpec.ofChange iccHitsSpec)

/-- ITS FALSE NEIGHBOUR: 'it returns false'. Refute it at one input. -/
def iccHitsWrong : ChangeSpec := { name := "iccHits", fn := fun _ => fun
  | [d1, d2] => { results := [.lit (.bool false)], args := [d1, d2] }
  | _ => none }
def IccHitsWrongFalsely : Prop := iccHitsRow.holds Try.pinned (OpenSpec.ofChange iccHitsWrong)

/- THE SECOND FORM. 'bulk': how many values and letters a reading holds, each counted each time it is reached (what is shared counts as often as it is met; a slice's spare places count too). A statement '..UptoSaid' is the law's where the arguments, and the package variables that the reading takes, are together of bulk at most 1048576: NARROWER than '..Said'. Prove '..Said' where nothing that the law and all that it calls make is longer than what came in: it says more and counts as full. Else prove '..UptoSaid'. A law counts once. -/
mutual
def uptoBulk {H : Type} : DataW H → Nat
  | .lit (.string bytes) => bytes.length + 1
  | .lit _ => 1
  | .nil => 1
  | .ptr d => uptoBulk d + 1
  | .slice elems spare => uptoBulkAll elems + uptoBulkAll spare + 1
  | .agg parts => uptoBulkAll parts + 1
  | .iface _ d => uptoBulk d + 1
  | .map entries => uptoBulkEntries entries + 1
  | .held _ => 1
def uptoBulkAll {H : Type} : List (DataW H) → Nat
  | [] => 0
  | d :: r => uptoBulk d + uptoBulkAll r
def uptoBulkEntries {H : Type} : List (Lit × DataW H) → Nat
  | [] => 0
  | x :: r => uptoBulkEntry x + uptoBulkEntries r
def uptoBulkEntry {H : Type} : Lit × DataW H → Nat
  | (.string bytes, d) => bytes.length + uptoBulk d + 1
  | (_, d) => uptoBulk d + 1
 end
def uptoSmall : (H : Type) → List (DataW H) → Bool := fun _ ds => decide (uptoBulkAll ds ≤ 1048576)
def OpenSpec.upto (s : _root_.Go.ChangeSpec) : _root_.Go.OpenSpec := { _root_.Go.OpenSpec.ofChange s with cond := some uptoSmall }

/-- 'pressmarklaw24.IccKnown', WHERE WHAT IT READS IS OF BULK AT MOST 1048576: true; the input reads as it did. -/
def iccKnownUptoRow : OpenClaim := { program := "ytbakljlaladpoaa", sum := "d75b005f7e200d773d4225978383354d9de1d007b88abbc8602f55691c013b88", func := "pressmark/pressmarklaw24.IccKnown", spec := "iccKnown", inPlace := ["internal/bytealg.MakeNoZero"], unfollowed := true, recurses := true, apart := false, narrowed := true }
def IccKnownUptoSaid : Prop := iccKnownUptoRow.holds Try.pinned (OpenSpec.upto iccKnownSpec)

/-- 'pressmarklaw24.IccReads', WHERE WHAT IT READS IS OF BULK AT MOST 1048576: true; the input reads as it did. -/
def iccReadsUptoRow : OpenClaim := { program := "ytbakljlaladpoaa", sum := "d75b005f7e200d773d4225978383354d9de1d007b88abbc8602f55691c013b88", func := "pressmark/pressmarklaw24.IccReads", spec := "iccReads", inPlace := ["internal/bytealg.MakeNoZero"], unfollowed := true, recurses := true, apart := false, narrowed := true }
def IccReadsUptoSaid : Prop := iccReadsUptoRow.holds Try.pinned (OpenSpec.upto iccReadsSpec)

/-- 'pressmarklaw24.IccMakes', WHERE WHAT IT READS IS OF BULK AT MOST 1048576: true; the input reads as it did. -/
def iccMakesUptoRow : OpenClaim := { program := "ytbakljlaladpoaa", sum := "d75b005f7e200d773d4225978383354d9de1d007b88abbc8602f55691c013b88", func := "pressmark/pressmarklaw24.IccMakes", spec := "iccMakes", inPlace := ["internal/bytealg.MakeNoZero"], unfollowed := true, recurses := true, apart := false, narrowed := true }
def IccMakesUptoSaid : Prop := iccMakesUptoRow.holds Try.pinned (OpenSpec.upto iccMakesSpec)

/-- 'pressmarklaw24.IccHits', WHERE WHAT IT READS IS OF BULK AT MOST 1048576: true; the input reads as it did. -/
def iccHitsUptoRow : OpenClaim := { program := "ytbakljlaladpoaa", sum := "d75b005f7e200d773d4225978383354d9de1d007b88abbc8602f55691c013b88", func := "pressmark/pressmarklaw24.IccHits", spec := "iccHits", inPlace := ["internal/bytealg.MakeNoZero"], unfollowed := true, recurses := true, apart := false, narrowed := true }
def IccHitsUptoSaid : Prop := iccHitsUptoRow.holds Try.pinned (OpenSpec.upto iccHitsSpec)

end Rows
end Go.Proofs.Ytbakljlaladpoaa
