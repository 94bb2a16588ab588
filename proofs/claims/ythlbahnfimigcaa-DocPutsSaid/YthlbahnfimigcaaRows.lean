/-
  NARROWER THAN 'FOR EVERY INPUT', by the rows' own cells (each row's printed sentence says how): DocReach: loops · DocNumbers: loops · DocWalks: loops · DocPuts: loops.
  DERIVED. THE GIVEN ROWS OF THIS SEAT. 5 by the template 'for every input the law returns true; each argument reads behind the call as it read before'; 0 by the template 'total and deterministic' (their statements: YthlbahnfimigcaaTotals.lean).
  GIVEN WITH THE SEED: the statements are not yours to turn. If you find one false, say at which input.
  Laid BY PROGRAM, IN A SANDBOX (cutbox-rows.mjs): the forced cells as the released guide's own fill.sh prints them over the translation 46638134076958e2… (all of the seat's roots in one cut). By AI agents, Wed Nov 11 2026. No macro, syntax, notation, axiom, sorry.
-/
import Derived.Test.YthlbahnfimigcaaChecked
import GoSem.Claim
import GoSem.ClaimJoined
import GoSem.ClaimMapViews
import Derived.JoinedTies
import Derived.KernelRfl
namespace Go.Proofs.Ythlbahnfimigcaa
/- THE CELL 'sum', in the pinned program and in every row, IS THE sha256 OF THE DUMP (.gsa) THAT YthlbahnfimigcaaProg.lean LOADS. Nothing in Lean hashes anything: it is a label: what it is worth is what the hold of that sum in a sandbox is worth. -/
noncomputable def Try.pinned : Pinned := { name := "ythlbahnfimigcaa", sum := "46638134076958e269a8a61a31d64a74e2afb17d92e0008df09725f5f10de303", checked := Try.checked }
namespace Rows
def none {H : Type} : Left H := { results := [], args := [] }

/-- 'pressmarklaw18.DocReach': WHATEVER THE INPUT: true; the input reads as it did. -/
def docReachSpec : ChangeSpec := { name := "docReach", fn := fun _ => fun
  | [d] => { results := [.lit (.bool true)], args := [d] }
  | _ => none }
def docReachRow : OpenClaim := { program := "ythlbahnfimigcaa", sum := "46638134076958e269a8a61a31d64a74e2afb17d92e0008df09725f5f10de303", func := "pressmark/pressmarklaw18.DocReach", spec := "docReach", unfollowed := true, recurses := true, loops := true, apart := false }
def DocReachSaid : Prop := docReachRow.holds Try.pinned (OpenSpec.ofChange docReachSpec)

/-- ITS FALSE NEIGHBOUR: 'it returns false'. Refute it at one input. -/
def docReachWrong : ChangeSpec := { name := "docReach", fn := fun _ => fun
  | [d] => { results := [.lit (.bool false)], args := [d] }
  | _ => none }
def DocReachWrongFalsely : Prop := docReachRow.holds Try.pinned (OpenSpec.ofChange docReachWrong)

/-- 'pressmarklaw18.DocNumbers': WHATEVER THE INPUT: true; the input reads as it did. -/
def docNumbersSpec : ChangeSpec := { name := "docNumbers", fn := fun _ => fun
  | [d] => { results := [.lit (.bool true)], args := [d] }
  | _ => none }
def docNumbersRow : OpenClaim := { program := "ythlbahnfimigcaa", sum := "46638134076958e269a8a61a31d64a74e2afb17d92e0008df09725f5f10de303", func := "pressmark/pressmarklaw18.DocNumbers", spec := "docNumbers", recurses := true, loops := true, apart := false }
def DocNumbersSaid : Prop := docNumbersRow.holds Try.pinned (OpenSpec.ofChange docNumbersSpec)

/-- ITS FALSE NEIGHBOUR: 'it returns false'. Refute it at one input. -/
def docNumbersWrong : ChangeSpec := { name := "docNumbers", fn := fun _ => fun
  | [d] => { results := [.lit (.bool false)], args := [d] }
  | _ => none }
def DocNumbersWrongFalsely : Prop := docNumbersRow.holds Try.pinned (OpenSpec.ofChange docNumbersWrong)

/-- 'pressmarklaw18.DocWalks': WHATEVER THE INPUT: true; the input reads as it did. -/
def docWalksSpec : ChangeSpec := { name := "docWalks", fn := fun _ => fun
  | [d1, d2, d3] => { results := [.lit (.bool true)], args := [d1, d2, d3] }
  | _ => none }
def docWalksRow : OpenClaim := { program := "ythlbahnfimigcaa", sum := "46638134076958e269a8a61a31d64a74e2afb17d92e0008df09725f5f10de303", func := "pressmark/pressmarklaw18.DocWalks", spec := "docWalks", unfollowed := true, recurses := true, loops := true, apart := false }
def DocWalksSaid : Prop := docWalksRow.holds Try.pinned (OpenSpec.ofChange docWalksSpec)

/-- ITS FALSE NEIGHBOUR: 'it returns false'. Refute it at one input. -/
def docWalksWrong : ChangeSpec := { name := "docWalks", fn := fun _ => fun
  | [d1, d2, d3] => { results := [.lit (.bool false)], args := [d1, d2, d3] }
  | _ => none }
def DocWalksWrongFalsely : Prop := docWalksRow.holds Try.pinned (OpenSpec.ofChange docWalksWrong)

/-- 'pressmarklaw18.DocKnown': WHATEVER THE INPUT: true; the input reads as it did. -/
def docKnownSpec : ChangeSpec := { name := "docKnown", fn := fun _ => fun
  | [] => { results := [.lit (.bool true)], args := [] }
  | _ => none }
def docKnownRow : OpenClaim := { program := "ythlbahnfimigcaa", sum := "46638134076958e269a8a61a31d64a74e2afb17d92e0008df09725f5f10de303", func := "pressmark/pressmarklaw18.DocKnown", spec := "docKnown", unfollowed := true, recurses := true, apart := false }
def DocKnownSaid : Prop := docKnownRow.holds Try.pinned (OpenSpec.ofChange docKnownSpec)

/-- ITS FALSE NEIGHBOUR: 'it returns false'. Refute it at one input. -/
def docKnownWrong : ChangeSpec := { name := "docKnown", fn := fun _ => fun
  | [] => { results := [.lit (.bool false)], args := [] }
  | _ => none }
def DocKnownWrongFalsely : Prop := docKnownRow.holds Try.pinned (OpenSpec.ofChange docKnownWrong)

/-- 'pressmarklaw18.DocPuts': WHATEVER THE INPUT: true; the input reads as it did. -/
def docPutsSpec : ChangeSpec := { name := "docPuts", fn := fun _ => fun
  | [d1, d2] => { results := [.lit (.bool true)], args := [d1, d2] }
  | _ => none }
def docPutsRow : OpenClaim := { program := "ythlbahnfimigcaa", sum := "46638134076958e269a8a61a31d64a74e2afb17d92e0008df09725f5f10de303", func := "pressmark/pressmarklaw18.DocPuts", spec := "docPuts", inPlace := ["slices.overlaps[pressmark/api.Item]"], unfollowed := true, recurses := true, loops := true, apart := false }
def DocPutsSaid : Prop := docPutsRow.holds Try.pinned (OpenSpec.ofChange docPutsSpec)

/-- ITS FALSE NEIGHBOUR: 'it returns false'. Refute it at one input. -/
def docPutsWrong : ChangeSpec := { name := "docPuts", fn := fun _ => fun
  | [d1, d2] => { results := [.lit (.bool false)], args := [d1, d2] }
  | _ => none }
def DocPutsWrongFalsely : Prop := docPutsRow.holds Try.pinned (OpenSpec.ofChange docPutsWrong)

/- THE SECOND FORM. 'bulk': how many values and letters a reading holds, each counted each time it is reached (what is shared counts as often as it is met; a slice's spare places count too). A statement '..UptoSaid' is the law's where the arguments, and the package variables that the reading takes, are together of bulk at most 1048576: NARROWER than '..Said'. Prove '..Said' where nothing that the law and all that it calls make is longer than what came in: it says more and counts as full. Else prove '..UptoSaid'. A law counts once. -/
mutual
def uptoBulk {H : Type} : DataW H → Nat
  | .lit (.string bytes) => bytes.length + 1
  | .lit _ => 1
  | .nil => 1
  | .ptr d => uptoBulk d + 1
  | .slice elems spare => uptoBulkAll elems + uptoBulkAll spare + 1
  | .agg parts => uptoBulkAll parts + 1
  | .iface _ d => uptoBulk d + 1
  | .map entries => uptoBulkEntries entries + 1
  | .held _ => 1
def uptoBulkAll {H : Type} : List (DataW H) → Nat
  | [] => 0
  | d :: r => uptoBulk d + uptoBulkAll r
def uptoBulkEntries {H : Type} : List (Lit × DataW H) → Nat
  | [] => 0
  | x :: r => uptoBulkEntry x + uptoBulkEntries r
def uptoBulkEntry {H : Type} : Lit × DataW H → Nat
  | (.string bytes, d) => bytes.length + uptoBulk d + 1
  | (_, d) => uptoBulk d + 1
 end
def uptoSmall : (H : Type) → List (DataW H) → Bool := fun _ ds => decide (uptoBulkAll ds ≤ 1048576)
def OpenSpec.upto (s : _root_.Go.ChangeSpec) : _root_.Go.OpenSpec := { _root_.Go.OpenSpec.ofChange s with cond := some uptoSmall }

/-- 'pressmarklaw18.DocReach', WHERE WHAT IT READS IS OF BULK AT MOST 1048576: true; the input reads as it did. -/
def docReachUptoRow : OpenClaim := { program := "ythlbahnfimigcaa", sum := "46638134076958e269a8a61a31d64a74e2afb17d92e0008df09725f5f10de303", func := "pressmark/pressmarklaw18.DocReach", spec := "docReach", unfollowed := true, recurses := true, loops := true, apart := false, narrowed := true }
def DocReachUptoSaid : Prop := docReachUptoRow.holds Try.pinned (OpenSpec.upto docReachSpec)

/-- 'pressmarklaw18.DocNumbers', WHERE WHAT IT READS IS OF BULK AT MOST 1048576: true; the input reads as it did. -/
def docNumbersUptoRow : OpenClaim := { program := "ythlbahnfimigcaa", sum := "46638134076958e269a8a61a31d64a74e2afb17d92e0008df09725f5f10de303", func := "pressmark/pressmarklaw18.DocNumbers", spec := "docNumbers", recurses := true, loops := true, apart := false, narrowed := true }
def DocNumbersUptoSaid : Prop := docNumbersUptoRow.holds Try.pinned (OpenSpec.upto docNumbersSpec)

/-- 'pressmarklaw18.DocWalks', WHERE WHAT IT READS IS OF BULK AT MOST 1048576: true; the input reads as it did. -/
def docWalksUptoRow : OpenClaim := { program := "ythlbahnfimigcaa", sum := "46638134076958e269a8a61a31d64a74e2afb17d92e0008df09725f5f10de303", func := "pressmark/pressmarklaw18.DocWalks", spec := "docWalks", unfollowed := true, recurses := true, loops := true, apart := false, narrowed := true }
def DocWalksUptoSaid : Prop := docWalksUptoRow.holds Try.pinned (OpenSpec.upto docWalksSpec)

/-- 'pressmarklaw18.DocKnown', WHERE WHAT IT READS IS OF BULK AT MOST 1048576: true; the input reads as it did. -/
def docKnownUptoRow : OpenClaim := { program := "ythlbahnfimigcaa", sum := "46638134076958e269a8a61a31d64a74e2afb17d92e0008df09725f5f10de303", func := "pressmark/pressmarklaw18.DocKnown", spec := "docKnown", unfollowed := true, recurses := true, apart := false, narrowed := true }
def DocKnownUptoSaid : Prop := docKnownUptoRow.holds Try.pinned (OpenSpec.upto docKnownSpec)

/-- 'pressmarklaw18.DocPuts', WHERE WHAT IT READS IS OF BULK AT MOST 1048576: true; the input reads as it did. -/
def docPutsUptoRow : OpenClaim := { program := "ythlbahnfimigcaa", sum := "46638134076958e269a8a61a31d64a74e2afb17d92e0008df09725f5f10de303", func := "pressmark/pressmarklaw18.DocPuts", spec := "docPuts", inPlace := ["slices.overlaps[pressmark/api.Item]"], unfollowed := true, recurses := true, loops := true, apart := false, narrowed := true }
def DocPutsUptoSaid : Prop := docPutsUptoRow.holds Try.pinned (OpenSpec.upto docPutsSpec)

end Rows
end Go.Proofs.Ythlbahnfimigcaa
