/-
  No cell of these rows narrows 'for every input' (looked for: loops, veiled, ifaces, maps, wideKeys, modest, calm, conditions, laid).
  DERIVED. THE GIVEN ROWS OF THIS SEAT. 5 by the template 'for every input the law returns true; each argument reads behind the call as it read before'; 0 by the template 'total and deterministic' (their statements: YtndlajhkbepafaaTotals.lean).
  GIVEN WITH THE SEED: the statements are not yours to turn. If you find one false, say at which input.
  Laid BY PROGRAM, IN A SANDBOX (cutbox-rows.mjs): the forced cells as the released guide's own fill.sh prints them over the translation 8d1c0cc205fe2099… (all of the seat's roots in one cut). By AI agents, Wed Nov 11 2026. No macro, syntax, notation, axiom, sorry.
-/
import Derived.Test.YtndlajhkbepafaaChecked
import GoSem.Claim
import GoSem.ClaimJoined
import GoSem.ClaimMapViews
import Derived.JoinedTies
import Derived.KernelRfl
namespace Go.Proofs.Ytndlajhkbepafaa
/- THE CELL 'sum', in the pinned program and in every row, IS THE sha256 OF THE DUMP (.gsa) THAT YtndlajhkbepafaaProg.lean LOADS. Nothing in Lean hashes anything: it is a label: what it is worth is what the hold of that sum in a sandbox is worth. -/
noncomputable def Try.pinned : Pinned := { name := "ytndlajhkbepafaa", sum := "8d1c0cc205fe20994f0ceb42bf92ad0f7254ff2707441a85bcfc5be7049c1f43", checked := Try.checked }
namespace Rows
def none {H : Type} : Left H := { results := [], args := [] }

/-- 'pressmarklaw1.CursorPieces': WHATEVER THE INPUT: true; the input reads as it did. -/
def cursorPiecesSpec : ChangeSpec := { name := "cursorPieces", fn := fun _ => fun
  | [d1, d2] => { results := [.lit (.bool true)], args := [d1, d2] }
  | _ => none }
def cursorPiecesRow : OpenClaim := { program := "ytndlajhkbepafaa", sum := "8d1c0cc205fe20994f0ceb42bf92ad0f7254ff2707441a85bcfc5be7049c1f43", func := "pressmark/pressmarklaw1.CursorPieces", spec := "cursorPieces", apart := false }
def CursorPiecesSaid : Prop := cursorPiecesRow.holds Try.pinned (OpenSpec.ofChange cursorPiecesSpec)

/-- ITS FALSE NEIGHBOUR: 'it returns false'. Refute it at one input. -/
def cursorPiecesWrong : ChangeSpec := { name := "cursorPieces", fn := fun _ => fun
  | [d1, d2] => { results := [.lit (.bool false)], args := [d1, d2] }
  | _ => none }
def CursorPiecesWrongFalsely : Prop := cursorPiecesRow.holds Try.pinned (OpenSpec.ofChange cursorPiecesWrong)

/-- 'pressmarklaw1.CursorPlays': WHATEVER THE INPUT: true; the input reads as it did. -/
def cursorPlaysSpec : ChangeSpec := { name := "cursorPlays", fn := fun _ => fun
  | [d1, d2] => { results := [.lit (.bool true)], args := [d1, d2] }
  | _ => none }
def cursorPlaysRow : OpenClaim := { program := "ytndlajhkbepafaa", sum := "8d1c0cc205fe20994f0ceb42bf92ad0f7254ff2707441a85bcfc5be7049c1f43", func := "pressmark/pressmarklaw1.CursorPlays", spec := "cursorPlays", apart := false }
def CursorPlaysSaid : Prop := cursorPlaysRow.holds Try.pinned (OpenSpec.ofChange cursorPlaysSpec)

/-- ITS FALSE NEIGHBOUR: 'it returns false'. Refute it at one input. -/
def cursorPlaysWrong : ChangeSpec := { name := "cursorPlays", fn := fun _ => fun
  | [d1, d2] => { results := [.lit (.bool false)], args := [d1, d2] }
  | _ => none }
def CursorPlaysWrongFalsely : Prop := cursorPlaysRow.holds Try.pinned (OpenSpec.ofChange cursorPlaysWrong)

/-- 'pressmarklaw1.CursorFinds': WHATEVER THE INPUT: true; the input reads as it did. -/
def cursorFindsSpec : ChangeSpec := { name := "cursorFinds", fn := fun _ => fun
  | [d1, d2, d3] => { results := [.lit (.bool true)], args := [d1, d2, d3] }
  | _ => none }
def cursorFindsRow : OpenClaim := { program := "ytndlajhkbepafaa", sum := "8d1c0cc205fe20994f0ceb42bf92ad0f7254ff2707441a85bcfc5be7049c1f43", func := "pressmark/pressmarklaw1.CursorFinds", spec := "cursorFinds", inPlace := ["internal/bytealg.IndexByte", "internal/bytealg.Index"], named := ["internal/bytealg.MaxLen"], apart := false }
def CursorFindsSaid : Prop := cursorFindsRow.holds Try.pinned (OpenSpec.ofChange cursorFindsSpec)

/-- ITS FALSE NEIGHBOUR: 'it returns false'. Refute it at one input. -/
def cursorFindsWrong : ChangeSpec := { name := "cursorFinds", fn := fun _ => fun
  | [d1, d2, d3] => { results := [.lit (.bool false)], args := [d1, d2, d3] }
  | _ => none }
def CursorFindsWrongFalsely : Prop := cursorFindsRow.holds Try.pinned (OpenSpec.ofChange cursorFindsWrong)

/-- 'pressmarklaw1.CursorKnown': WHATEVER THE INPUT: true; the input reads as it did. -/
def cursorKnownSpec : ChangeSpec := { name := "cursorKnown", fn := fun _ => fun
  | [] => { results := [.lit (.bool true)], args := [] }
  | _ => none }
def cursorKnownRow : OpenClaim := { program := "ytndlajhkbepafaa", sum := "8d1c0cc205fe20994f0ceb42bf92ad0f7254ff2707441a85bcfc5be7049c1f43", func := "pressmark/pressmarklaw1.CursorKnown", spec := "cursorKnown", inPlace := ["internal/bytealg.IndexByte", "internal/bytealg.Index"], named := ["internal/bytealg.MaxLen"], apart := false }
def CursorKnownSaid : Prop := cursorKnownRow.holds Try.pinned (OpenSpec.ofChange cursorKnownSpec)

/-- ITS FALSE NEIGHBOUR: 'it returns false'. Refute it at one input. -/
def cursorKnownWrong : ChangeSpec := { name := "cursorKnown", fn := fun _ => fun
  | [] => { results := [.lit (.bool false)], args := [] }
  | _ => none }
def CursorKnownWrongFalsely : Prop := cursorKnownRow.holds Try.pinned (OpenSpec.ofChange cursorKnownWrong)

/-- 'pressmarklaw1.CursorParts': WHATEVER THE INPUT: true; the input reads as it did. -/
def cursorPartsSpec : ChangeSpec := { name := "cursorParts", fn := fun _ => fun
  | [d1, d2] => { results := [.lit (.bool true)], args := [d1, d2] }
  | _ => none }
def cursorPartsRow : OpenClaim := { program := "ytndlajhkbepafaa", sum := "8d1c0cc205fe20994f0ceb42bf92ad0f7254ff2707441a85bcfc5be7049c1f43", func := "pressmark/pressmarklaw1.CursorParts", spec := "cursorParts", inPlace := ["internal/bytealg.MakeNoZero", "internal/bytealg.IndexByte", "internal/bytealg.Index"], named := ["internal/bytealg.MaxLen"], apart := false }
def CursorPartsSaid : Prop := cursorPartsRow.holds Try.pinned (OpenSpec.ofChange cursorPartsSpec)

/-- ITS FALSE NEIGHBOUR: 'it returns false'. Refute it at one input. -/
def cursorPartsWrong : ChangeSpec := { name := "cursorParts", fn := fun _ => fun
  | [d1, d2] => { results := [.lit (.bool false)], args := [d1, d2] }
  | _ => none }
def CursorPartsWrongFalsely : Prop := cursorPartsRow.holds Try.pinned (OpenSpec.ofChange cursorPartsWrong)

/- THE SECOND FORM. 'bulk': how many values and letters a reading holds, each counted each time it is reached (what is shared counts as often as it is met; a slice's spare places count too). A statement '..UptoSaid' is the law's where the arguments, and the package variables that the reading takes, are together of bulk at most 1048576: NARROWER than '..Said'. Prove '..Said' where nothing that the law and all that it calls make is longer than what came in: it says more and counts as full. Else prove '..UptoSaid'. A law counts once. -/
mutual
def uptoBulk {H : Type} : DataW H → Nat
  | .lit (.string bytes) => bytes.length + 1
  | .lit _ => 1
  | .nil => 1
  | .ptr d => uptoBulk d + 1
  | .slice elems spare => uptoBulkAll elems + uptoBulkAll spare + 1
  | .agg parts => uptoBulkAll parts + 1
  | .iface _ d => uptoBulk d + 1
  | .map entries => uptoBulkEntries entries + 1
  | .held _ => 1
def uptoBulkAll {H : Type} : List (DataW H) → Nat
  | [] => 0
  | d :: r => uptoBulk d + uptoBulkAll r
def uptoBulkEntries {H : Type} : List (Lit × DataW H) → Nat
  | [] => 0
  | x :: r => uptoBulkEntry x + uptoBulkEntries r
def uptoBulkEntry {H : Type} : Lit × DataW H → Nat
  | (.string bytes, d) => bytes.length + uptoBulk d + 1
  | (_, d) => uptoBulk d + 1
 end
def uptoSmall : (H : Type) → List (DataW H) → Bool := fun _ ds => decide (uptoBulkAll ds ≤ 1048576)
def OpenSpec.upto (s : _root_.Go.ChangeSpec) : _root_.Go.OpenSpec := { _root_.Go.OpenSpec.ofChange s with cond := some uptoSmall }

/-- 'pressmarklaw1.CursorPieces', WHERE WHAT IT READS IS OF BULK AT MOST 1048576: true; the input reads as it did. -/
def cursorPiecesUptoRow : OpenClaim := { program := "ytndlajhkbepafaa", sum := "8d1c0cc205fe20994f0ceb42bf92ad0f7254ff2707441a85bcfc5be7049c1f43", func := "pressmark/pressmarklaw1.CursorPieces", spec := "cursorPieces", apart := false, narrowed := true }
def CursorPiecesUptoSaid : Prop := cursorPiecesUptoRow.holds Try.pinned (OpenSpec.upto cursorPiecesSpec)

/-- 'pressmarklaw1.CursorPlays', WHERE WHAT IT READS IS OF BULK AT MOST 1048576: true; the input reads as it did. -/
def cursorPlaysUptoRow : OpenClaim := { program := "ytndlajhkbepafaa", sum := "8d1c0cc205fe20994f0ceb42bf92ad0f7254ff2707441a85bcfc5be7049c1f43", func := "pressmark/pressmarklaw1.CursorPlays", spec := "cursorPlays", apart := false, narrowed := true }
def CursorPlaysUptoSaid : Prop := cursorPlaysUptoRow.holds Try.pinned (OpenSpec.upto cursorPlaysSpec)

/-- 'pressmarklaw1.CursorFinds', WHERE WHAT IT READS IS OF BULK AT MOST 1048576: true; the input reads as it did. -/
def cursorFindsUptoRow : OpenClaim := { program := "ytndlajhkbepafaa", sum := "8d1c0cc205fe20994f0ceb42bf92ad0f7254ff2707441a85bcfc5be7049c1f43", func := "pressmark/pressmarklaw1.CursorFinds", spec := "cursorFinds", inPlace := ["internal/bytealg.IndexByte", "internal/bytealg.Index"], named := ["internal/bytealg.MaxLen"], apart := false, narrowed := true }
def CursorFindsUptoSaid : Prop := cursorFindsUptoRow.holds Try.pinned (OpenSpec.upto cursorFindsSpec)

/-- 'pressmarklaw1.CursorKnown', WHERE WHAT IT READS IS OF BULK AT MOST 1048576: true; the input reads as it did. -/
def cursorKnownUptoRow : OpenClaim := { program := "ytndlajhkbepafaa", sum := "8d1c0cc205fe20994f0ceb42bf92ad0f7254ff2707441a85bcfc5be7049c1f43", func := "pressmark/pressmarklaw1.CursorKnown", spec := "cursorKnown", inPlace := ["internal/bytealg.IndexByte", "internal/bytealg.Index"], named := ["internal/bytealg.MaxLen"], apart := false, narrowed := true }
def CursorKnownUptoSaid : Prop := cursorKnownUptoRow.holds Try.pinned (OpenSpec.upto cursorKnownSpec)

/-- 'pressmarklaw1.CursorParts', WHERE WHAT IT READS IS OF BULK AT MOST 1048576: true; the input reads as it did. -/
def cursorPartsUptoRow : OpenClaim := { program := "ytndlajhkbepafaa", sum := "8d1c0cc205fe20994f0ceb42bf92ad0f7254ff2707441a85bcfc5be7049c1f43", func := "pressmark/pressmarklaw1.CursorParts", spec := "cursorParts", inPlace := ["internal/bytealg.MakeNoZero", "internal/bytealg.IndexByte", "internal/bytealg.Index"], named := ["internal/bytealg.MaxLen"], apart := false, narrowed := true }
def CursorPartsUptoSaid : Prop := cursorPartsUptoRow.holds Try.pinned (OpenSpec.upto cursorPartsSpec)

end Rows
end Go.Proofs.Ytndlajhkbepafaa
