/-
  NARROWER THAN 'FOR EVERY INPUT', by the rows' own cells (each row's printed sentence says how): PagesWalks: loops.
  DERIVED. THE GIVEN ROWS OF THIS SEAT. 4 by the template 'for every input the law returns true; each argument reads behind the call as it read before'; 0 by the template 'total and deterministic' (their statements: YtokfoagohblkoaaTotals.lean).
  GIVEN WITH THE SEED: the statements are not yours to turn. If you find one false, say at which input.
  Laid BY PROGRAM, IN A SANDBOX (cutbox-rows.mjs): the forced cells as the released guide's own fill.sh prints them over the translation 65c9748c0d1de197… (all of the seat's roots in one cut). By AI agents, Wed Nov 11 2026. No macro, syntax, notation, axiom, sorry.
-/
import Derived.Test.YtokfoagohblkoaaChecked
import GoSem.Claim
import GoSem.ClaimJoined
import GoSem.ClaimMapViews
import Derived.JoinedTies
import Derived.KernelRfl
namespace Go.Proofs.Ytokfoagohblkoaa
/- THE CELL 'sum', in the pinned program and in every row, IS THE sha256 OF THE DUMP (.gsa) THAT YtokfoagohblkoaaProg.lean LOADS. Nothing in Lean hashes anything: it is a label: what it is worth is what the hold of that sum in a sandbox is worth. -/
noncomputable def Try.pinned : Pinned := { name := "ytokfoagohblkoaa", sum := "65c9748c0d1de197214ab5b460b7677d9e84e3f04749ef7d8b925962e0438bc7", checked := Try.checked }
namespace Rows
def none {H : Type} : Left H := { results := [], args := [] }

/-- 'pressmarklaw21.PagesKnown': WHATEVER THE INPUT: true; the input reads as it did. -/
def pagesKnownSpec : ChangeSpec := { name := "pagesKnown", fn := fun _ => fun
  | [] => { results := [.lit (.bool true)], args := [] }
  | _ => none }
def pagesKnownRow : OpenClaim := { program := "ytokfoagohblkoaa", sum := "65c9748c0d1de197214ab5b460b7677d9e84e3f04749ef7d8b925962e0438bc7", func := "pressmark/pressmarklaw21.PagesKnown", spec := "pagesKnown", inPlace := ["internal/bytealg.abigen_runtime_cmpstring"], unfollowed := true, recurses := true, apart := false }
def PagesKnownSaid : Prop := pagesKnownRow.holds Try.pinned (OpenSpec.ofChange pagesKnownSpec)

/-- ITS FALSE NEIGHBOUR: 'it returns false'. Refute it at one input. -/
def pagesKnownWrong : ChangeSpec := { name := "pagesKnown", fn := fun _ => fun
  | [] => { results := [.lit (.bool false)], args := [] }
  | _ => none }
def PagesKnownWrongFalsely : Prop := pagesKnownRow.holds Try.pinned (OpenSpec.ofChange pagesKnownWrong)

/-- 'pressmarklaw21.PagesWalks': WHATEVER THE INPUT: true; the input reads as it did. -/
def pagesWalksSpec : ChangeSpec := { name := "pagesWalks", fn := fun _ => fun
  | [d1, d2] => { results := [.lit (.bool true)], args := [d1, d2] }
  | _ => none }
def pagesWalksRow : OpenClaim := { program := "ytokfoagohblkoaa", sum := "65c9748c0d1de197214ab5b460b7677d9e84e3f04749ef7d8b925962e0438bc7", func := "pressmark/pressmarklaw21.PagesWalks", spec := "pagesWalks", inPlace := ["internal/bytealg.abigen_runtime_cmpstring"], unfollowed := true, recurses := true, loops := true, apart := false }
def PagesWalksSaid : Prop := pagesWalksRow.holds Try.pinned (OpenSpec.ofChange pagesWalksSpec)

/-- ITS FALSE NEIGHBOUR: 'it returns false'. Refute it at one input. -/
def pagesWalksWrong : ChangeSpec := { name := "pagesWalks", fn := fun _ => fun
  | [d1, d2] => { results := [.lit (.bool false)], args := [d1, d2] }
  | _ => none }
def PagesWalksWrongFalsely : Prop := pagesWalksRow.holds Try.pinned (OpenSpec.ofChange pagesWalksWrong)

/-- 'pressmarklaw21.PagesTree': WHATEVER THE INPUT: true; the input reads as it did. -/
def pagesTreeSpec : ChangeSpec := { name := "pagesTree", fn := fun _ => fun
  | [d] => { results := [.lit (.bool true)], args := [d] }
  | _ => none }
def pagesTreeRow : OpenClaim := { program := "ytokfoagohblkoaa", sum := "65c9748c0d1de197214ab5b460b7677d9e84e3f04749ef7d8b925962e0438bc7", func := "pressmark/pressmarklaw21.PagesTree", spec := "pagesTree", inPlace := ["internal/bytealg.abigen_runtime_cmpstring"], unfollowed := true, recurses := true, apart := false }
def PagesTreeSaid : Prop := pagesTreeRow.holds Try.pinned (OpenSpec.ofChange pagesTreeSpec)

/-- ITS FALSE NEIGHBOUR: 'it returns false'. Refute it at one input. -/
def pagesTreeWrong : ChangeSpec := { name := "pagesTree", fn := fun _ => fun
  | [d] => { results := [.lit (.bool false)], args := [d] }
  | _ => none }
def PagesTreeWrongFalsely : Prop := pagesTreeRow.holds Try.pinned (OpenSpec.ofChange pagesTreeWrong)

/-- 'pressmarklaw21.PagesBoxes': WHATEVER THE INPUT: true; the input reads as it did. -/
def pagesBoxesSpec : ChangeSpec := { name := "pagesBoxes", fn := fun _ => fun
  | [d1, d2] => { results := [.lit (.bool true)], args := [d1, d2] }
  | _ => none }
def pagesBoxesRow : OpenClaim := { program := "ytokfoagohblkoaa", sum := "65c9748c0d1de197214ab5b460b7677d9e84e3f04749ef7d8b925962e0438bc7", func := "pressmark/pressmarklaw21.PagesBoxes", spec := "pagesBoxes", inPlace := ["internal/bytealg.abigen_runtime_cmpstring"], unfollowed := true, recurses := true, apart := false }
def PagesBoxesSaid : Prop := pagesBoxesRow.holds Try.pinned (OpenSpec.ofChange pagesBoxesSpec)

/-- ITS FALSE NEIGHBOUR: 'it returns false'. Refute it at one input. -/
def pagesBoxesWrong : ChangeSpec := { name := "pagesBoxes", fn := fun _ => fun
  | [d1, d2] => { results := [.lit (.bool false)], args := [d1, d2] }
  | _ => none }
def PagesBoxesWrongFalsely : Prop := pagesBoxesRow.holds Try.pinned (OpenSpec.ofChange pagesBoxesWrong)

/- THE SECOND FORM. 'bulk': how many values and letters a reading holds, each counted each time it is reached (what is shared counts as often as it is met; a slice's spare places count too). A statement '..UptoSaid' is the law's where the arguments, and the package variables that the reading takes, are together of bulk at most 1048576: NARROWER than '..Said'. Prove '..Said' where nothing that the law and all that it calls make is longer than what came in: it says more and counts as full. Else prove '..UptoSaid'. A law counts once. -/
mutual
def uptoBulk {H : Type} : DataW H → Nat
  | .lit (.string bytes) => bytes.length + 1
  | .lit _ => 1
  | .nil => 1
  | .ptr d => uptoBulk d + 1
  | .slice elems spare => uptoBulkAll elems + uptoBulkAll spare + 1
  | .agg parts => uptoBulkAll parts + 1
  | .iface _ d => uptoBulk d + 1
  | .map entries => uptoBulkEntries entries + 1
  | .held _ => 1
def uptoBulkAll {H : Type} : List (DataW H) → Nat
  | [] => 0
  | d :: r => uptoBulk d + uptoBulkAll r
def uptoBulkEntries {H : Type} : List (Lit × DataW H) → Nat
  | [] => 0
  | x :: r => uptoBulkEntry x + uptoBulkEntries r
def uptoBulkEntry {H : Type} : Lit × DataW H → Nat
  | (.string bytes, d) => bytes.length + uptoBulk d + 1
  | (_, d) => uptoBulk d + 1
 end
def uptoSmall : (H : Type) → List (DataW H) → Bool := fun _ ds => decide (uptoBulkAll ds ≤ 1048576)
def OpenSpec.upto (s : _root_.Go.ChangeSpec) : _root_.Go.OpenSpec := { _root_.Go.OpenSpec.ofChange s with cond := some uptoSmall }

/-- 'pressmarklaw21.PagesKnown', WHERE WHAT IT READS IS OF BULK AT MOST 1048576: true; the input reads as it did. -/
def pagesKnownUptoRow : OpenClaim := { program := "ytokfoagohblkoaa", sum := "65c9748c0d1de197214ab5b460b7677d9e84e3f04749ef7d8b925962e0438bc7", func := "pressmark/pressmarklaw21.PagesKnown", spec := "pagesKnown", inPlace := ["internal/bytealg.abigen_runtime_cmpstring"], unfollowed := true, recurses := true, apart := false, narrowed := true }
def PagesKnownUptoSaid : Prop := pagesKnownUptoRow.holds Try.pinned (OpenSpec.upto pagesKnownSpec)

/-- 'pressmarklaw21.PagesWalks', WHERE WHAT IT READS IS OF BULK AT MOST 1048576: true; the input reads as it did. -/
def pagesWalksUptoRow : OpenClaim := { program := "ytokfoagohblkoaa", sum := "65c9748c0d1de197214ab5b460b7677d9e84e3f04749ef7d8b925962e0438bc7", func := "pressmark/pressmarklaw21.PagesWalks", spec := "pagesWalks", inPlace := ["internal/bytealg.abigen_runtime_cmpstring"], unfollowed := true, recurses := true, loops := true, apart := false, narrowed := true }
def PagesWalksUptoSaid : Prop := pagesWalksUptoRow.holds Try.pinned (OpenSpec.upto pagesWalksSpec)

/-- 'pressmarklaw21.PagesTree', WHERE WHAT IT READS IS OF BULK AT MOST 1048576: true; the input reads as it did. -/
def pagesTreeUptoRow : OpenClaim := { program := "ytokfoagohblkoaa", sum := "65c9748c0d1de197214ab5b460b7677d9e84e3f04749ef7d8b925962e0438bc7", func := "pressmark/pressmarklaw21.PagesTree", spec := "pagesTree", inPlace := ["internal/bytealg.abigen_runtime_cmpstring"], unfollowed := true, recurses := true, apart := false, narrowed := true }
def PagesTreeUptoSaid : Prop := pagesTreeUptoRow.holds Try.pinned (OpenSpec.upto pagesTreeSpec)

/-- 'pressmarklaw21.PagesBoxes', WHERE WHAT IT READS IS OF BULK AT MOST 1048576: true; the input reads as it did. -/
def pagesBoxesUptoRow : OpenClaim := { program := "ytokfoagohblkoaa", sum := "65c9748c0d1de197214ab5b460b7677d9e84e3f04749ef7d8b925962e0438bc7", func := "pressmark/pressmarklaw21.PagesBoxes", spec := "pagesBoxes", inPlace := ["internal/bytealg.abigen_runtime_cmpstring"], unfollowed := true, recurses := true, apart := false, narrowed := true }
def PagesBoxesUptoSaid : Prop := pagesBoxesUptoRow.holds Try.pinned (OpenSpec.upto pagesBoxesSpec)

end Rows
end Go.Proofs.Ytokfoagohblkoaa
