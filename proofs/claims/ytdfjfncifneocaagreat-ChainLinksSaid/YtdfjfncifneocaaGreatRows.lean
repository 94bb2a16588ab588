/-
  NARROWER THAN 'FOR EVERY INPUT', by the rows' own cells (each row's printed sentence says how): ChainLinks: loops.
  DERIVED. THE GIVEN ROWS OF THIS SEAT. 6 by the template 'for every input the law returns true; each argument reads behind the call as it read before'; 0 by the template 'total and deterministic' (their statements: YtdfjfncifneocaaGreatTotals.lean).
  GIVEN WITH THE SEED: the statements are not yours to turn. If you find one false, say at which input.
  Laid BY PROGRAM, IN A SANDBOX (cutbox-rows.mjs): the forced cells as the released guide's own fill.sh prints them over the translation c241b1482cd90eff… (all of the seat's roots in one cut). By AI agents, Wed Nov 11 2026. No macro, syntax, notation, axiom, sorry.
-/
import Derived.Test.YtdfjfncifneocaaGreatChecked
import GoSem.Claim
import GoSem.ClaimJoined
import GoSem.ClaimMapViews
import Derived.JoinedTies
import Derived.KernelRfl
namespace Go.Proofs.YtdfjfncifneocaaGreat
/- THE CELL 'sum', in the pinned program and in every row, IS THE sha256 OF THE DUMP (.gsa) THAT YtdfjfncifneocaaGreatProg.lean LOADS. Nothing in Lean hashes anything: it is a label: what it is worth is what the hold of that sum in a sandbox is worth. -/
noncomputable def Tryz.pinned : Pinned := { name := "ytdfjfncifneocaagreat", sum := "c241b1482cd90eff847dc456b116c367767e8c2b32da7e3188807ac87de243eb", checked := Tryz.checked }
namespace Rows
def none {H : Type} : Left H := { results := [], args := [] }

/-- 'pressmarklaw14.ChainLinks': WHATEVER THE INPUT: true; the input reads as it did. -/
def chainLinksSpec : ChangeSpec := { name := "chainLinks", fn := fun _ => fun
  | [d1, d2, d3] => { results := [.lit (.bool true)], args := [d1, d2, d3] }
  | _ => none }
def chainLinksRow : OpenClaim := { program := "ytdfjfncifneocaagreat", sum := "c241b1482cd90eff847dc456b116c367767e8c2b32da7e3188807ac87de243eb", func := "pressmark/pressmarklaw14.ChainLinks", spec := "chainLinks", unfollowed := true, recurses := true, loops := true, apart := false }
def ChainLinksSaid : Prop := chainLinksRow.holds Tryz.pinned (OpenSpec.ofChange chainLinksSpec)

/-- ITS FALSE NEIGHBOUR: 'it returns false'. Refute it at one input. -/
def chainLinksWrong : ChangeSpec := { name := "chainLinks", fn := fun _ => fun
  | [d1, d2, d3] => { results := [.lit (.bool false)], args := [d1, d2, d3] }
  | _ => none }
def ChainLinksWrongFalsely : Prop := chainLinksRow.holds Tryz.pinned (OpenSpec.ofChange chainLinksWrong)

/-- 'pressmarklaw14.ChainWrites': WHATEVER THE INPUT: true; the input reads as it did. -/
def chainWritesSpec : ChangeSpec := { name := "chainWrites", fn := fun _ => fun
  | [d1, d2] => { results := [.lit (.bool true)], args := [d1, d2] }
  | _ => none }
def chainWritesRow : OpenClaim := { program := "ytdfjfncifneocaagreat", sum := "c241b1482cd90eff847dc456b116c367767e8c2b32da7e3188807ac87de243eb", func := "pressmark/pressmarklaw14.ChainWrites", spec := "chainWrites", inPlace := ["internal/bytealg.MakeNoZero", "internal/bytealg.abigen_runtime_cmpstring"], unfollowed := true, recurses := true, apart := false }
def ChainWritesSaid : Prop := chainWritesRow.holds Tryz.pinned (OpenSpec.ofChange chainWritesSpec)

/-- ITS FALSE NEIGHBOUR: 'it returns false'. Refute it at one input. -/
def chainWritesWrong : ChangeSpec := { name := "chainWrites", fn := fun _ => fun
  | [d1, d2] => { results := [.lit (.bool false)], args := [d1, d2] }
  | _ => none }
def ChainWritesWrongFalsely : Prop := chainWritesRow.holds Tryz.pinned (OpenSpec.ofChange chainWritesWrong)

/-- 'pressmarklaw14.ChainBound': WHATEVER THE INPUT: true; the input reads as it did. -/
def chainBoundSpec : ChangeSpec := { name := "chainBound", fn := fun _ => fun
  | [d1, d2] => { results := [.lit (.bool true)], args := [d1, d2] }
  | _ => none }
def chainBoundRow : OpenClaim := { program := "ytdfjfncifneocaagreat", sum := "c241b1482cd90eff847dc456b116c367767e8c2b32da7e3188807ac87de243eb", func := "pressmark/pressmarklaw14.ChainBound", spec := "chainBound", inPlace := ["internal/bytealg.MakeNoZero", "internal/bytealg.abigen_runtime_cmpstring"], unfollowed := true, recurses := true, apart := false }
def ChainBoundSaid : Prop := chainBoundRow.holds Tryz.pinned (OpenSpec.ofChange chainBoundSpec)

/-- ITS FALSE NEIGHBOUR: 'it returns false'. Refute it at one input. -/
def chainBoundWrong : ChangeSpec := { name := "chainBound", fn := fun _ => fun
  | [d1, d2] => { results := [.lit (.bool false)], args := [d1, d2] }
  | _ => none }
def ChainBoundWrongFalsely : Prop := chainBoundRow.holds Tryz.pinned (OpenSpec.ofChange chainBoundWrong)

/-- 'pressmarklaw14.ChainOrder': WHATEVER THE INPUT: true; the input reads as it did. -/
def chainOrderSpec : ChangeSpec := { name := "chainOrder", fn := fun _ => fun
  | [d1, d2, d3] => { results := [.lit (.bool true)], args := [d1, d2, d3] }
  | _ => none }
def chainOrderRow : OpenClaim := { program := "ytdfjfncifneocaagreat", sum := "c241b1482cd90eff847dc456b116c367767e8c2b32da7e3188807ac87de243eb", func := "pressmark/pressmarklaw14.ChainOrder", spec := "chainOrder", inPlace := ["internal/bytealg.MakeNoZero", "internal/bytealg.abigen_runtime_cmpstring"], unfollowed := true, recurses := true, apart := false }
def ChainOrderSaid : Prop := chainOrderRow.holds Tryz.pinned (OpenSpec.ofChange chainOrderSpec)

/-- ITS FALSE NEIGHBOUR: 'it returns false'. Refute it at one input. -/
def chainOrderWrong : ChangeSpec := { name := "chainOrder", fn := fun _ => fun
  | [d1, d2, d3] => { results := [.lit (.bool false)], args := [d1, d2, d3] }
  | _ => none }
def ChainOrderWrongFalsely : Prop := chainOrderRow.holds Tryz.pinned (OpenSpec.ofChange chainOrderWrong)

/-- 'pressmarklaw14.ChainKnown': WHATEVER THE INPUT: true; the input reads as it did. -/
def chainKnownSpec : ChangeSpec := { name := "chainKnown", fn := fun _ => fun
  | [] => { results := [.lit (.bool true)], args := [] }
  | _ => none }
def chainKnownRow : OpenClaim := { program := "ytdfjfncifneocaagreat", sum := "c241b1482cd90eff847dc456b116c367767e8c2b32da7e3188807ac87de243eb", func := "pressmark/pressmarklaw14.ChainKnown", spec := "chainKnown", inPlace := ["internal/bytealg.MakeNoZero", "internal/bytealg.abigen_runtime_cmpstring"], unfollowed := true, recurses := true, apart := false }
def ChainKnownSaid : Prop := chainKnownRow.holds Tryz.pinned (OpenSpec.ofChange chainKnownSpec)

/-- ITS FALSE NEIGHBOUR: 'it returns false'. Refute it at one input. -/
def chainKnownWrong : ChangeSpec := { name := "chainKnown", fn := fun _ => fun
  | [] => { results := [.lit (.bool false)], args := [] }
  | _ => none }
def ChainKnownWrongFalsely : Prop := chainKnownRow.holds Tryz.pinned (OpenSpec.ofChange chainKnownWrong)

/-- 'pressmarklaw14.ChainBack': WHATEVER THE INPUT: true; the input reads as it did. -/
def chainBackSpec : ChangeSpec := { name := "chainBack", fn := fun _ => fun
  | [d1, d2] => { results := [.lit (.bool true)], args := [d1, d2] }
  | _ => none }
def chainBackRow : OpenClaim := { program := "ytdfjfncifneocaagreat", sum := "c241b1482cd90eff847dc456b116c367767e8c2b32da7e3188807ac87de243eb", func := "pressmark/pressmarklaw14.ChainBack", spec := "chainBack", inPlace := ["internal/bytealg.MakeNoZero", "internal/bytealg.abigen_runtime_cmpstring"], unfollowed := true, recurses := true, apart := false }
def ChainBackSaid : Prop := chainBackRow.holds Tryz.pinned (OpenSpec.ofChange chainBackSpec)

/-- ITS FALSE NEIGHBOUR: 'it returns false'. Refute it at one input. -/
def chainBackWrong : ChangeSpec := { name := "chainBack", fn := fun _ => fun
  | [d1, d2] => { results := [.lit (.bool false)], args := [d1, d2] }
  | _ => none }
def ChainBackWrongFalsely : Prop := chainBackRow.holds Tryz.pinned (OpenSpec.ofChange chainBackWrong)

/- THE SECOND FORM. 'bulk': how many values and letters a reading holds, each counted each time it is reached (what is shared counts as often as it is met; a slice's spare places count too). A statement '..UptoSaid' is the law's where the arguments, and the package variables that the reading takes, are together of bulk at most 1048576: NARROWER than '..Said'. Prove '..Said' where nothing that the law and all that it calls make is longer than what came in: it says more and counts as full. Else prove '..UptoSaid'. A law counts once. -/
mutual
def uptoBulk {H : Type} : DataW H → Nat
  | .lit (.string bytes) => bytes.length + 1
  | .lit _ => 1
  | .nil => 1
  | .ptr d => uptoBulk d + 1
  | .slice elems spare => uptoBulkAll elems + uptoBulkAll spare + 1
  | .agg parts => uptoBulkAll parts + 1
  | .iface _ d => uptoBulk d + 1
  | .map entries => uptoBulkEntries entries + 1
  | .held _ => 1
def uptoBulkAll {H : Type} : List (DataW H) → Nat
  | [] => 0
  | d :: r => uptoBulk d + uptoBulkAll r
def uptoBulkEntries {H : Type} : List (Lit × DataW H) → Nat
  | [] => 0
  | x :: r => uptoBulkEntry x + uptoBulkEntries r
def uptoBulkEntry {H : Type} : Lit × DataW H → Nat
  | (.string bytes, d) => bytes.length + uptoBulk d + 1
  | (_, d) => uptoBulk d + 1
 end
def uptoSmall : (H : Type) → List (DataW H) → Bool := fun _ ds => decide (uptoBulkAll ds ≤ 1048576)
def OpenSpec.upto (s : _root_.Go.ChangeSpec) : _root_.Go.OpenSpec := { _root_.Go.OpenSpec.ofChange s with cond := some uptoSmall }

/-- 'pressmarklaw14.ChainLinks', WHERE WHAT IT READS IS OF BULK AT MOST 1048576: true; the input reads as it did. -/
def chainLinksUptoRow : OpenClaim := { program := "ytdfjfncifneocaagreat", sum := "c241b1482cd90eff847dc456b116c367767e8c2b32da7e3188807ac87de243eb", func := "pressmark/pressmarklaw14.ChainLinks", spec := "chainLinks", unfollowed := true, recurses := true, loops := true, apart := false, narrowed := true }
def ChainLinksUptoSaid : Prop := chainLinksUptoRow.holds Tryz.pinned (OpenSpec.upto chainLinksSpec)

/-- 'pressmarklaw14.ChainWrites', WHERE WHAT IT READS IS OF BULK AT MOST 1048576: true; the input reads as it did. -/
def chainWritesUptoRow : OpenClaim := { program := "ytdfjfncifneocaagreat", sum := "c241b1482cd90eff847dc456b116c367767e8c2b32da7e3188807ac87de243eb", func := "pressmark/pressmarklaw14.ChainWrites", spec := "chainWrites", inPlace := ["internal/bytealg.MakeNoZero", "internal/bytealg.abigen_runtime_cmpstring"], unfollowed := true, recurses := true, apart := false, narrowed := true }
def ChainWritesUptoSaid : Prop := chainWritesUptoRow.holds Tryz.pinned (OpenSpec.upto chainWritesSpec)

/-- 'pressmarklaw14.ChainBound', WHERE WHAT IT READS IS OF BULK AT MOST 1048576: true; the input reads as it did. -/
def chainBoundUptoRow : OpenClaim := { program := "ytdfjfncifneocaagreat", sum := "c241b1482cd90eff847dc456b116c367767e8c2b32da7e3188807ac87de243eb", func := "pressmark/pressmarklaw14.ChainBound", spec := "chainBound", inPlace := ["internal/bytealg.MakeNoZero", "internal/bytealg.abigen_runtime_cmpstring"], unfollowed := true, recurses := true, apart := false, narrowed := true }
def ChainBoundUptoSaid : Prop := chainBoundUptoRow.holds Tryz.pinned (OpenSpec.upto chainBoundSpec)

/-- 'pressmarklaw14.ChainOrder', WHERE WHAT IT READS IS OF BULK AT MOST 1048576: true; the input reads as it did. -/
def chainOrderUptoRow : OpenClaim := { program := "ytdfjfncifneocaagreat", sum := "c241b1482cd90eff847dc456b116c367767e8c2b32da7e3188807ac87de243eb", func := "pressmark/pressmarklaw14.ChainOrder", spec := "chainOrder", inPlace := ["internal/bytealg.MakeNoZero", "internal/bytealg.abigen_runtime_cmpstring"], unfollowed := true, recurses := true, apart := false, narrowed := true }
def ChainOrderUptoSaid : Prop := chainOrderUptoRow.holds Tryz.pinned (OpenSpec.upto chainOrderSpec)

/-- 'pressmarklaw14.ChainKnown', WHERE WHAT IT READS IS OF BULK AT MOST 1048576: true; the input reads as it did. -/
def chainKnownUptoRow : OpenClaim := { program := "ytdfjfncifneocaagreat", sum := "c241b1482cd90eff847dc456b116c367767e8c2b32da7e3188807ac87de243eb", func := "pressmark/pressmarklaw14.ChainKnown", spec := "chainKnown", inPlace := ["internal/bytealg.MakeNoZero", "internal/bytealg.abigen_runtime_cmpstring"], unfollowed := true, recurses := true, apart := false, narrowed := true }
def ChainKnownUptoSaid : Prop := chainKnownUptoRow.holds Tryz.pinned (OpenSpec.upto chainKnownSpec)

/-- 'pressmarklaw14.ChainBack', WHERE WHAT IT READS IS OF BULK AT MOST 1048576: true; the input reads as it did. -/
def chainBackUptoRow : OpenClaim := { program := "ytdfjfncifneocaagreat", sum := "c241b1482cd90eff847dc456b116c367767e8c2b32da7e3188807ac87de243eb", func := "pressmark/pressmarklaw14.ChainBack", spec := "chainBack", inPlace := ["internal/bytealg.MakeNoZero", "internal/bytealg.abigen_runtime_cmpstring"], unfollowed := true, recurses := true, apart := false, narrowed := true }
def ChainBackUptoSaid : Prop := chainBackUptoRow.holds Tryz.pinned (OpenSpec.upto chainBackSpec)

end Rows
end Go.Proofs.YtdfjfncifneocaaGreat
