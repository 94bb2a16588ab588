/-
  No cell of these rows narrows 'for every input' (looked for: loops, veiled, ifaces, maps, wideKeys, modest, calm, conditions, laid).
  DERIVED. THE GIVEN ROWS OF THIS SEAT. 8 by the template 'for every input the law returns true; each argument reads behind the call as it read before'; 0 by the template 'total and deterministic' (their statements: YtboafokjgnikcaaTotals.lean).
  GIVEN WITH THE SEED: the statements are not yours to turn. If you find one false, say at which input.
  Laid BY PROGRAM, IN A SANDBOX (cutbox-rows.mjs): the forced cells as the released guide's own fill.sh prints them over the translation 51dfb4973ef1fd4a… (all of the seat's roots in one cut). By AI agents, Wed Nov 11 2026. No macro, syntax, notation, axiom, sorry.
-/
import Derived.Test.YtboafokjgnikcaaChecked
import GoSem.Claim
import GoSem.ClaimJoined
import GoSem.ClaimMapViews
import Derived.JoinedTies
import Derived.KernelRfl
namespace Go.Proofs.Ytboafokjgnikcaa
/- THE CELL 'sum', in the pinned program and in every row, IS THE sha256 OF THE DUMP (.gsa) THAT YtboafokjgnikcaaProg.lean LOADS. Nothing in Lean hashes anything: it is a label: what it is worth is what the hold of that sum in a sandbox is worth. -/
noncomputable def Try.pinned : Pinned := { name := "ytboafokjgnikcaa", sum := "51dfb4973ef1fd4adf3c83042b7ce9dba6486a7d3bb79a7b9563e19c2fc1b758", checked := Try.checked }
namespace Rows
def none {H : Type} : Left H := { results := [], args := [] }

/-- 'pressmarklaw5.DeflateKnown': WHATEVER THE INPUT: true; the input reads as it did. -/
def deflateKnownSpec : ChangeSpec := { name := "deflateKnown", fn := fun _ => fun
  | [] => { results := [.lit (.bool true)], args := [] }
  | _ => none }
def deflateKnownRow : OpenClaim := { program := "ytboafokjgnikcaa", sum := "51dfb4973ef1fd4adf3c83042b7ce9dba6486a7d3bb79a7b9563e19c2fc1b758", func := "pressmark/pressmarklaw5.DeflateKnown", spec := "deflateKnown", inPlace := ["internal/bytealg.MakeNoZero"], apart := false }
def DeflateKnownSaid : Prop := deflateKnownRow.holds Try.pinned (OpenSpec.ofChange deflateKnownSpec)

/-- ITS FALSE NEIGHBOUR: 'it returns false'. Refute it at one input. -/
def deflateKnownWrong : ChangeSpec := { name := "deflateKnown", fn := fun _ => fun
  | [] => { results := [.lit (.bool false)], args := [] }
  | _ => none }
def DeflateKnownWrongFalsely : Prop := deflateKnownRow.holds Try.pinned (OpenSpec.ofChange deflateKnownWrong)

/-- 'pressmarklaw18.DocKnown': WHATEVER THE INPUT: true; the input reads as it did. -/
def docKnownSpec : ChangeSpec := { name := "docKnown", fn := fun _ => fun
  | [] => { results := [.lit (.bool true)], args := [] }
  | _ => none }
def docKnownRow : OpenClaim := { program := "ytboafokjgnikcaa", sum := "51dfb4973ef1fd4adf3c83042b7ce9dba6486a7d3bb79a7b9563e19c2fc1b758", func := "pressmark/pressmarklaw18.DocKnown", spec := "docKnown", unfollowed := true, recurses := true, apart := false }
def DocKnownSaid : Prop := docKnownRow.holds Try.pinned (OpenSpec.ofChange docKnownSpec)

/-- ITS FALSE NEIGHBOUR: 'it returns false'. Refute it at one input. -/
def docKnownWrong : ChangeSpec := { name := "docKnown", fn := fun _ => fun
  | [] => { results := [.lit (.bool false)], args := [] }
  | _ => none }
def DocKnownWrongFalsely : Prop := docKnownRow.holds Try.pinned (OpenSpec.ofChange docKnownWrong)

/-- 'pressmarklaw24.IccKnown': WHATEVER THE INPUT: true; the input reads as it did. -/
def iccKnownSpec : ChangeSpec := { name := "iccKnown", fn := fun _ => fun
  | [] => { results := [.lit (.bool true)], args := [] }
  | _ => none }
def iccKnownRow : OpenClaim := { program := "ytboafokjgnikcaa", sum := "51dfb4973ef1fd4adf3c83042b7ce9dba6486a7d3bb79a7b9563e19c2fc1b758", func := "pressmark/pressmarklaw24.IccKnown", spec := "iccKnown", inPlace := ["internal/bytealg.MakeNoZero"], unfollowed := true, recurses := true, apart := false }
def IccKnownSaid : Prop := iccKnownRow.holds Try.pinned (OpenSpec.ofChange iccKnownSpec)

/-- ITS FALSE NEIGHBOUR: 'it returns false'. Refute it at one input. -/
def iccKnownWrong : ChangeSpec := { name := "iccKnown", fn := fun _ => fun
  | [] => { results := [.lit (.bool false)], args := [] }
  | _ => none }
def IccKnownWrongFalsely : Prop := iccKnownRow.holds Try.pinned (OpenSpec.ofChange iccKnownWrong)

/-- 'pressmarklaw21.PagesKnown': WHATEVER THE INPUT: true; the input reads as it did. -/
def pagesKnownSpec : ChangeSpec := { name := "pagesKnown", fn := fun _ => fun
  | [] => { results := [.lit (.bool true)], args := [] }
  | _ => none }
def pagesKnownRow : OpenClaim := { program := "ytboafokjgnikcaa", sum := "51dfb4973ef1fd4adf3c83042b7ce9dba6486a7d3bb79a7b9563e19c2fc1b758", func := "pressmark/pressmarklaw21.PagesKnown", spec := "pagesKnown", inPlace := ["internal/bytealg.abigen_runtime_cmpstring"], unfollowed := true, recurses := true, apart := false }
def PagesKnownSaid : Prop := pagesKnownRow.holds Try.pinned (OpenSpec.ofChange pagesKnownSpec)

/-- ITS FALSE NEIGHBOUR: 'it returns false'. Refute it at one input. -/
def pagesKnownWrong : ChangeSpec := { name := "pagesKnown", fn := fun _ => fun
  | [] => { results := [.lit (.bool false)], args := [] }
  | _ => none }
def PagesKnownWrongFalsely : Prop := pagesKnownRow.holds Try.pinned (OpenSpec.ofChange pagesKnownWrong)

/-- 'pressmarklaw1.CursorKnown': WHATEVER THE INPUT: true; the input reads as it did. -/
def cursorKnownSpec : ChangeSpec := { name := "cursorKnown", fn := fun _ => fun
  | [] => { results := [.lit (.bool true)], args := [] }
  | _ => none }
def cursorKnownRow : OpenClaim := { program := "ytboafokjgnikcaa", sum := "51dfb4973ef1fd4adf3c83042b7ce9dba6486a7d3bb79a7b9563e19c2fc1b758", func := "pressmark/pressmarklaw1.CursorKnown", spec := "cursorKnown", inPlace := ["internal/bytealg.IndexByte", "internal/bytealg.Index"], named := ["internal/bytealg.MaxLen"], apart := false }
def CursorKnownSaid : Prop := cursorKnownRow.holds Try.pinned (OpenSpec.ofChange cursorKnownSpec)

/-- ITS FALSE NEIGHBOUR: 'it returns false'. Refute it at one input. -/
def cursorKnownWrong : ChangeSpec := { name := "cursorKnown", fn := fun _ => fun
  | [] => { results := [.lit (.bool false)], args := [] }
  | _ => none }
def CursorKnownWrongFalsely : Prop := cursorKnownRow.holds Try.pinned (OpenSpec.ofChange cursorKnownWrong)

/-- 'pressmarklaw25.SfntKnown': WHATEVER THE INPUT: true; the input reads as it did. -/
def sfntKnownSpec : ChangeSpec := { name := "sfntKnown", fn := fun _ => fun
  | [] => { results := [.lit (.bool true)], args := [] }
  | _ => none }
def sfntKnownRow : OpenClaim := { program := "ytboafokjgnikcaa", sum := "51dfb4973ef1fd4adf3c83042b7ce9dba6486a7d3bb79a7b9563e19c2fc1b758", func := "pressmark/pressmarklaw25.SfntKnown", spec := "sfntKnown", inPlace := ["internal/bytealg.MakeNoZero"], unfollowed := true, recurses := true, apart := false }
def SfntKnownSaid : Prop := sfntKnownRow.holds Try.pinned (OpenSpec.ofChange sfntKnownSpec)

/-- ITS FALSE NEIGHBOUR: 'it returns false'. Refute it at one input. -/
def sfntKnownWrong : ChangeSpec := { name := "sfntKnown", fn := fun _ => fun
  | [] => { results := [.lit (.bool false)], args := [] }
  | _ => none }
def SfntKnownWrongFalsely : Prop := sfntKnownRow.holds Try.pinned (OpenSpec.ofChange sfntKnownWrong)

/-- 'pressmarklaw10.CosKnown': WHATEVER THE INPUT: true; the input reads as it did. -/
def cosKnownSpec : ChangeSpec := { name := "cosKnown", fn := fun _ => fun
  | [] => { results := [.lit (.bool true)], args := [] }
  | _ => none }
def cosKnownRow : OpenClaim := { program := "ytboafokjgnikcaa", sum := "51dfb4973ef1fd4adf3c83042b7ce9dba6486a7d3bb79a7b9563e19c2fc1b758", func := "pressmark/pressmarklaw10.CosKnown", spec := "cosKnown", inPlace := ["internal/bytealg.abigen_runtime_cmpstring", "internal/bytealg.IndexByteString", "internal/bytealg.IndexString", "internal/reflectlite.ValueOf", "(internal/reflectlite.Value).Len"], unfollowed := true, recurses := true, named := ["internal/bytealg.MaxLen"], apart := false }
def CosKnownSaid : Prop := cosKnownRow.holds Try.pinned (OpenSpec.ofChange cosKnownSpec)

/-- ITS FALSE NEIGHBOUR: 'it returns false'. Refute it at one input. -/
def cosKnownWrong : ChangeSpec := { name := "cosKnown", fn := fun _ => fun
  | [] => { results := [.lit (.bool false)], args := [] }
  | _ => none }
def CosKnownWrongFalsely : Prop := cosKnownRow.holds Try.pinned (OpenSpec.ofChange cosKnownWrong)

/-- 'pressmarklaw4.InflateKnown': WHATEVER THE INPUT: true; the input reads as it did. -/
def inflateKnownSpec : ChangeSpec := { name := "inflateKnown", fn := fun _ => fun
  | [] => { results := [.lit (.bool true)], args := [] }
  | _ => none }
def inflateKnownRow : OpenClaim := { program := "ytboafokjgnikcaa", sum := "51dfb4973ef1fd4adf3c83042b7ce9dba6486a7d3bb79a7b9563e19c2fc1b758", func := "pressmark/pressmarklaw4.InflateKnown", spec := "inflateKnown", apart := false }
def InflateKnownSaid : Prop := inflateKnownRow.holds Try.pinned (OpenSpec.ofChange inflateKnownSpec)

/-- ITS FALSE NEIGHBOUR: 'it returns false'. Refute it at one input. -/
def inflateKnownWrong : ChangeSpec := { name := "inflateKnown", fn := fun _ => fun
  | [] => { results := [.lit (.bool false)], args := [] }
  | _ => none }
def InflateKnownWrongFalsely : Prop := inflateKnownRow.holds Try.pinned (OpenSpec.ofChange inflateKnownWrong)

/- THE SECOND FORM. 'bulk': how many values and letters a reading holds, each counted each time it is reached (what is shared counts as often as it is met; a slice's spare places count too). A statement '..UptoSaid' is the law's where the arguments, and the package variables that the reading takes, are together of bulk at most 1048576: NARROWER than '..Said'. Prove '..Said' where nothing that the law and all that it calls make is longer than what came in: it says more and counts as full. Else prove '..UptoSaid'. A law counts once. -/
mutual
def uptoBulk {H : Type} : DataW H → Nat
  | .lit (.string bytes) => bytes.length + 1
  | .lit _ => 1
  | .nil => 1
  | .ptr d => uptoBulk d + 1
  | .slice elems spare => uptoBulkAll elems + uptoBulkAll spare + 1
  | .agg parts => uptoBulkAll parts + 1
  | .iface _ d => uptoBulk d + 1
  | .map entries => uptoBulkEntries entries + 1
  | .held _ => 1
def uptoBulkAll {H : Type} : List (DataW H) → Nat
  | [] => 0
  | d :: r => uptoBulk d + uptoBulkAll r
def uptoBulkEntries {H : Type} : List (Lit × DataW H) → Nat
  | [] => 0
  | x :: r => uptoBulkEntry x + uptoBulkEntries r
def uptoBulkEntry {H : Type} : Lit × DataW H → Nat
  | (.string bytes, d) => bytes.length + uptoBulk d + 1
  | (_, d) => uptoBulk d + 1
 end
def uptoSmall : (H : Type) → List (DataW H) → Bool := fun _ ds => decide (uptoBulkAll ds ≤ 1048576)
def OpenSpec.upto (s : _root_.Go.ChangeSpec) : _root_.Go.OpenSpec := { _root_.Go.OpenSpec.ofChange s with cond := some uptoSmall }

/-- 'pressmarklaw5.DeflateKnown', WHERE WHAT IT READS IS OF BULK AT MOST 1048576: true; the input reads as it did. -/
def deflateKnownUptoRow : OpenClaim := { program := "ytboafokjgnikcaa", sum := "51dfb4973ef1fd4adf3c83042b7ce9dba6486a7d3bb79a7b9563e19c2fc1b758", func := "pressmark/pressmarklaw5.DeflateKnown", spec := "deflateKnown", inPlace := ["internal/bytealg.MakeNoZero"], apart := false, narrowed := true }
def DeflateKnownUptoSaid : Prop := deflateKnownUptoRow.holds Try.pinned (OpenSpec.upto deflateKnownSpec)

/-- 'pressmarklaw18.DocKnown', WHERE WHAT IT READS IS OF BULK AT MOST 1048576: true; the input reads as it did. -/
def docKnownUptoRow : OpenClaim := { program := "ytboafokjgnikcaa", sum := "51dfb4973ef1fd4adf3c83042b7ce9dba6486a7d3bb79a7b9563e19c2fc1b758", func := "pressmark/pressmarklaw18.DocKnown", spec := "docKnown", unfollowed := true, recurses := true, apart := false, narrowed := true }
def DocKnownUptoSaid : Prop := docKnownUptoRow.holds Try.pinned (OpenSpec.upto docKnownSpec)

/-- 'pressmarklaw24.IccKnown', WHERE WHAT IT READS IS OF BULK AT MOST 1048576: true; the input reads as it did. -/
def iccKnownUptoRow : OpenClaim := { program := "ytboafokjgnikcaa", sum := "51dfb4973ef1fd4adf3c83042b7ce9dba6486a7d3bb79a7b9563e19c2fc1b758", func := "pressmark/pressmarklaw24.IccKnown", spec := "iccKnown", inPlace := ["internal/bytealg.MakeNoZero"], unfollowed := true, recurses := true, apart := false, narrowed := true }
def IccKnownUptoSaid : Prop := iccKnownUptoRow.holds Try.pinned (OpenSpec.upto iccKnownSpec)

/-- 'pressmarklaw21.PagesKnown', WHERE WHAT IT READS IS OF BULK AT MOST 1048576: true; the input reads as it did. -/
def pagesKnownUptoRow : OpenClaim := { program := "ytboafokjgnikcaa", sum := "51dfb4973ef1fd4adf3c83042b7ce9dba6486a7d3bb79a7b9563e19c2fc1b758", func := "pressmark/pressmarklaw21.PagesKnown", spec := "pagesKnown", inPlace := ["internal/bytealg.abigen_runtime_cmpstring"], unfollowed := true, recurses := true, apart := false, narrowed := true }
def PagesKnownUptoSaid : Prop := pagesKnownUptoRow.holds Try.pinned (OpenSpec.upto pagesKnownSpec)

/-- 'pressmarklaw1.CursorKnown', WHERE WHAT IT READS IS OF BULK AT MOST 1048576: true; the input reads as it did. -/
def cursorKnownUptoRow : OpenClaim := { program := "ytboafokjgnikcaa", sum := "51dfb4973ef1fd4adf3c83042b7ce9dba6486a7d3bb79a7b9563e19c2fc1b758", func := "pressmark/pressmarklaw1.CursorKnown", spec := "cursorKnown", inPlace := ["internal/bytealg.IndexByte", "internal/bytealg.Index"], named := ["internal/bytealg.MaxLen"], apart := false, narrowed := true }
def CursorKnownUptoSaid : Prop := cursorKnownUptoRow.holds Try.pinned (OpenSpec.upto cursorKnownSpec)

/-- 'pressmarklaw25.SfntKnown', WHERE WHAT IT READS IS OF BULK AT MOST 1048576: true; the input reads as it did. -/
def sfntKnownUptoRow : OpenClaim := { program := "ytboafokjgnikcaa", sum := "51dfb4973ef1fd4adf3c83042b7ce9dba6486a7d3bb79a7b9563e19c2fc1b758", func := "pressmark/pressmarklaw25.SfntKnown", spec := "sfntKnown", inPlace := ["internal/bytealg.MakeNoZero"], unfollowed := true, recurses := true, apart := false, narrowed := true }
def SfntKnownUptoSaid : Prop := sfntKnownUptoRow.holds Try.pinned (OpenSpec.upto sfntKnownSpec)

/-- 'pressmarklaw10.CosKnown', WHERE WHAT IT READS IS OF BULK AT MOST 1048576: true; the input reads as it did. -/
def cosKnownUptoRow : OpenClaim := { program := "ytboafokjgnikcaa", sum := "51dfb4973ef1fd4adf3c83042b7ce9dba6486a7d3bb79a7b9563e19c2fc1b758", func := "pressmark/pressmarklaw10.CosKnown", spec := "cosKnown", inPlace := ["internal/bytealg.abigen_runtime_cmpstring", "internal/bytealg.IndexByteString", "internal/bytealg.IndexString", "internal/reflectlite.ValueOf", "(internal/reflectlite.Value).Len"], unfollowed := true, recurses := true, named := ["internal/bytealg.MaxLen"], apart := false, narrowed := true }
def CosKnownUptoSaid : Prop := cosKnownUptoRow.holds Try.pinned (OpenSpec.upto cosKnownSpec)

/-- 'pressmarklaw4.InflateKnown', WHERE WHAT IT READS IS OF BULK AT MOST 1048576: true; the input reads as it did. -/
def inflateKnownUptoRow : OpenClaim := { program := "ytboafokjgnikcaa", sum := "51dfb4973ef1fd4adf3c83042b7ce9dba6486a7d3bb79a7b9563e19c2fc1b758", func := "pressmark/pressmarklaw4.InflateKnown", spec := "inflateKnown", apart := false, narrowed := true }
def InflateKnownUptoSaid : Prop := inflateKnownUptoRow.holds Try.pinned (OpenSpec.upto inflateKnownSpec)

end Rows
end Go.Proofs.Ytboafokjgnikcaa
