/-
  Bits that are read, and blocks of bytes as they are: the reference's reading where all is well.
-/
import Derived.Test.YtnclklboogdoiaaRow
import Derived.Test.YtnclklboogdoiaaStoP
set_option linter.unusedSimpArgs false
set_option linter.unusedVariables false
set_option maxRecDepth 100000
namespace Go.Proofs.Ytnclklboogdoiaa
open Go.Cl Go.Cl.Sto Go.Cl.Rw
abbrev bptr (j : Nat) : Value := .pointer (some ⟨j, 0, some 4⟩)
theorem agBitsP : isAggB Try.prog 58 = some false := by kernel_rfl
structure Fl (base : Nat) (s : ASt) (jf jb : Nat) (D : List UInt8) (p : Nat) (P : List UInt8) (M : Int) (bv o : Value) : Prop where
  b : Thing s jb [bv, .int .i64 (p : Nat), .int .i64 0]
  f : Thing s jf [bptr jb, o, .int .i64 M]
  low : Low base s 1 bv D.length (ofBytes D)
  own : Own s 1 o P.length (ofBytes P)
  fresh : Fresh base o
  nb : idOf o ≠ some jb
  nf : idOf o ≠ some jf
  ne : jb ≠ jf
  lb : base ≤ jb
  lf : base ≤ jf
theorem Fl.at {base : Nat} {s s' : ASt} {jf jb : Nat} {D P : List UInt8} {p p' : Nat} {M : Int} {bv o : Value} (h : Fl base s jf jb D p P M bv o) (hb : Thing s' jb [bv, .int .i64 (p' : Nat), .int .i64 0]) (hn : s'.next = s.next) (hs : ∀ i, i ≠ jb → s'.heap.get i = s.heap.get i) : Fl base s' jf jb D p' P M bv o :=
  ⟨hb, h.f.turns (Turns.ofPut (i := jb) (o := 0) (c := none) hn hs) (fun e => h.ne (by injection e)), h.low.stay (Stay.ofPut hn hs h.lb), h.own.ofPut hn hs h.nb, h.fresh, h.nb, h.nf, h.ne, h.lb, h.lf⟩
end Go.Proofs.Ytnclklboogdoiaa
