/-
  The clean machine, part 18: functions that the model stands in for: what the machine does there. Definitions alone.
-/
import Derived.Test.YtdhdhbkikhedlaaMcA
import Derived.Laws.Externs
import GoSem.Extern.BytealgCompare
namespace Go.Cl
def pIndexByteStr : Prim := fun args s =>
  match args with
  | [.string b, .int .u8 c] => some (.int .i64 (firstIdx b c.toNat.toUInt8), s)
  | _ => none
def pCmpStr : Prim := fun args s =>
  match args with
  | [.string a, .string b] => some (.int .i64 (Extern.BytealgCompare.cmp a b), s)
  | _ => none
def pValueOf (P : Program) : Prim := fun args s =>
  match args with
  | [.iface t v] =>
    match P.underlying t, v with
    | some (.slice _), .slice a n c =>
      match newPtr s [.slice a n c] 0 with
      | some (p, s') => some (.agg #[.pointer (some ⟨P.globals.size, t, none⟩), p, .int .u64 151], s')
      | none => none
    | _, _ => none
  | _ => none
def pLen (P : Program) : Prim := fun args s =>
  match args with
  | [.agg cs] =>
    match cs.toList with
    | [.pointer (some ⟨b, t, none⟩), .pointer (some ⟨i, off, some c⟩), .int .u64 f] =>
      match Nat.beq b P.globals.size && !P.packed t && decide (f = 151), P.underlying t with
      | true, some (.slice _) =>
        match loadA P s t (.pointer (some ⟨i, off, some c⟩)) with
        | some (.slice _ n _) => some (.int .i64 n, s)
        | _ => none
      | _, _ => none
    | _ => none
  | _ => none
end Go.Cl
