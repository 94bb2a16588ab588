/-
  The clean machine, part 18: functions that the model stands in for: what the machine does there. Definitions alone.
-/
import Derived.Test.YtokfoagohblkoaaMcA
import Derived.Laws.Externs
import GoSem.Extern.BytealgCompare
namespace Go.Cl
def pCmpStr : Prim := fun args s =>
  match args with
  | [.string a, .string b] => some (.int .i64 (Extern.BytealgCompare.cmp a b), s)
  | _ => none
end Go.Cl
