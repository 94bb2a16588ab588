/-
  Objects: the reference's with, Set, Drop, Dict, Stream, Get, Arr, Str, Name.
-/
import Derived.Test.YtdhdhbkikhedlaaCosK
import Derived.Test.YtdhdhbkikhedlaaObjT
import Derived.Test.YtdhdhbkikhedlaaCutW
set_option linter.unusedSimpArgs false
set_option linter.unusedVariables false
set_option maxRecDepth 100000
namespace Go.Cl
end Go.Cl
namespace Go.Proofs.Ytdhdhbkikhedlaa
open Go.Cl Go.Lib
end Go.Proofs.Ytdhdhbkikhedlaa
namespace Go.Proofs.Ytdhdhbkikhedlaa
open Go.Cl Go.Lib
structure LibRf (lib : Prims) : Prop where
  copy : lib.at 12 = none
  copyB : lib.at 45 = none
  has : lib.at 49 = none
  wit : lib.at 50 = none
  set : lib.at 14 = none
  drop : lib.at 16 = none
  dict : lib.at 21 = none
  stream : lib.at 23 = none
  get : lib.at 19 = none
  arr : lib.at 25 = none
  str : lib.at 27 = none
  name : lib.at 29 = none
end Go.Proofs.Ytdhdhbkikhedlaa
namespace Go.Proofs.Ytdhdhbkikhedlaa
open Go.Cl Go.Lib
end Go.Proofs.Ytdhdhbkikhedlaa
namespace Go.Proofs.Ytdhdhbkikhedlaa
open Go.Cl Go.Lib
theorem NewL.none {s t : ASt} (h : Stay s.next s t) : NewL s O.none (.agg noneC.toArray) t := ⟨0, 0, [], [], [], _, _, _, [], [], rfl, rfl, .nil, Fresh.nil _, .nil, .nil, trivial, trivial, ORows.nil, ORows.nil, h⟩
theorem NewL.put {s t t' u : ASt} {o : O} {v : Value} {i : Nat} (h : NewL t o v t') (hs : Stay s.next s t) (hi : i < t.next) (hsi : s.next ≤ i) (h1 : u.next = t'.next) (h2 : ∀ q, q ≠ i → u.heap.get q = t'.heap.get q) : NewL s o v u := by
  obtain ⟨k, n, b, l, d, bv, lv, dv, lc, dc, rfl, rfl, g1, g2, g3, g4, g5, g6, g7, g8, g9⟩ := h
  have hn := hs.next
  have hu : Turns (.pointer (some ⟨i, 0, Option.none⟩)) t' u := Turns.ofPut h1 h2
  have hne : ∀ j, t.next ≤ j ∧ idOf lv ≠ some j → idOf (.pointer (some ⟨i, 0, Option.none⟩)) ≠ some j := fun j hj e => by
    have e : some i = some j := e
    injection e with e; have := hj.1; omega
  have hm : ∀ j, t.next ≤ j ∧ idOf lv ≠ some j → s.next ≤ j ∧ idOf lv ≠ some j := fun j hj => ⟨by have := hj.1; omega, hj.2⟩
  exact ⟨k, n, b, l, d, bv, lv, dv, lc, dc, rfl, rfl, g1.turns hu (fun j hj e => by have e : some i = some j := e; injection e with e; have := g2 j hj; omega), fun j hj => by have := g2 j hj; omega, g3.turnsF g5 hu hne, g4.turnsF g6 hu hne, g5.mono hm, g6.mono hm, (g7.turns rowedO hu hne).mono rowedO hm, (g8.turns rowedE hu hne).mono rowedE hm, (hs.trans (g9.weaken hn)).trans ⟨by omega, fun j hj => h2 j (by omega)⟩⟩
end Go.Proofs.Ytdhdhbkikhedlaa
