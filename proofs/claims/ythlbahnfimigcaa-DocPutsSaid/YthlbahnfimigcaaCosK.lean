import Derived.Test.YthlbahnfimigcaaCosJ
set_option linter.unusedSimpArgs false
set_option linter.unusedVariables false
set_option maxRecDepth 100000
namespace Go.Cl
theorem OIs.ofPut {F : Nat -> Prop} {s s' : ASt} {cs : List Value} {o : O} {i : Nat} (h : OIs F s cs o) (h1 : s'.next = s.next) (h2 : ∀ q, q ≠ i -> s'.heap.get q = s.heap.get q) (hF : ¬ F i) : OIs F s' cs o :=
 h.turns (u := .pointer (some ⟨i, 0, Option.none⟩)) (Turns.ofPut h1 h2) (fun j hj e => by
  have e : some i = some j := e
  injection e with e; subst e; exact hF hj)
theorem OIs.bare (F : Nat -> Prop) (s : ASt) (k n : Int) : OIs F s [.int .i64 k, .int .i64 n, .slice Option.none 0 0, .slice Option.none 0 0, .slice Option.none 0 0] (.mk k n [] [] []) :=
 OIs.whole .nil .nil .nil trivial trivial trivial ORows.nil ORows.nil
theorem Small.bare (k n : Int) : Small (.mk k n [] [] []) := .mk (by simp) (by simp) (by simp) (fun e h => by cases h) (fun e h => by cases h) (fun e h => by cases h)
theorem Small.none : Small O.none := Small.bare 0 0
end Go.Cl
namespace Go.Proofs.Ythlbahnfimigcaa
open Go.Cl Go.Lib
structure LibC (lib : Prims) : Prop where
 entries : lib.at 67 = none
 copy : lib.at 41 = none
 clone : lib.at 42 = none
 get : lib.at 50 = none
 nothing : lib.at 49 = none
theorem bO (k n : Int) : buildA Try.prog 26 [(0, .int .i64 k), (1, .int .i64 n)] = some (.agg #[.int .i64 k, .int .i64 n, .slice none 0 0, .slice none 0 0, .slice none 0 0]) := by
 unfold buildA; rw [Try.underlying26]
 have hz : zeroB Try.prog 26 = some (.agg #[.int .i64 0, .int .i64 0, .slice none 0 0, .slice none 0 0, .slice none 0 0]) := by kernel_rfl
 rw [hz]
 have ci : ∀ k n, (Value.int k n).cells = #[.int k n] := fun _ _ => rfl
 simp [szInt, szI64, szSl, szLs, szDs, plainV, plain1, fillA, placeOf, cells_agg, setAt, ci]
theorem bO1 (k : Int) : buildA Try.prog 26 [(0, .int .i64 k)] = some (.agg #[.int .i64 k, .int .i64 0, .slice none 0 0, .slice none 0 0, .slice none 0 0]) := by
 unfold buildA; rw [Try.underlying26]
 have hz : zeroB Try.prog 26 = some (.agg #[.int .i64 0, .int .i64 0, .slice none 0 0, .slice none 0 0, .slice none 0 0]) := by kernel_rfl
 rw [hz]
 have ci : ∀ k n, (Value.int k n).cells = #[.int k n] := fun _ _ => rfl
 simp [szInt, szI64, szSl, szLs, szDs, plainV, plain1, fillA, placeOf, cells_agg, setAt, ci]
theorem bO0 : buildA Try.prog 26 [] = some (.agg #[.int .i64 0, .int .i64 0, .slice none 0 0, .slice none 0 0, .slice none 0 0]) := by kernel_rfl
theorem NewO.put {s t t' : ASt} {i : Nat} {F : Nat -> Prop} {cs : List Value} {o : O} (h : OIs F t cs o) (hF : ∀ j, F j -> s.next ≤ j ∧ j ≠ i) (h1 : t'.next = t.next) (h2 : ∀ q, q ≠ i -> t'.heap.get q = t.heap.get q) (hs : Stay s.next s t) (hi : s.next ≤ i) : NewO s o (.agg cs.toArray) t' :=
 ⟨cs, rfl, (h.ofPut h1 h2 (fun q => (hF i q).2 rfl)).mono (fun j hj => (hF j hj).1), hs.trans ⟨by omega, fun j hj => h2 j (by omega)⟩⟩
theorem Thing.loadO {s : ASt} {i : Nat} {cs : List Value} (h : Thing s i cs) (hl : cs.length = 5) : loadA Try.prog s 26 (.pointer (some ⟨i, 0, some 6⟩)) = some (.agg cs.toArray) := Thing.loadAll agO (by rw [hl]; exact szO) h (by rw [hl])
end Go.Proofs.Ythlbahnfimigcaa
namespace Go.Cl
end Go.Cl
namespace Go.Proofs.Ythlbahnfimigcaa
open Go.Cl Go.Lib
end Go.Proofs.Ythlbahnfimigcaa
namespace Go.Cl
end Go.Cl
namespace Go.Proofs.Ythlbahnfimigcaa
open Go.Cl Go.Lib
end Go.Proofs.Ythlbahnfimigcaa