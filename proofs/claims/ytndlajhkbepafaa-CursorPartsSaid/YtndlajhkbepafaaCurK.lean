/-
  bytes.Index, stood in for, at this program; what a law's lift asks then.
-/
import Derived.Test.YtndlajhkbepafaaProg
import Derived.Test.YtndlajhkbepafaaCurJ
import Derived.Test.YtndlajhkbepafaaLib
import Derived.Test.YtndlajhkbepafaaStart
import Derived.KernelRfl
import Derived.HandedShaped
import Derived.Shelf.Vars
import Derived.Shelf.LaysM
set_option linter.unusedSimpArgs false
set_option linter.unusedVariables false
set_option maxRecDepth 100000
namespace Go.Cl
open Go.RowKit Go.ChangeShapes Go.WideShapes
theorem Runs.callsP {P : Program} {lib : Prims} {Pre : Nat → World → Prop} (hst : Stays Pre) (hf : LibFr lib) (ho : LibOk P Pre lib) (hp : progOk P lib = true) {g : FuncId} (hg : lib.at g = none) {W : World} (hpre : Pre W.heap.size W) {args : List Value} {S : St} (hB : Begun W S) (hr : Runs P lib g args S.s fun v _ => v = .bool true) {args' : Array Value} (hv : VRL S args args'.toList) :
    Calls P g args' W fun e w' => e = .returned (.bool true) ∧ Below W.heap.size W w' := by
  obtain ⟨v, s', ⟨n, hn⟩, _, rfl⟩ := hr hB.sr.wf
  have hc := acall_enters (Pre := Pre) hst hf ho hp n (g := g) hg W.heap.size S S.s args _ s' (Same.refl _) hB.sr (by rw [hB.w]; exact hpre) (hn n (Nat.le_refl _)) args' hv
  rw [hB.w] at hc
  refine Calls.mono hc ?_
  rintro e w' ⟨T, v', _, rfl, rfl, hv, hg⟩
  cases hv
  refine ⟨rfl, ?_⟩
  have := hg.below
  rw [hB.w] at this
  exact this
theorem lt_of_cell {w : World} {g o : Nat} {v : Value} (h : w.cell? ⟨g, o, none⟩ = some v) : g < w.heap.size := by
  refine Nat.lt_of_not_le fun hge => ?_
  have e : w.heap[g]? = none := Array.getElem?_eq_none hge
  simp [World.cell?, e] at h
end Go.Cl
namespace Go.Proofs
open Go.Shelf
def Try.laysIdx_ren : Go.Shelf.Ren := ⟨fun | 185 => 30 | 187 => 33 | 115 => 34 | 253 => 35 | 224 => 36 | 254 => 37 | 255 => 41 | 291 => 42 | n => n, fun | 37 => 22 | 3 => 3 | 4 => 4 | 0 => 0 | 5 => 5 | 46 => 50 | 9 => 9 | 146 => 58 | 51 => 57 | n => n, fun | 1 => 0 | n => n⟩
theorem Try.laysIdx : Go.Proofs.LaysM.n185 Try.prog Try.laysIdx_ren := {
  mixed := by kernel_rfl
  f115 := Try.func34.trans (congrArg some (by kernel_rfl))
  f185 := Try.func30.trans (congrArg some (by kernel_rfl))
  f187 := Try.func33.trans (congrArg some (by kernel_rfl))
  f224 := Try.func36.trans (congrArg some (by kernel_rfl))
  f253 := Try.func35.trans (congrArg some (by kernel_rfl))
  f254 := Try.func37.trans (congrArg some (by kernel_rfl))
  f255 := Try.func41.trans (congrArg some (by kernel_rfl))
  f291 := Try.func42.trans (congrArg some (by kernel_rfl))
  t0 := Try.underlying0
  a0 := Try.isAgg0
  z0 := Try.sizeOf0
  v0 := Try.zeroValue0
  t3 := Try.underlying3
  a3 := Try.isAgg3
  z3 := Try.sizeOf3
  v3 := Try.zeroValue3
  t4 := Try.underlying4
  a4 := Try.isAgg4
  z4 := Try.sizeOf4
  v4 := Try.zeroValue4
  t5 := Try.underlying5
  a5 := Try.isAgg5
  z5 := Try.sizeOf5
  v5 := Try.zeroValue5
  t9 := Try.underlying9
  a9 := Try.isAgg9
  z9 := Try.sizeOf9
  v9 := Try.zeroValue9
  t37 := Try.underlying22
  a37 := Try.isAgg22
  z37 := Try.sizeOf22
  v37 := Try.zeroValue22
  t46 := Try.underlying50
  a46 := Try.isAgg50
  z46 := Try.sizeOf50
  v46 := Try.zeroValue50
  t51 := Try.underlying57
  a51 := Try.isAgg57
  z51 := Try.sizeOf57
  v51 := Try.zeroValue57
  t146 := Try.underlying58
  a146 := Try.isAgg58
  z146 := Try.sizeOf58
  v146 := Try.zeroValue58
  g1 := by kernel_rfl
  i0 := by kernel_rfl
  i3 := by kernel_rfl
  i4 := by kernel_rfl
  i5 := by kernel_rfl
  i9 := by kernel_rfl
  i37 := by kernel_rfl
  i46 := by kernel_rfl
  i51 := by kernel_rfl
  i146 := by kernel_rfl
  m1 := by kernel_rfl
  s1_3 := fun w h => Go.Proofs.cell_of_shapedOpen_int (zero := #[.int .i64 0]) (t := 3) h (of_decide_eq_true (by kernel_rfl)) (by kernel_rfl) rfl (by kernel_rfl) (by kernel_rfl) Try.underlying3 }
end Go.Proofs
namespace Go.Proofs.Ytndlajhkbepafaa
open Go.Cl Go.Shelf
def PreI (base : Nat) (w : World) : Prop := Try.laysIdx_ren.g 1 < base ∧ ∃ m, w.cell? ⟨Try.laysIdx_ren.g 1, 0, none⟩ = some (.int .i64 m)
theorem staysI : Stays PreI := by
  rintro base w w' hb ⟨h1, m, h2⟩
  exact ⟨h1, m, (World.cell?_of_block (hb.block _ h1)).trans h2⟩
theorem preI {W : World} (h : W.ShapedOpen Try.prog) : PreI W.heap.size W := by
  obtain ⟨m, hm⟩ := Try.laysIdx.s1_3 W h
  exact ⟨lt_of_cell hm, m, hm⟩
abbrev libI : Prims := (30, pIndex) :: libN
theorem libFrI : LibFr libI := LibFr.cons pIndex_fr libFr
theorem libOkI : LibOk Try.prog PreI libI := by
  have h := pIndex_ok (P := Try.prog) (ρ := Try.laysIdx_ren) { Try.laysIdx with } (enters_of Try.laysIdx.f185 (by kernel_rfl) rfl)
  rw [show Try.laysIdx_ren.f 185 = 30 from by kernel_rfl] at h
  exact LibOk.cons h (libOk _)
end Go.Proofs.Ytndlajhkbepafaa
