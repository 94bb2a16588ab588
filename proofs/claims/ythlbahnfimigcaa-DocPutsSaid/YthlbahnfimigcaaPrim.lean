/-
 The clean machine, part 19: functions that the model stands in for: what the machine does there is what the model does.
-/
import Derived.Test.YthlbahnfimigcaaPrimD
import Derived.Test.YthlbahnfimigcaaMcB
import Derived.Laws.AppendOwn
import Derived.KernelRfl
namespace Go.Cl
open Go.RowKit
def ExtAt (P : Program) (g : FuncId) (e : Array Value -> Sem Value) : Prop :=
 ∃ fn, P.funcs[g]? = some fn ∧ (fn.name == "runtime.NumGoroutine") = false ∧ fn.body.isNone = true ∧ Extern.findNext fn = none ∧ Extern.find fn = some e
def PrimAt (P : Program) (e : Array Value -> Sem Value) (p : Prim) : Prop :=
 ∀ (base : Nat) (S : St) (args : List Value) (v : Value) (s' : ASt), SR base S -> p args S.s = some (v, s') -> ∀ args' : Array Value, VRL S args args'.toList ->
  ∃ T v', (e args').run P S.w = .ok v' T.w ∧ T.s = s' ∧ VR T v v' ∧ Good base S T
theorem PrimAt.ok {P : Program} {g : FuncId} {e : Array Value -> Sem Value} {p : Prim} (Pre : Nat -> World -> Prop) (he : ExtAt P g e) (hf : PrimFr p) (h : PrimAt P e p) : PrimOk P Pre g p := by
 intro base S s args v s' hss hs _ hp args' hva
 obtain ⟨t', k1, k2, _⟩ := hf s S.s _ args v s' hss (hss.wf hs.wf) hp
 obtain ⟨T, v', h1, h2, h3, h4⟩ := h base S args v t' hs k1 args' hva
 obtain ⟨fn, e1, e2, e3, e4, e5⟩ := he
 refine .inr ⟨T, v', ?_, by rw [h2]; exact k2, h3, h4⟩
 rw [run_callFunc_extern e1 e2 e3 e4 e5, h1]
 rfl
theorem VRL.arr1 {S : St} {a : Value} {args : Array Value} (h : VRL S [a] args.toList) : ∃ a', args = #[a'] ∧ VR S a a' := by
 obtain ⟨a', r, e, h1, h2⟩ := h.cons_inv
 rw [h2.nil_inv] at e
 exact ⟨a', by rw [← Array.toList_inj, e], h1⟩
theorem VRL.arr2 {S : St} {a b : Value} {args : Array Value} (h : VRL S [a, b] args.toList) : ∃ a' b', args = #[a', b'] ∧ VR S a a' ∧ VR S b b' := by
 obtain ⟨a', r, e, h1, h2⟩ := h.cons_inv
 obtain ⟨b', r2, e2, h3, h4⟩ := h2.cons_inv
 rw [h4.nil_inv] at e2
 rw [e2] at e
 exact ⟨a', b', by rw [← Array.toList_inj, e], h1, h3⟩
theorem LibFr.cons {g : Nat} {p : Prim} {l : Prims} (h : PrimFr p) (k : LibFr l) : LibFr ((g, p) :: l) := by
 intro q r hq
 simp only [Prims.at] at hq
 split at hq
 ·obtain rfl := Option.some.inj hq; exact h
 ·exact k q r hq
theorem LibOk.cons {P : Program} {Pre : Nat -> World -> Prop} {g : Nat} {p : Prim} {l : Prims} (h : PrimOk P Pre g p) (k : LibOk P Pre l) : LibOk P Pre ((g, p) :: l) := by
 intro q r hq
 simp only [Prims.at] at hq
 split at hq
 ·rename_i hc
  obtain rfl := Option.some.inj hq
  obtain rfl : g = q := Nat.eq_of_beq_eq_true hc
  exact h
 ·exact k q r hq
end Go.Cl