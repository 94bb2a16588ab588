/-
  LZW, writing: the writer beside the table.
-/
import Derived.Test.YtoddiggebjbnnaaLzwU
import Derived.Test.YtoddiggebjbnnaaLzwF
import Derived.Test.YtoddiggebjbnnaaStr
set_option linter.unusedSimpArgs false
set_option linter.unusedVariables false
namespace Go.Proofs.Ytoddiggebjbnnaa
open Go.Cl Go.Cl.Lz Go.Cl.Rw
theorem wbits_half : ∀ (L : List Nat) (p : List UInt8 × List Nat), (∀ x ∈ L, x < 2) → Half p → Half (wbits p L)
  | [], p, _, h => h
  | b :: L, p, hL, h => by
    show Half (wbits (wone p b) L)
    exact wbits_half L _ (fun x hx => hL x (List.mem_cons_of_mem _ hx)) (wone_half h (hL b (List.mem_cons_self ..)))
theorem wbits_len : ∀ (L : List Nat) (p : List UInt8 × List Nat), (wbits p L).1.length ≤ p.1.length + L.length
  | [], p => by simp [wbits]
  | b :: L, p => by
    show (wbits (wone p b) L).1.length ≤ _
    have h1 := wbits_len L (wone p b)
    have h2 := wone_len p b
    simp only [List.length_cons]; omega
theorem wbits_append (p : List UInt8 × List Nat) (L M : List Nat) : wbits p (L ++ M) = wbits (wbits p L) M := List.foldl_append ..
theorem half0 : Half ([], []) := ⟨by simp, fun i => by simp⟩
theorem WrTo.stay {base : Nat} {s s' : ASt} {j : Nat} {v bv v' bv' : Value} {q : List UInt8 × List Nat} {next : Nat} {begun : Bool} (h : Wr base s j v bv q next begun) (k : WrTo j v bv s v' bv' s') (hb : base ≤ s.next) : Stay base s s' :=
  ⟨k.next, fun i hi => k.get i (by omega) (by have := h.row.lo; omega) (fun e => by have := h.row.fresh i e; omega) (fun e => by have := h.bf i e; omega)⟩
structure EncAt (base : Nat) (s : ASt) (j r : Nat) (v bv : Value) (q : List UInt8 × List Nat) (T : Tab) (next : Nat) (begun : Bool) : Prop where
  wr : Wr base s j v bv q next begun
  map : MapIs s r T
  rj : r ≠ j
  rv : idOf v ≠ some r
  rb : idOf bv ≠ some r
  lo : base ≤ r
section
variable {base : Nat} {s s' : ASt} {j r : Nat} {v bv v' bv' : Value} {q q' : List UInt8 × List Nat} {T : Tab} {next next' : Nat} {begun begun' : Bool}
theorem EncAt.wrote (h : EncAt base s j r v bv q T next begun) (hw : Wr base s' j v' bv' q' next' begun') (k : WrTo j v bv s v' bv' s') : EncAt base s' j r v' bv' q' T next' begun' := by
  have hlt := h.map.lt
  refine ⟨hw, ⟨Nat.lt_of_lt_of_le hlt k.next, ?_⟩, h.rj, ?_, ?_, h.lo⟩
  · have := h.map.map
    simp only [ASt.map?, k.get r hlt h.rj h.rv h.rb] at this ⊢
    exact this
  · rcases k.iv with e | ⟨i, e, hi⟩
    · rw [e]; exact h.rv
    · rw [e]; intro q; injection q with q; omega
  · rcases k.ib with e | e | ⟨i, e, hi⟩
    · rw [e]; intro q; cases q
    · rw [e]; exact h.rb
    · rw [e]; intro q; injection q with q; omega
theorem EncAt.put {T' : Tab} (h : EncAt base s j r v bv q T next begun) (hm : MapIs s' r T') (hn : s'.next = s.next) (hs : ∀ i, i ≠ r → s'.heap.get i = s.heap.get i) : EncAt base s' j r v bv q T' next begun := by
  have ht : Turns (.pointer (some ⟨r, 0, some 0⟩)) s s' := Turns.ofPut hn hs
  refine ⟨⟨⟨h.wr.row.thing.turns ht (fun e => h.rj (by injection e)), h.wr.row.own.ofPut hn hs h.rv, h.wr.row.fresh, h.wr.row.ne, h.wr.row.lo, h.wr.row.ok⟩, h.wr.bits.ofPut hn hs h.rb, h.wr.bf, h.wr.bj, h.wr.bx⟩, hm, h.rj, h.rv, h.rb, h.lo⟩
theorem EncAt.fresh {r' : Nat} (h : Wr base s j v bv q next begun) (hb : base ≤ s.next) (hm : MapIs s' s.next []) (k : Stay s.next s s') : EncAt base s' j s.next v bv q [] next begun := by
  refine ⟨⟨⟨h.row.thing.keeps k, h.row.own.keeps k, h.row.fresh, h.row.ne, h.row.lo, h.row.ok⟩, h.bits.keeps k, h.bf, h.bj, h.bx⟩, hm, ?_, ?_, ?_, hb⟩
  · have := h.row.thing.lt; omega
  · intro e; have := h.row.own.idlt _ e; omega
  · intro e; have := h.bits.idlt _ e; omega
end
theorem bWriter : buildA Try.prog 50 [(2, .int .i64 258)] = some (.agg #[.slice none 0 0, .int .i64 0, .slice none 0 0, .int .i64 258, .bool false]) := by kernel_rfl
theorem NewBytes.after {s s1 s' : ASt} {w : Value} {l : List UInt8} {base : Nat} (h : NewBytes s1 w s' l) (k : Stay base s s1) (hb : base = s.next) : NewBytes s w s' l := by
  subst hb
  exact ⟨h.own, fun i hi => Nat.le_trans k.next (h.fresh i hi), k.trans (h.stay.weaken k.next)⟩
end Go.Proofs.Ytoddiggebjbnnaa
