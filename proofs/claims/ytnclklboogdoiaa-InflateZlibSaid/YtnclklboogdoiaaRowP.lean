/-
  Rows of bits: the plain law.
-/
import Derived.Test.YtnclklboogdoiaaNum
import Derived.Test.YtnclklboogdoiaaRul
namespace Go.Cl.Rw
def setb (y : UInt8) (x : Int) (k : Nat) : UInt8 := y ||| UInt8.ofNat ((x % 2).toNat * 2 ^ k)
def room (p : List UInt8 × Nat) : List UInt8 := if p.2 % 8 = 0 then p.1 ++ [0] else p.1
def rbit (p : List UInt8 × Nat) (x : Int) : List UInt8 × Nat := ((room p).set (p.2 / 8) (setb ((room p).getD (p.2 / 8) 0) x (p.2 % 8)), p.2 + 1)
def rput (p : List UInt8 × Nat) (x : Int) : Nat → List UInt8 × Nat
  | 0 => p
  | k + 1 => rbit (rput p x k) (x.fdiv (2 ^ k))
def Ok (p : List UInt8 × Nat) : Prop := p.2 ≤ 8 * p.1.length ∧ 8 * p.1.length < p.2 + 8
theorem shrN (P : Program) (t : TypeId) (k' : IntKind) (x : Int) {k : Nat} (h : k < 64) : binA P .shr t (.int .i64 x) (.int k' (k : Nat)) = some (.int .i64 (x.fdiv (2 ^ k))) := by
  rw [bin_shr P t .i64 _ _ k' (by omega)]
  have e : min ((k : Nat) : Int).toNat IntKind.i64.bits = k := by
    have : IntKind.i64.bits = 64 := rfl
    rw [this, Int.toNat_natCast]; omega
  rw [e]
theorem rem8 (n : Nat) : ((n : Int)).tmod 8 = ((n % 8 : Nat) : Int) := by rw [Int.tmod_eq_emod_of_nonneg (by omega)]; omega
theorem quo8 (n : Nat) : ((n : Int)).tdiv 8 = ((n / 8 : Nat) : Int) := by rw [Int.tdiv_eq_ediv_of_nonneg (by omega)]; omega
structure RowTo (j : Nat) (v : Value) (s : ASt) (v' : Value) (s' : ASt) : Prop where
  next : s.next ≤ s'.next
  get : ∀ i, i < s.next → i ≠ j → idOf v ≠ some i → s'.heap.get i = s.heap.get i
  id : idOf v' = idOf v ∨ ∃ i, idOf v' = some i ∧ s.next ≤ i
theorem RowTo.refl (j : Nat) (v : Value) (s : ASt) : RowTo j v s v s := ⟨Nat.le_refl _, fun _ _ _ _ => rfl, .inl rfl⟩
theorem RowTo.trans {j : Nat} {v v' v'' : Value} {s s' s'' : ASt} (h : RowTo j v s v' s') (k : RowTo j v' s' v'' s'') : RowTo j v s v'' s'' := by
  refine ⟨Nat.le_trans h.next k.next, fun i hi hj hv => ?_, ?_⟩
  · rw [k.get i (Nat.lt_of_lt_of_le hi h.next) hj ?_, h.get i hi hj hv]
    rcases h.id with e | ⟨q, e, hq⟩
    · rw [e]; exact hv
    · rw [e]; intro q2; injection q2 with q2; omega
  · rcases k.id with e | ⟨q, e, hq⟩
    · rcases h.id with e2 | ⟨q, e2, hq⟩
      · exact .inl (by rw [e, e2])
      · exact .inr ⟨q, by rw [e, e2], hq⟩
    · exact .inr ⟨q, e, Nat.le_trans h.next hq⟩
theorem RowTo.stay {j base : Nat} {v v' : Value} {s s' : ASt} (h : RowTo j v s v' s') (hj : base ≤ j) (hF : Fresh base v) (hb : base ≤ s.next) : Stay base s s' :=
  ⟨h.next, fun i hi => h.get i (by omega) (by omega) (fun e => by have := hF i e; omega)⟩
theorem RowTo.turns {j : Nat} {v v' : Value} {s s' : ASt} (h : Turns v s s') (hid : idOf v' = idOf v ∨ ∃ i, idOf v' = some i ∧ s.next ≤ i) : RowTo j v s v' s' := ⟨h.next, fun i hi _ hv => h.get i hi hv, hid⟩
theorem RowTo.put {j : Nat} {v : Value} {s s' : ASt} (hn : s'.next = s.next) (h : ∀ i, i ≠ j → s'.heap.get i = s.heap.get i) : RowTo j v s v s' := ⟨by omega, fun i _ hj _ => h i hj, .inl rfl⟩
structure RowAt (base : Nat) (s : ASt) (j : Nat) (v : Value) (p : List UInt8 × Nat) : Prop where
  thing : Thing s j [v, .int .i64 p.2]
  own : Own s 1 v p.1.length (ofBytes p.1)
  fresh : Fresh base v
  ne : idOf v ≠ some j
  lo : base ≤ j
  ok : Ok p
theorem RowAt.keeps {base j : Nat} {s s' : ASt} {v : Value} {p : List UInt8 × Nat} (h : RowAt base s j v p) (k : Stay s.next s s') : RowAt base s' j v p :=
  ⟨h.thing.keeps k, h.own.keeps k, h.fresh, h.ne, h.lo, h.ok⟩
end Go.Cl.Rw
