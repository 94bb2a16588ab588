/-
  Inflate, the reference: blocks.
-/
import Derived.Test.YtnclklboogdoiaaNfF
import Derived.Test.YtnclklboogdoiaaFixU
set_option linter.unusedSimpArgs false
set_option linter.unusedVariables false
set_option maxRecDepth 100000
namespace Go.Cl.Nf
open Go.Cl.Fx Go.Cl.Sto
theorem blk_eq (N : Nat) (D : List UInt8) (M p : Nat) (P : List UInt8) : blockX N D M p P = bindX (takeS D (takeS D (.ok p) 1) 2) fun r => bindX (bodyX N D M (takeV D (takeS D (.ok p) 1) 2) r P) fun y => .ok (takeV D (.ok p) 1, y.1, y.2) := by
  unfold blockX
  by_cases c1 : p + 1 ≤ 8 * D.length
  rotate_left
  · rw [takeE_no c1, takeS_no c1]; rfl
  rw [takeE_ok c1, takeS_ok c1, takeV_ok c1]
  dsimp only
  by_cases c2 : p + 1 + 2 ≤ 8 * D.length
  rotate_left
  · rw [takeE_no c2, takeS_no c2]; rfl
  rw [takeE_ok c2, takeS_ok c2, takeV_ok c2, bindX_ok]
  dsimp only
  cases bodyX N D M (bitsN D (p + 1) 2) (p + 1 + 2) P with
  | error e => rfl
  | ok y => rfl
theorem ownX_le {D : List UInt8} : ∀ {r : List Nat} {p : Nat} {o o' : List Nat} {q : Nat}, ownX D r p o = .ok (o', q) → p ≤ q
  | [], p, o, o', q, h => by injection h with h; injection h with h1 h2; omega
  | i :: r, p, o, o', q, h => by
    unfold ownX at h
    cases h1 : takeE D p 3 with
    | error e => rw [h1] at h; cases h
    | ok x => rw [h1] at h; have := ownX_le h; omega
theorem againX_le {D : List UInt8} {s p : Nat} {l : List Nat} {x n q : Nat} (h : againX D s p l = .ok (x, n, q)) : p ≤ q := by
  unfold againX at h
  split at h
  · split at h
    · cases h
    · cases h1 : takeE D p 2 with
      | error e => rw [h1] at h; cases h
      | ok y => rw [h1] at h; injection h with h; injection h with _ h; injection h with _ h; omega
  split at h
  · cases h1 : takeE D p 3 with
    | error e => rw [h1] at h; cases h
    | ok y => rw [h1] at h; injection h with h; injection h with _ h; injection h with _ h; omega
  split at h
  · cases h1 : takeE D p 7 with
    | error e => rw [h1] at h; cases h
    | ok y => rw [h1] at h; injection h with h; injection h with _ h; injection h with _ h; omega
  · injection h with h; injection h with _ h; injection h with _ h; omega
theorem lensX_le {D : List UInt8} {C : List Nat} {M : Nat} : ∀ {k p : Nat} {l l' : List Nat} {q : Nat}, lensX D C M k p l = .ok (l', q) → p ≤ q
  | 0, p, l, l', q, h => by cases h
  | k + 1, p, l, l', q, h => by
    unfold lensX at h
    split at h
    · injection h with h; injection h with _ h; omega
    cases h1 : sym D C p with
    | error e => rw [h1] at h; cases h
    | ok c =>
      obtain ⟨c1, c2⟩ := c
      rw [h1] at h
      dsimp only at h
      cases h2 : againX D c1 c2 l with
      | error e => rw [h2] at h; cases h
      | ok a =>
        obtain ⟨a1, a2, a3⟩ := a
        rw [h2] at h
        dsimp only at h
        split at h
        · cases h
        · have := lensX_le h
          have := againX_le h2
          have := sym_le h1
          omega
theorem dynX_le {N : Nat} {D : List UInt8} {p q : Nat} {y : List Nat × List Nat} (h : dynX N D p = .ok (y, q)) : p ≤ q := by
  unfold dynX at h
  cases h1 : headX D p with
  | error e => rw [h1] at h; cases h
  | ok c =>
    rw [h1] at h
    dsimp only at h
    cases h2 : ownX D (order.take c.2.2) (p + 14) (List.replicate 19 0) with
    | error e => rw [h2] at h; cases h
    | ok o =>
      rw [h2] at h
      dsimp only at h
      have := ownX_le (o' := o.1) (q := o.2) h2
      split at h
      · cases h3 : lensX D o.1 (c.1 + c.2.1) N o.2 [] with
        | error e => rw [h3] at h; cases h
        | ok l =>
          rw [h3] at h
          dsimp only at h
          have := lensX_le (l' := l.1) (q := l.2) h3
          split at h
          · injection h with h; injection h with _ h; omega
          · cases h
      · cases h
theorem bodyX_ge {N : Nat} {D : List UInt8} {M kind p : Nat} {P : List UInt8} {q : Nat} {P' : List UInt8} (h : bodyX N D M kind p P = .ok (q, P')) (hp : P.length ≤ M) : p ≤ q := by
  unfold bodyX at h
  split at h
  · exact (storedX_le h hp).1
  split at h
  · exact (codedX_le h hp).1
  split at h
  · cases h1 : dynX N D p with
    | error e => rw [h1] at h; cases h
    | ok c =>
      rw [h1] at h
      have := dynX_le (y := c.1) (q := c.2) h1
      have := (codedX_le h hp).1
      omega
  · cases h
theorem blockX_ge {N : Nat} {D : List UInt8} {M p : Nat} {P : List UInt8} {last q : Nat} {P' : List UInt8} (h : blockX N D M p P = .ok (last, q, P')) (hp : P.length ≤ M) : p + 3 ≤ q := by
  unfold blockX at h
  cases h1 : takeE D p 1 with
  | error e => rw [h1] at h; cases h
  | ok c =>
    rw [h1] at h
    dsimp only at h
    cases h2 : takeE D (p + 1) 2 with
    | error e => rw [h2] at h; cases h
    | ok d =>
      rw [h2] at h
      dsimp only at h
      cases h3 : bodyX N D M d (p + 3) P with
      | error e => rw [h3] at h; cases h
      | ok r =>
        rw [h3] at h
        injection h with h; injection h with e0 h; injection h with e1 e2
        have := bodyX_ge (q := r.1) (P' := r.2) h3 hp
        omega
end Go.Cl.Nf
namespace Go.Proofs.Ytnclklboogdoiaa
open Go.Cl Go.Cl.Rw Go.Cl.Sto Go.Cl.Fx Go.Cl.Nf
def BlkX (s : ASt) (v : Value) (s' : ASt) : Except Nat (Nat × List UInt8) → Prop
  | .ok (q, P) => ∃ o, v = .tuple #[o, .int .i64 ((q + 7) / 8 : Nat), .int .i64 0] ∧ Own s' 1 o P.length (ofBytes P) ∧ Fresh s.next o ∧ Stay s.next s s'
  | .error e => v = .tuple #[.slice none 0 0, .int .i64 0, .int .i64 (e : Nat)] ∧ Stay s.next s s'
end Go.Proofs.Ytnclklboogdoiaa
