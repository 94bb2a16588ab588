/-
  Bits that were written, read again: the plain law.
-/
import Derived.Test.YtnclklboogdoiaaFixP
namespace Go.Cl.Fx
open Go.Cl.Rw Go.Cl.Sto
theorem tb (z j : Nat) : z / 2 ^ j % 2 = (z.testBit j).toNat := by
  rw [Nat.testBit_eq_decide_div_mod_eq]
  have : z / 2 ^ j % 2 < 2 := Nat.mod_lt _ (by omega)
  generalize z / 2 ^ j % 2 = q at this
  have : q = 0 ∨ q = 1 := by omega
  rcases this with rfl | rfl <;> rfl
def Zs (p : List UInt8 × Nat) : Prop := ∀ i, p.2 ≤ i → bit p.1 i = 0
structure Pre (p q : List UInt8 × Nat) : Prop where
  le : p.2 ≤ q.2
  bits : ∀ i, i < p.2 → bit q.1 i = bit p.1 i
theorem Pre.refl (p : List UInt8 × Nat) : Pre p p := ⟨Nat.le_refl _, fun _ _ => rfl⟩
theorem Pre.trans {p q r : List UInt8 × Nat} (h : Pre p q) (k : Pre q r) : Pre p r := ⟨Nat.le_trans h.le k.le, fun i hi => by rw [k.bits i (Nat.lt_of_lt_of_le hi h.le), h.bits i hi]⟩
structure Fine (p : List UInt8 × Nat) : Prop where
  ok : Ok p
  zs : Zs p
def hi (D : List UInt8) (a : Nat) : Nat → Nat
  | 0 => 0
  | k + 1 => 2 * hi D a k + bit D (a + k)
def lenOf (s x : Nat) : Nat := if s ≤ 264 then s - 254 else if s = 285 then 258 else (4 + (s - 265) % 4) * 2 ^ ((s - 261) / 4) + 3 + x
def lenW (s : Nat) : Nat := if s ≤ 264 ∨ s = 285 then 0 else (s - 261) / 4
def dstOf (c x : Nat) : Nat := if c ≤ 3 then c + 1 else (2 + c % 2) * 2 ^ (c / 2 - 1) + 1 + x
def dstW (c : Nat) : Nat := if c ≤ 3 then 0 else c / 2 - 1
end Go.Cl.Fx
namespace Go.Cl.Fx
open Go.Cl.Rw Go.Cl.Sto
end Go.Cl.Fx
