/-
  Deflate by the fixed codes, read by the reference: bits, symbols.
-/
import Derived.Test.YtnclklboogdoiaaInfl2
import Derived.Test.YtnclklboogdoiaaFixZ
import Derived.Test.YtnclklboogdoiaaFixB
set_option linter.unusedSimpArgs false
set_option linter.unusedVariables false
set_option maxRecDepth 100000
namespace Go.Cl.Fx
open Go.Cl.Rw Go.Cl.Sto
structure FTo (jf jb : Nat) (o : Value) (s : ASt) (o' : Value) (s' : ASt) : Prop where
  next : s.next ≤ s'.next
  get : ∀ i, i < s.next → i ≠ jf → i ≠ jb → idOf o ≠ some i → s'.heap.get i = s.heap.get i
  id : idOf o' = idOf o ∨ ∃ i, idOf o' = some i ∧ s.next ≤ i
theorem FTo.refl (jf jb : Nat) (o : Value) (s : ASt) : FTo jf jb o s o s := ⟨Nat.le_refl _, fun _ _ _ _ _ => rfl, .inl rfl⟩
theorem FTo.trans {jf jb : Nat} {o o' o'' : Value} {s s' s'' : ASt} (h : FTo jf jb o s o' s') (k : FTo jf jb o' s' o'' s'') : FTo jf jb o s o'' s'' := by
  refine ⟨Nat.le_trans h.next k.next, fun i hi h1 h2 h3 => ?_, ?_⟩
  · rw [k.get i (Nat.lt_of_lt_of_le hi h.next) h1 h2 ?_, h.get i hi h1 h2 h3]
    rcases h.id with e | ⟨q, e, hq⟩
    · rw [e]; exact h3
    · rw [e]; intro q2; injection q2 with q2; omega
  · rcases k.id with e | ⟨q, e, hq⟩
    · rcases h.id with e2 | ⟨q, e2, hq⟩
      · exact .inl (by rw [e, e2])
      · exact .inr ⟨q, by rw [e, e2], hq⟩
    · exact .inr ⟨q, e, Nat.le_trans h.next hq⟩
theorem FTo.stay {jf jb base : Nat} {o o' : Value} {s s' : ASt} (h : FTo jf jb o s o' s') (h1 : base ≤ jf) (h2 : base ≤ jb) (h3 : Fresh base o) (hb : base ≤ s.next) : Stay base s s' :=
  ⟨h.next, fun i hi => h.get i (by omega) (by omega) (by omega) (fun e => by have := h3 i e; omega)⟩
def ApartF (jf jb : Nat) (o a : Value) : Prop := ∀ i, idOf a = some i → i ≠ jf ∧ i ≠ jb ∧ idOf o ≠ some i
theorem ApartF.own {jf jb : Nat} {o o' a : Value} {s s' : ASt} {n : Nat} {L : List Value} (h : ApartF jf jb o a) (ho : Own s 1 a n L) (k : FTo jf jb o s o' s') : Own s' 1 a n L ∧ ApartF jf jb o' a := by
  refine ⟨?_, fun i hi => ⟨(h i hi).1, (h i hi).2.1, ?_⟩⟩
  · cases ho with
    | nil => exact .nil
    | of i n low l hi hb hl hlen =>
      have := h i rfl
      refine .of i _ low _ (Nat.lt_of_lt_of_le hi k.next) ?_ hl hlen
      simp only [ASt.blk?, k.get i hi this.1 this.2.1 this.2.2]; exact hb
  · rcases k.id with e | ⟨q, e, hq⟩
    · rw [e]; exact (h i hi).2.2
    · rw [e]; intro e2; injection e2 with e2; have := ho.idlt i hi; omega
theorem hi_lt (D : List UInt8) (a : Nat) : ∀ k, hi D a k < 2 ^ k
  | 0 => by simp [hi]
  | k + 1 => by
    have h1 := hi_lt D a k
    have h2 := bit_lt D (a + k)
    simp only [hi]
    rw [Nat.pow_succ]; omega
theorem bitsN_one (D : List UInt8) (a : Nat) : bitsN D a 1 = bit D a := by simp [bitsN]
theorem orTwo {x b : Nat} (hx : x < 1000000) (hb : b < 2) : IntKind.i64.wrap (((BitVec.ofInt IntKind.i64.bits ((x * 2 ^ 1 : Nat) : Int) ||| BitVec.ofInt IntKind.i64.bits (b : Int)).toNat : Nat) : Int) = ((2 * x + b : Nat) : Int) := by
  have e1 : IntKind.i64.bits = 64 := rfl
  rw [e1]
  have : (BitVec.ofInt 64 ((x * 2 ^ 1 : Nat) : Int) ||| BitVec.ofInt 64 (b : Int)).toNat = 2 * x + b := by
    rw [BitVec.toNat_or, BitVec.ofInt_natCast, BitVec.ofInt_natCast, BitVec.toNat_ofNat, BitVec.toNat_ofNat, Nat.mod_eq_of_lt (by omega), Nat.mod_eq_of_lt (by omega)]
    have := Nat.shiftLeft_add_eq_or_of_lt (i := 1) (b := b) (by omega) x
    rw [Nat.shiftLeft_eq] at this
    rw [← this]; omega
  rw [this, wrapI (by omega)]
theorem shlT (P : Program) (t : TypeId) (k' : IntKind) {x : Nat} (hx : x < 1000000) : binA P .shl t (.int .i64 ((x : Nat) : Int)) (.int k' 1) = some (.int .i64 ((x * 2 ^ 1 : Nat) : Int)) := by
  rw [bin_shl P t .i64 _ _ k' (by omega)]
  have e : min (1 : Int).toNat IntKind.i64.bits = 1 := by decide
  rw [e]
  have e2 : ((x : Nat) : Int) * (2 : Int) ^ 1 = ((x * 2 ^ 1 : Nat) : Int) := by omega
  rw [e2, wrapI (by omega)]
end Go.Cl.Fx
namespace Go.Proofs.Ytnclklboogdoiaa
open Go.Cl Go.Cl.Rw Go.Cl.Sto Go.Cl.Fx
end Go.Proofs.Ytnclklboogdoiaa
