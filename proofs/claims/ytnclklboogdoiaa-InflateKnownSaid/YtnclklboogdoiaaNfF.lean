/-
  Inflate, the reference: bits, symbols, tables, whatever they are.
-/
import Derived.Test.YtnclklboogdoiaaFixD
import Derived.Test.YtnclklboogdoiaaNfC
import Derived.Test.YtnclklboogdoiaaFixE
set_option linter.unusedSimpArgs false
set_option linter.unusedVariables false
set_option maxRecDepth 100000
namespace Go.Proofs.Ytnclklboogdoiaa
open Go.Cl Go.Cl.Rw Go.Cl.Sto Go.Cl.Fx Go.Cl.Nf
structure BdAt (base : Nat) (s : ASt) (jf jb e : Nat) (bv pv o m : Value) : Prop where
  b : Thing s jb [bv, pv, .int .i64 (e : Nat)]
  f : Thing s jf [bptr jb, o, m]
  pos : 0 < e
  ne : jb ≠ jf
  lb : base ≤ jb
  lf : base ≤ jf
def Bd (base : Nat) (s : ASt) (jf jb e : Nat) : Prop := ∃ bv pv o m, BdAt base s jf jb e bv pv o m
def Tab (jf jb : Nat) (o : Value) (s : ASt) (a : Value) (C : List Nat) : Prop := Sees s 1 a C.length (natsV C) ∧ ∀ i, idOf a = some i → i < s.next ∧ i ≠ jf ∧ i ≠ jb ∧ idOf o ≠ some i
theorem Tab.to {jf jb : Nat} {o o' a : Value} {s s' : ASt} {C : List Nat} (h : Tab jf jb o s a C) (k : FTo jf jb o s o' s') : Tab jf jb o' s' a C := by
  obtain ⟨h1, h2⟩ := h
  refine ⟨?_, fun i hi => ⟨Nat.lt_of_lt_of_le (h2 i hi).1 k.next, (h2 i hi).2.1, (h2 i hi).2.2.1, ?_⟩⟩
  · generalize natsV C = L at h1
    generalize C.length = n at h1
    cases h1 with
    | nil => exact .nil
    | bare i off => exact .bare i off
    | of i off n c b l hi hb hz hl hc hlen hoff ht =>
      have := h2 i rfl
      refine .of i off _ c b _ (Nat.lt_of_lt_of_le hi k.next) ?_ hz hl hc hlen hoff ht
      simp only [ASt.blk?, k.get i hi this.2.1 this.2.2.1 this.2.2.2]; exact hb
  · rcases k.id with e | ⟨q, e, hq⟩
    · rw [e]; exact (h2 i hi).2.2.2
    · rw [e]; intro e2; injection e2 with e2; have := (h2 i hi).1; omega
def RdO (base jf jb : Nat) (D P : List UInt8) (M : Int) (bv o : Value) (t : ASt) : Except Nat Nat → Prop
  | .ok p => Fl base t jf jb D p P M bv o ∧ p ≤ 8 * D.length
  | .error e => Bd base t jf jb e
theorem RdO.keeps {base jf jb : Nat} {D P : List UInt8} {M : Int} {bv o : Value} {t t' : ASt} {x : Except Nat Nat} (h : RdO base jf jb D P M bv o t x) (k : Stay t.next t t') (hb : base ≤ t.next) : RdO base jf jb D P M bv o t' x := by
  cases x with
  | ok p => exact ⟨⟨h.1.b.keeps k, h.1.f.keeps k, h.1.low.stay (k.weaken hb), h.1.own.keeps k, h.1.fresh, h.1.nb, h.1.nf, h.1.ne, h.1.lb, h.1.lf⟩, h.2⟩
  | error e =>
    obtain ⟨bv', pv, o', m', h⟩ := h
    exact ⟨bv', pv, o', m', ⟨h.b.keeps k, h.f.keeps k, h.pos, h.ne, h.lb, h.lf⟩⟩
def JTo (j : Nat) (t t' : ASt) : Prop := t'.next = t.next ∧ ∀ i, i ≠ j → t'.heap.get i = t.heap.get i
theorem JTo.refl (j : Nat) (t : ASt) : JTo j t t := ⟨rfl, fun _ _ => rfl⟩
theorem JTo.trans {j : Nat} {t t' t'' : ASt} (h : JTo j t t') (k : JTo j t' t'') : JTo j t t'' := ⟨k.1.trans h.1, fun i hi => (k.2 i hi).trans (h.2 i hi)⟩
theorem RdO.l2 {base jf jb : Nat} {D P : List UInt8} {M : Int} {bv o : Value} {t : ASt} {x : Except Nat Nat} (h : RdO base jf jb D P M bv o t x) : loadA Try.prog t 3 (.pointer (some ⟨jb, 2, some 4⟩)) = some (.int .i64 (badV x : Nat)) := by
  cases x with
  | ok p => exact h.1.b.load (P := Try.prog) agInt (off := 2) (c := 4) rfl (by simp)
  | error e =>
    obtain ⟨bv', pv, o', m', h⟩ := h
    exact h.b.load (P := Try.prog) agInt (off := 2) (c := 4) rfl (by simp)
theorem RdO.w0 {base jf jb : Nat} {D P : List UInt8} {M : Int} {bv o : Value} {t : ASt} {x : Except Nat Nat} (h : RdO base jf jb D P M bv o t x) : loadA Try.prog t 58 (.pointer (some ⟨jf, 0, some 4⟩)) = some (bptr jb) := by
  cases x with
  | ok p => exact h.1.f.load (P := Try.prog) agBitsP (off := 0) (c := 4) rfl (by simp)
  | error e =>
    obtain ⟨bv', pv, o', m', h⟩ := h
    exact h.f.load (P := Try.prog) agBitsP (off := 0) (c := 4) rfl (by simp)
end Go.Proofs.Ytnclklboogdoiaa
set_option linter.unusedSimpArgs false
set_option linter.unusedVariables false
set_option maxRecDepth 100000
namespace Go.Proofs.Ytnclklboogdoiaa
open Go.Cl Go.Cl.Rw Go.Cl.Sto Go.Cl.Fx Go.Cl.Nf
theorem FTo.puts {jf jb : Nat} {o : Value} {s s' : ASt} (hn : s'.next = s.next) (hs : ∀ i, i ≠ jb → s'.heap.get i = s.heap.get i) : FTo jf jb o s o s' := ⟨by omega, fun i _ _ h2 _ => hs i h2, .inl rfl⟩
end Go.Proofs.Ytnclklboogdoiaa
set_option linter.unusedSimpArgs false
set_option linter.unusedVariables false
set_option maxRecDepth 100000
namespace Go.Cl.Nf
open Go.Cl.Fx
theorem lenOf_le {x b : Nat} (hx : x ≤ 285) (hb : b < 2 ^ lenW x) : lenOf x b ≤ 1000 := by
  unfold lenOf
  split
  · omega
  · split
    · omega
    · have e : lenW x = (x - 261) / 4 := by unfold lenW; rw [if_neg (by omega)]
      rw [e] at hb
      have h1 : 2 ^ ((x - 261) / 4) ≤ 2 ^ 6 := Nat.pow_le_pow_right (by omega) (by omega)
      have h2 : (4 + (x - 265) % 4) * 2 ^ ((x - 261) / 4) ≤ 7 * 2 ^ 6 := Nat.mul_le_mul (by omega) h1
      have h3 : (2 : Nat) ^ 6 = 64 := by decide
      omega
end Go.Cl.Nf
namespace Go.Proofs.Ytnclklboogdoiaa
open Go.Cl Go.Cl.Rw Go.Cl.Sto Go.Cl.Fx Go.Cl.Nf
end Go.Proofs.Ytnclklboogdoiaa
set_option linter.unusedSimpArgs false
set_option linter.unusedVariables false
set_option maxRecDepth 100000
namespace Go.Cl.Fx
theorem FTo.turned {jf jb : Nat} {o y : Value} {s t t' : ASt} (h : FTo jf jb o s o t) (k : Turns y t t') (hy : ∀ i, idOf y = some i → s.next ≤ i) : FTo jf jb o s o t' :=
  ⟨Nat.le_trans h.next k.next, fun i hi h1 h2 h3 => (k.get i (Nat.lt_of_lt_of_le hi h.next) (fun e => by have := hy i e; omega)).trans (h.get i hi h1 h2 h3), .inl rfl⟩
theorem FTo.kept {jf jb : Nat} {o : Value} {s t t' : ASt} (h : FTo jf jb o s o t) (k : Stay t.next t t') : FTo jf jb o s o t' :=
  ⟨Nat.le_trans h.next k.next, fun i hi h1 h2 h3 => (k.get i (Nat.lt_of_lt_of_le hi h.next)).trans (h.get i hi h1 h2 h3), .inl rfl⟩
end Go.Cl.Fx
namespace Go.Cl
namespace LB
end LB
end Go.Cl
namespace Go.Cl.Nf
open Go.Cl.Fx Go.Cl.Sto
theorem wif_cutN {P : Program} {lib : Prims} {cA cB : Code} {f : AFr} {s : ASt} {Q : AX → AFr → ASt → Prop} {b : Bool} (J : AFr → ASt → Prop) (h1 : ∀ Q' : AX → AFr → ASt → Prop, (∀ f' s', J f' s' → Q' .normal f' s') → wif P lib cA cB f s Q' b) (h2 : ∀ f' s', J f' s' → Q .normal f' s') : wif P lib cA cB f s Q b := h1 Q h2
theorem takeS_err (D : List UInt8) (e n : Nat) : takeS D (.error e) n = .error e := rfl
theorem takeV_ok {D : List UInt8} {p n : Nat} (h : p + n ≤ 8 * D.length) : takeV D (.ok p) n = bitsN D p n := if_pos h
theorem takeS_ok {D : List UInt8} {p n : Nat} (h : p + n ≤ 8 * D.length) : takeS D (.ok p) n = .ok (p + n) := if_pos h
theorem takeS_no {D : List UInt8} {p n : Nat} (h : ¬ p + n ≤ 8 * D.length) : takeS D (.ok p) n = .error 2 := if_neg h
def bindX {α β : Type} (x : Except Nat α) (f : α → Except Nat β) : Except Nat β := match x with | .ok a => f a | .error e => .error e
theorem getD_app {l r : List Nat} {i : Nat} : (l ++ r).getD i 0 = if i < l.length then l.getD i 0 else r.getD (i - l.length) 0 := by
  simp only [List.getD_eq_getElem?_getD]
  by_cases c : i < l.length
  · rw [if_pos c, List.getElem?_append_left c]
  · rw [if_neg c, List.getElem?_append_right (by omega)]
theorem le15_rep {l : List Nat} {n v : Nat} (h : Le15 l) (hv : v ≤ 15) : Le15 (l ++ List.replicate n v) := by
  intro i
  rw [getD_app]
  split
  · exact h i
  · rw [List.getD_eq_getElem?_getD, List.getElem?_replicate]
    split
    · exact hv
    · exact Nat.zero_le _
theorem le15_take {l : List Nat} (h : Le15 l) (n : Nat) : Le15 (l.take n) := by
  intro i
  by_cases c : i < n
  · have : (l.take n).getD i 0 = l.getD i 0 := by rw [List.getD_eq_getElem?_getD, List.getElem?_take_of_lt c, List.getD_eq_getElem?_getD]
    rw [this]; exact h i
  · rw [List.getD_eq_getElem?_getD, List.getElem?_eq_none (by rw [List.length_take]; omega)]; exact Nat.zero_le _
theorem le15_drop {l : List Nat} (h : Le15 l) (n : Nat) : Le15 (l.drop n) := by
  intro i
  have : (l.drop n).getD i 0 = l.getD (n + i) 0 := by rw [List.getD_eq_getElem?_getD, List.getElem?_drop, List.getD_eq_getElem?_getD]
  rw [this]; exact h _
theorem bindX_ok {α β : Type} (a : α) (f : α → Except Nat β) : bindX (.ok a) f = f a := rfl
theorem bindX_err {α β : Type} (e : Nat) (f : α → Except Nat β) : bindX (.error e) f = .error e := rfl
end Go.Cl.Nf
namespace Go.Proofs.Ytnclklboogdoiaa
open Go.Cl Go.Cl.Rw Go.Cl.Sto Go.Cl.Fx Go.Cl.Nf
theorem bOrder (s : ASt) : buildSliceA Try.prog s 63 19 [(0, .int .i64 16), (1, .int .i64 17), (2, .int .i64 18), (3, .int .i64 0), (4, .int .i64 8), (5, .int .i64 7), (6, .int .i64 9), (7, .int .i64 6), (8, .int .i64 10), (9, .int .i64 5), (10, .int .i64 11), (11, .int .i64 4), (12, .int .i64 12), (13, .int .i64 3), (14, .int .i64 13), (15, .int .i64 2), (16, .int .i64 14), (17, .int .i64 1), (18, .int .i64 15)] = newSlice s (natsV order) 19 1 := by
  unfold buildSliceA; rw [uIntsF]; simp only [szInt, zIntF]; rfl
theorem RdO.turns {base jf jb : Nat} {D P : List UInt8} {M : Int} {bv o y : Value} {t t' : ASt} {x : Except Nat Nat} (h : RdO base jf jb D P M bv o t x) (k : Turns y t t') (hy : ∀ i, idOf y = some i → base ≤ i ∧ i ≠ jf ∧ i ≠ jb ∧ idOf o ≠ some i) (hb : base ≤ t.next) : RdO base jf jb D P M bv o t' x := by
  have n1 : idOf y ≠ some jb := fun e => (hy _ e).2.2.1 rfl
  have n2 : idOf y ≠ some jf := fun e => (hy _ e).2.1 rfl
  cases x with
  | ok p => exact ⟨⟨h.1.b.turns k n1, h.1.f.turns k n2, h.1.low.stay (k.keeps (fun i e => (hy i e).1) hb), h.1.own.turns k (fun i e e2 => (hy i e2).2.2.2 e), h.1.fresh, h.1.nb, h.1.nf, h.1.ne, h.1.lb, h.1.lf⟩, h.2⟩
  | error e =>
    obtain ⟨bv', pv, o', m', h⟩ := h
    exact ⟨bv', pv, o', m', ⟨h.b.turns k n1, h.f.turns k n2, h.pos, h.ne, h.lb, h.lf⟩⟩
theorem idOf_cutS {z lo hi i : Nat} {v : Value} (h : idOf (cutS z v lo hi) = some i) : idOf v = some i := by
  unfold cutS at h
  split at h
  · exact h
  · cases h
theorem natsV_take (L : List Nat) (n : Nat) : (natsV L).take n = natsV (L.take n) := by simp [natsV, List.map_take]
theorem natsV_drop (L : List Nat) (n : Nat) : (natsV L).drop n = natsV (L.drop n) := by simp [natsV, List.map_drop]
theorem natsV_app (L K : List Nat) : natsV L ++ natsV K = natsV (L ++ K) := by simp [natsV]
end Go.Proofs.Ytnclklboogdoiaa
