/-
  Rows of bits: the plain law.
-/
import Derived.Test.YtnclklboogdoiaaNum
import Derived.Test.YtnclklboogdoiaaRul
namespace Go.Cl.Rw
def setb (y : UInt8) (x : Int) (k : Nat) : UInt8 := y ||| UInt8.ofNat ((x % 2).toNat * 2 ^ k)
def room (p : List UInt8 × Nat) : List UInt8 := if p.2 % 8 = 0 then p.1 ++ [0] else p.1
def rbit (p : List UInt8 × Nat) (x : Int) : List UInt8 × Nat := ((room p).set (p.2 / 8) (setb ((room p).getD (p.2 / 8) 0) x (p.2 % 8)), p.2 + 1)
def rput (p : List UInt8 × Nat) (x : Int) : Nat → List UInt8 × Nat
  | 0 => p
  | k + 1 => rbit (rput p x k) (x.fdiv (2 ^ k))
def Ok (p : List UInt8 × Nat) : Prop := p.2 ≤ 8 * p.1.length ∧ 8 * p.1.length < p.2 + 8
theorem room_len {p : List UInt8 × Nat} (h : Ok p) : p.2 / 8 < (room p).length ∧ 8 * (room p).length < p.2 + 9 := by
  obtain ⟨h1, h2⟩ := h
  unfold room
  by_cases hz : p.2 % 8 = 0
  · rw [if_pos hz, List.length_append, List.length_singleton]; omega
  · rw [if_neg hz]; omega
theorem rbit_ok {p : List UInt8 × Nat} {x : Int} (h : Ok p) : Ok (rbit p x) := by
  obtain ⟨h1, h2⟩ := room_len h
  unfold Ok rbit
  simp only [List.length_set]
  omega
theorem rput_ok {p : List UInt8 × Nat} {x : Int} (h : Ok p) : ∀ k, Ok (rput p x k)
  | 0 => h
  | k + 1 => rbit_ok (rput_ok h k)
theorem rput_snd (p : List UInt8 × Nat) (x : Int) : ∀ k, (rput p x k).2 = p.2 + k
  | 0 => rfl
  | k + 1 => by
    show (rput p x k).2 + 1 = _
    rw [rput_snd p x k]; omega
theorem and1 (x : Int) : IntKind.i64.wrap (((BitVec.ofInt IntKind.i64.bits x &&& BitVec.ofInt IntKind.i64.bits 1).toNat : Nat) : Int) = x % 2 := by
  have e1 : IntKind.i64.bits = 64 := rfl
  rw [e1]
  have : (BitVec.ofInt 64 x &&& BitVec.ofInt 64 1).toNat = (x % 18446744073709551616).toNat % 2 := by
    rw [BitVec.toNat_and, BitVec.toNat_ofInt]
    show (x % 18446744073709551616).toNat &&& 1 = _
    exact Nat.and_one_is_mod _
  rw [this, wrapI (by omega)]
  omega
theorem conv1 (x : Int) : IntKind.u8.wrap (x % 2) = (((x % 2).toNat : Nat) : Int) := by rw [wrapu8]; omega
theorem pow8 {k : Nat} (h : k < 8) : 2 ^ k ≤ 128 := by
  have : 2 ^ k ≤ 2 ^ 7 := Nat.pow_le_pow_right (by omega) (by omega)
  exact this
theorem shlB (P : Program) (t : TypeId) (k' : IntKind) (x : Int) {k : Nat} (h : k < 8) : binA P .shl t (.int .u8 (((x % 2).toNat : Nat) : Int)) (.int k' (k : Nat)) = some (.int .u8 (((x % 2).toNat * 2 ^ k : Nat) : Int)) := by
  rw [bin_shl P t .u8 _ _ k' (by omega)]
  have e : min ((k : Nat) : Int).toNat IntKind.u8.bits = k := by
    have : IntKind.u8.bits = 8 := rfl
    rw [this, Int.toNat_natCast]; omega
  have hp := pow8 h
  have hx : (x % 2).toNat = 0 ∨ (x % 2).toNat = 1 := by omega
  rw [e, wrapu8]
  rcases hx with hx | hx
  · rw [hx]; simp
  · rw [hx]
    have e2 : ((1 : Nat) : Int) * (2 : Int) ^ k = ((1 * 2 ^ k : Nat) : Int) := by norm_cast
    rw [e2]
    congr 2
    generalize 2 ^ k = q at hp
    omega
theorem orB (y : UInt8) (x : Int) (k : Nat) : IntKind.u8.wrap (((BitVec.ofInt IntKind.u8.bits (y.toNat : Int) ||| BitVec.ofInt IntKind.u8.bits (((x % 2).toNat * 2 ^ k : Nat) : Int)).toNat : Nat) : Int) = ((setb y x k).toNat : Int) := by
  have e1 : IntKind.u8.bits = 8 := rfl
  have hy := y.toNat_lt
  rw [e1, wrapu8]
  unfold setb
  generalize (x % 2).toNat * 2 ^ k = w
  have : (BitVec.ofInt 8 (y.toNat : Int) ||| BitVec.ofInt 8 (w : Int)).toNat = (y ||| UInt8.ofNat w).toNat := by
    rw [BitVec.toNat_or, BitVec.ofInt_natCast, BitVec.ofInt_natCast, BitVec.toNat_ofNat, BitVec.toNat_ofNat, UInt8.toNat_or, UInt8.toNat_ofNat', Nat.mod_eq_of_lt (by omega)]
  rw [this]
  have := (y ||| UInt8.ofNat w).toNat_lt
  omega
theorem shrN (P : Program) (t : TypeId) (k' : IntKind) (x : Int) {k : Nat} (h : k < 64) : binA P .shr t (.int .i64 x) (.int k' (k : Nat)) = some (.int .i64 (x.fdiv (2 ^ k))) := by
  rw [bin_shr P t .i64 _ _ k' (by omega)]
  have e : min ((k : Nat) : Int).toNat IntKind.i64.bits = k := by
    have : IntKind.i64.bits = 64 := rfl
    rw [this, Int.toNat_natCast]; omega
  rw [e]
theorem rem8 (n : Nat) : ((n : Int)).tmod 8 = ((n % 8 : Nat) : Int) := by rw [Int.tmod_eq_emod_of_nonneg (by omega)]; omega
theorem quo8 (n : Nat) : ((n : Int)).tdiv 8 = ((n / 8 : Nat) : Int) := by rw [Int.tdiv_eq_ediv_of_nonneg (by omega)]; omega
theorem vstep_storeElem {P : Program} {lib : Prims} {all r : List Oper} {id : Nat} {f : AFr} {s : ASt} {d : Option Tmp} {Q : AFr → ASt → Prop} {e : TypeId} (hsz : sizeB P e = some 1) {v : Value} {n : Nat} {l : List Value} (h : Own s 1 v n l) {k : Nat} (hk : k < n) {w : Value} (hw : okCell w = true)
    (K : ∀ s', Own s' 1 v n (l.set k w) → Turns v s s' → vcall P lib all r id f d Q undef s') : vstep P lib all r id f d s Q (uOf (storeA P s e (elemPtr 1 v k) w)) := by
  obtain ⟨s', h1, h2, h3⟩ := h.put hsz hk hw
  rw [h1, uOf_some]
  exact K s' h2 h3
structure RowTo (j : Nat) (v : Value) (s : ASt) (v' : Value) (s' : ASt) : Prop where
  next : s.next ≤ s'.next
  get : ∀ i, i < s.next → i ≠ j → idOf v ≠ some i → s'.heap.get i = s.heap.get i
  id : idOf v' = idOf v ∨ ∃ i, idOf v' = some i ∧ s.next ≤ i
theorem RowTo.refl (j : Nat) (v : Value) (s : ASt) : RowTo j v s v s := ⟨Nat.le_refl _, fun _ _ _ _ => rfl, .inl rfl⟩
theorem RowTo.trans {j : Nat} {v v' v'' : Value} {s s' s'' : ASt} (h : RowTo j v s v' s') (k : RowTo j v' s' v'' s'') : RowTo j v s v'' s'' := by
  refine ⟨Nat.le_trans h.next k.next, fun i hi hj hv => ?_, ?_⟩
  · rw [k.get i (Nat.lt_of_lt_of_le hi h.next) hj ?_, h.get i hi hj hv]
    rcases h.id with e | ⟨q, e, hq⟩
    · rw [e]; exact hv
    · rw [e]; intro q2; injection q2 with q2; omega
  · rcases k.id with e | ⟨q, e, hq⟩
    · rcases h.id with e2 | ⟨q, e2, hq⟩
      · exact .inl (by rw [e, e2])
      · exact .inr ⟨q, by rw [e, e2], hq⟩
    · exact .inr ⟨q, e, Nat.le_trans h.next hq⟩
theorem RowTo.stay {j base : Nat} {v v' : Value} {s s' : ASt} (h : RowTo j v s v' s') (hj : base ≤ j) (hF : Fresh base v) (hb : base ≤ s.next) : Stay base s s' :=
  ⟨h.next, fun i hi => h.get i (by omega) (by omega) (fun e => by have := hF i e; omega)⟩
theorem RowTo.turns {j : Nat} {v v' : Value} {s s' : ASt} (h : Turns v s s') (hid : idOf v' = idOf v ∨ ∃ i, idOf v' = some i ∧ s.next ≤ i) : RowTo j v s v' s' := ⟨h.next, fun i hi _ hv => h.get i hi hv, hid⟩
theorem RowTo.put {j : Nat} {v : Value} {s s' : ASt} (hn : s'.next = s.next) (h : ∀ i, i ≠ j → s'.heap.get i = s.heap.get i) : RowTo j v s v s' := ⟨by omega, fun i _ hj _ => h i hj, .inl rfl⟩
structure RowAt (base : Nat) (s : ASt) (j : Nat) (v : Value) (p : List UInt8 × Nat) : Prop where
  thing : Thing s j [v, .int .i64 p.2]
  own : Own s 1 v p.1.length (ofBytes p.1)
  fresh : Fresh base v
  ne : idOf v ≠ some j
  lo : base ≤ j
  ok : Ok p
theorem RowAt.keeps {base j : Nat} {s s' : ASt} {v : Value} {p : List UInt8 × Nat} (h : RowAt base s j v p) (k : Stay s.next s s') : RowAt base s' j v p :=
  ⟨h.thing.keeps k, h.own.keeps k, h.fresh, h.ne, h.lo, h.ok⟩
end Go.Cl.Rw
