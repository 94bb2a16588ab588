/-
  LZW, reading: a byte's bits by shifts; things of several cells; pairs in a slice.
-/
import Derived.Test.YtoddiggebjbnnaaLzwD
import Derived.Test.YtoddiggebjbnnaaRecs
import Derived.Test.YtoddiggebjbnnaaNum
import Derived.Test.YtoddiggebjbnnaaApp
namespace Go.Cl.Lz
theorem shr8 (P : Program) (t : TypeId) (k' : IntKind) (x : Nat) {k : Nat} (h : k < 8) : binA P .shr t (.int .u8 (x : Nat)) (.int k' (k : Nat)) = some (.int .u8 ((x / 2 ^ k : Nat) : Int)) := by
  rw [bin_shr P t .u8 _ _ k' (by omega)]
  have e : min ((k : Nat) : Int).toNat IntKind.u8.bits = k := by
    have : IntKind.u8.bits = 8 := rfl
    rw [this, Int.toNat_natCast]; omega
  rw [e, Int.fdiv_eq_ediv_of_nonneg _ (by exact Int.pow_nonneg (by omega))]
  norm_cast
theorem and1u8 (x : Nat) (h : x < 256) : IntKind.u8.wrap (((BitVec.ofInt IntKind.u8.bits (x : Int) &&& BitVec.ofInt IntKind.u8.bits 1).toNat : Nat) : Int) = ((x % 2 : Nat) : Int) := by
  have e1 : IntKind.u8.bits = 8 := rfl
  rw [e1]
  have : (BitVec.ofInt 8 (x : Int) &&& BitVec.ofInt 8 1).toNat = x % 2 := by
    rw [BitVec.toNat_and, BitVec.ofInt_natCast, BitVec.toNat_ofNat, Nat.mod_eq_of_lt (by omega)]
    show x &&& 1 = _
    exact Nat.and_one_is_mod _
  rw [this, wrapu8]
  omega
theorem shl1 (P : Program) (t : TypeId) (k' : IntKind) (a : Int) : binA P .shl t (.int .i64 a) (.int k' 1) = some (.int .i64 (IntKind.i64.wrap (a * 2))) := by
  rw [bin_shl P t .i64 a 1 k' (by decide)]; rfl
theorem or_bit {n d : Nat} (hn : n < 1099511627776) (hd : d < 2) : IntKind.i64.wrap (((BitVec.ofInt IntKind.i64.bits ((n : Int) * 2) ||| BitVec.ofInt IntKind.i64.bits (d : Int)).toNat : Nat) : Int) = ((n * 2 + d : Nat) : Int) := by
  have e1 : IntKind.i64.bits = 64 := rfl
  rw [e1]
  have : (BitVec.ofInt 64 ((n : Int) * 2) ||| BitVec.ofInt 64 (d : Int)).toNat = n * 2 + d := by
    have e2 : ((n : Int) * 2) = ((n * 2 : Nat) : Int) := by omega
    rw [e2, BitVec.toNat_or, BitVec.ofInt_natCast, BitVec.ofInt_natCast, BitVec.toNat_ofNat, BitVec.toNat_ofNat, Nat.mod_eq_of_lt (by omega), Nat.mod_eq_of_lt (by omega)]
    have := Nat.shiftLeft_add_eq_or_of_lt (i := 1) (b := d) hd n
    rw [Nat.shiftLeft_eq] at this
    exact this.symm
  rw [this, wrapI (by omega)]
end Go.Cl.Lz
namespace Go.Cl
theorem cells_of_ok {v : Value} (h : okCell v = true) : v.cells.toList = [v] := by cases v <;> first | rfl | cases h
theorem Thing.loadPart {P : Program} {e : TypeId} {n : Nat} (hag : isAggB P e = some true) (hsz : sizeB P e = some n) {s : ASt} {i : Nat} {cs : List Value} (h : Thing s i cs) {off c : Nat} (hc : c = cs.length + 1) (ho : off + n ≤ cs.length) :
    loadA P s e (.pointer (some ⟨i, off, some c⟩)) = some (.agg ((cs.drop off).take n).toArray) := by
  obtain ⟨low, z, h1, h2⟩ := h.blk
  subst hc
  unfold loadA
  simp only [hag, hsz]
  rw [cellsAt_eq h1 h2 (Nat.le_refl _) (by omega)]
/-- Several cells. -/
theorem Thing.storeN {P : Program} {e : TypeId} {n : Nat} (hsz : sizeB P e = some (n + 1)) {s : ASt} {i : Nat} {cs : List Value} (h : Thing s i cs) {off c : Nat} (hc : c = cs.length + 1) {v : Value} {vs : List Value} (hv : v.cells.toList = vs) (hl : vs.length = n + 1) (hok : vs.all okCell = true) (ho : off + (n + 1) ≤ cs.length) :
    ∃ s', storeA P s e (.pointer (some ⟨i, off, some c⟩)) v = some s' ∧ Thing s' i (cs.take off ++ vs ++ cs.drop (off + (n + 1))) ∧ (s'.next = s.next ∧ ∀ j, j ≠ i → s'.heap.get j = s.heap.get j) := by
  obtain ⟨low, z, h1, h2⟩ := h.blk
  subst hc
  have hlen : (cs.take off ++ vs ++ cs.drop (off + (n + 1))).length = cs.length := by simp; omega
  refine ⟨s.put i (.blk ⟨cs.take off ++ vs ++ cs.drop (off + (n + 1)), cs.length + 1, true, z⟩), ?_, ⟨h.lt, cs.length + 1, z, ?_, by rw [hlen]; exact Nat.le_refl _⟩, rfl, fun j hj => ASt.get_put_ne _ _ _ _ (Ne.symm hj)⟩
  · unfold storeA
    simp only [hsz, hv, hl]
    unfold ASt.storeAt
    have hset : setAt cs off vs = some (cs.take off ++ vs ++ cs.drop (off + (n + 1))) := by
      rw [setAt_eq _ _ _ (by rw [hl]; omega), hl]
    have hcond : (true && Nat.ble low (cs.length + 1) && Nat.beq (cs.length + 1) (cs.length + 1) && vs.all okCell) = true := by
      simp only [Bool.true_and, Bool.and_eq_true, Nat.ble_eq]; exact ⟨⟨h2, Nat.beq_refl _⟩, hok⟩
    simp only [h1, hcond, if_true, hset]
    cases vs with
    | nil => simp at hl
    | cons a r => simp
  · rw [ASt.blk?_put_self _ _ _ (by omega)]
section
variable {P : Program} {lib : Prims} {all r : List Oper} {f : AFr} {s : ASt} {d : Option Tmp} {Q : AFr → ASt → Prop}
theorem wstep_storeN {e : TypeId} {n : Nat} (hsz : sizeB P e = some (n + 1)) {i : Nat} {cs : List Value} (h : Thing s i cs) {off c : Nat} (hc : c = cs.length + 1) {v : Value} {vs : List Value} (hv : v.cells.toList = vs) (hl : vs.length = n + 1) (hok : vs.all okCell = true) (ho : off + (n + 1) ≤ cs.length)
    (K : ∀ s', Thing s' i (cs.take off ++ vs ++ cs.drop (off + (n + 1))) → s'.next = s.next → (∀ j, j ≠ i → s'.heap.get j = s.heap.get j) → wstep P lib all r f s d Q (some (.val undef s'))) : wstep P lib all r f s d Q (uOf (storeA P s e (.pointer (some ⟨i, off, some c⟩)) v)) := by
  obtain ⟨s', h1, h2, h3, h4⟩ := h.storeN hsz hc hv hl hok ho
  rw [h1, uOf_some]
  exact K s' h2 h3 h4
theorem vstep_storeT {id : Nat} {e : TypeId} (hsz : sizeB P e = some 1) {i : Nat} {cs : List Value} (h : Thing s i cs) {off c : Nat} (hc : c = cs.length + 1) (ho : off < cs.length) {v : Value} (hv : okCell v = true)
    (K : ∀ s', Thing s' i (cs.set off v) → s'.next = s.next → (∀ j, j ≠ i → s'.heap.get j = s.heap.get j) → vcall P lib all r id f d Q undef s') : vstep P lib all r id f d s Q (uOf (storeA P s e (.pointer (some ⟨i, off, some c⟩)) v)) := by
  obtain ⟨s', h1, h2, h3, h4⟩ := h.store hsz hc ho hv
  rw [h1, uOf_some]
  exact K s' h2 h3 h4
end
/-- Pairs of numbers, in a slice. -/
def pairV (p : Nat × Nat) : List Value := [.int .i64 (p.1 : Nat), .int .i64 (p.2 : Nat)]
def pairsV (l : List (Nat × Nat)) : List Value := l.flatMap pairV
theorem pairsV_length (l : List (Nat × Nat)) : (pairsV l).length = l.length * 2 := flat_length (f := pairV) (z := 2) (fun _ => rfl) l
theorem pairsV_snoc (l : List (Nat × Nat)) (p : Nat × Nat) : pairsV (l ++ [p]) = pairsV l ++ [.int .i64 (p.1 : Nat), .int .i64 (p.2 : Nat)] := by simp [pairsV, pairV]
theorem pairsV_get0 {l : List (Nat × Nat)} {i : Nat} {p : Nat × Nat} (h : l[i]? = some p) : (pairsV l).getD (i * 2 + 0) undef = .int .i64 (p.1 : Nat) := flat_get (f := pairV) (z := 2) (fun _ => rfl) (by omega) l i p h
theorem pairsV_get1 {l : List (Nat × Nat)} {i : Nat} {p : Nat × Nat} (h : l[i]? = some p) : (pairsV l).getD (i * 2 + 1) undef = .int .i64 (p.2 : Nat) := flat_get (f := pairV) (z := 2) (fun _ => rfl) (by omega) l i p h
/-- A place in an array that is an element. -/
theorem Sees.arrIdx {P : Program} {t e : TypeId} {m z : Nat} (hu : P.underlying t = some (.array m e)) (hsz : sizeB P e = some 1) {s : ASt} {v : Value} {n : Nat} {l : List Value} (h : Sees s z v n l) {i k : Nat} (hi : i < n) (hk : k < m) (kk : IntKind) :
    indexAddrA P t (elemPtr z v i) (.int kk (k : Nat)) = some (plusPtr (elemPtr z v i) k) := by
  have hb : Nat.blt k m = true := by simpa [Nat.blt_eq] using hk
  show indexAddrA P t (elemPtr z v i) (.int kk (Int.ofNat k)) = _
  cases h with
  | nil => omega
  | bare => omega
  | of j off n c b l hj hbk hz hl hc hlen hoff ht =>
    unfold indexAddrA
    rw [hu]
    simp only [elemPtr, hsz, hb, if_true, Nat.mul_one, plusPtr]
theorem arrIdxT {P : Program} {t e : TypeId} {m : Nat} (hu : P.underlying t = some (.array m e)) (hsz : sizeB P e = some 1) (i o c : Nat) {k : Nat} (hk : k < m) (kk : IntKind) :
    indexAddrA P t (.pointer (some ⟨i, o, some c⟩)) (.int kk (k : Nat)) = some (.pointer (some ⟨i, o + k, some c⟩)) := by
  have hb : Nat.blt k m = true := by simpa [Nat.blt_eq] using hk
  show indexAddrA P t _ (.int kk (Int.ofNat k)) = _
  unfold indexAddrA
  rw [hu]
  simp only [hsz, hb, if_true, Nat.mul_one]
end Go.Cl
