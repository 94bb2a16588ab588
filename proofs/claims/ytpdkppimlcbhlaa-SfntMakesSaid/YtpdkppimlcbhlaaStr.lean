/-
  The clean machine, part 27: texts.
-/
import Derived.Test.YtpdkppimlcbhlaaRul
namespace Go.Cl
section
variable {P : Program} {t : TypeId}
theorem str_add {a b : List UInt8} (h : a.length + b.length ≤ 4294967296) : binA P .add t (.string ⟨a.toArray⟩) (.string ⟨b.toArray⟩) = some (.string ⟨(a ++ b).toArray⟩) := by
  have hb : Nat.ble (a.length + b.length) 4294967296 = true := by simpa [Nat.ble_eq] using h
  simp [binA, strOp, hb]
theorem str_eql (a b : List UInt8) : binA P .eql t (.string ⟨a.toArray⟩) (.string ⟨b.toArray⟩) = some (.bool (decide (a = b))) := by
  simp only [binA, strOp]
  congr 2
  by_cases h : a = b
  · subst h; simp
  · simp [h]
theorem str_neq (a b : List UInt8) : binA P .neq t (.string ⟨a.toArray⟩) (.string ⟨b.toArray⟩) = some (.bool (decide (a ≠ b))) := by
  simp only [binA, strOp]
  congr 2
  by_cases h : a = b
  · subst h; simp
  · simp [h]
theorem str_len (hu : P.underlying t = some .string) (s : ASt) (a : List UInt8) : lenA P s t (.string ⟨a.toArray⟩) = some (.int .i64 a.length) := by
  unfold lenA; rw [hu]
theorem str_slice (hu : P.underlying t = some .string) {s : ASt} {a : List UInt8} {k k2 : IntKind} {x y : Int} (h0 : 0 ≤ x) (h1 : x ≤ y) (h2 : y ≤ a.length) : sliceA P s t (.string ⟨a.toArray⟩) (some (.int k x)) (some (.int k2 y)) none = some (.string ⟨((a.take y.toNat).drop x.toNat).toArray⟩) := by
  have hb : (Nat.ble x.toNat y.toNat && Nat.ble y.toNat a.length) = true := by
    simp only [Bool.and_eq_true, Nat.ble_eq]; omega
  have e1 : natOf (some (.int k x)) 0 = some x.toNat := natOf_int h0
  have e2 : natOf (some (.int k2 y)) a.length = some y.toNat := natOf_int (by omega)
  unfold sliceA; rw [hu]
  simp only [e1, e2, hb, if_true]
theorem str_sliceLow (hu : P.underlying t = some .string) {s : ASt} {a : List UInt8} {k : IntKind} {x : Int} (h0 : 0 ≤ x) (h1 : x ≤ a.length) : sliceA P s t (.string ⟨a.toArray⟩) (some (.int k x)) none none = some (.string ⟨(a.drop x.toNat).toArray⟩) := by
  have hb : (Nat.ble x.toNat a.length && Nat.ble a.length a.length) = true := by
    simp only [Bool.and_eq_true, Nat.ble_eq]; omega
  have e1 : natOf (some (.int k x)) 0 = some x.toNat := natOf_int h0
  unfold sliceA; rw [hu]
  simp only [e1, natOf_none, hb, if_true, List.take_length]
theorem str_index (hu : P.underlying t = some .string) {a : List UInt8} {k : IntKind} {x : Int} (h0 : 0 ≤ x) (h : x < a.length) : indexA P t (.string ⟨a.toArray⟩) (.int k x) = some (.int .u8 ((a.getD x.toNat 0).toNat : Int)) := by
  obtain ⟨n, rfl⟩ : ∃ n : Nat, x = n := ⟨x.toNat, by omega⟩
  show indexA P t (.string ⟨a.toArray⟩) (.int k (Int.ofNat n)) = _
  have hn : n < a.length := by omega
  unfold indexA
  rw [hu]
  simp only
  rw [List.drop_eq_getElem_cons (by simpa using hn)]
  simp [List.getD, List.getElem?_eq_getElem hn]
theorem str_bytes {s : ASt} {dst e : TypeId} (hu : P.underlying t = some .string) (hd : P.underlying dst = some (.slice e)) (he : P.underlying e = some (.int .u8)) {a : List UInt8} (h : a.length ≤ 9223372036854775807) : convA P s t dst (.string ⟨a.toArray⟩) = newSlice s (ofBytes a) a.length 1 := by
  unfold convA; rw [hu, hd]
  have h8 : isU8 P e = true := by unfold isU8; rw [he]
  have hb : Nat.ble a.length 9223372036854775807 = true := by simpa [Nat.ble_eq] using h
  simp [h8, hb]
theorem toBytes_of (a : List UInt8) : toBytes (ofBytes a) = some a := by
  induction a with
  | nil => rfl
  | cons c a ih =>
    rw [ofBytes_cons]
    simp only [toBytes, ih, toByte]
    have : UInt8.ofNat ((c.toNat : Int)).toNat = c := by simp
    rw [this]
theorem Sees.str {s : ASt} {dst e : TypeId} (hu : P.underlying t = some (.slice e)) (hd : P.underlying dst = some .string) (he : P.underlying e = some (.int .u8)) {v : Value} {a : List UInt8} (h : Sees s 1 v a.length (ofBytes a)) : convA P s t dst v = some (.string ⟨a.toArray⟩, s) := by
  have h8 : isU8 P e = true := by unfold isU8; rw [he]
  generalize hn : a.length = n at h
  generalize ha : ofBytes a = l at h
  have hlen : l.length = n := by rw [← ha, ofBytes_length, hn]
  cases h with
  | nil =>
    have : a = [] := List.eq_nil_of_length_eq_zero hn
    subst this
    unfold convA; rw [hu, hd]; simp [h8]
  | bare =>
    have : a = [] := List.eq_nil_of_length_eq_zero hn
    subst this
    unfold convA; rw [hu, hd]; simp [h8]
  | of i off n c b l hi hb hz hl hc hl2 hoff ht =>
    unfold convA; rw [hu, hd]
    simp only [h8, if_true]
    cases n with
    | zero =>
      have : a = [] := List.eq_nil_of_length_eq_zero hn
      subst this; rfl
    | succ n =>
      simp only
      rw [cellsAt_eq hb hl hc (by omega)]
      have : (b.cells.drop off).take (n + 1) = ofBytes a := by rw [Nat.mul_one] at ht; rw [ht, ha]
      rw [this]
      simp only [toBytes_of]
theorem okCell_str (b : ByteArray) : okCell (.string b) = true := rfl
end
end Go.Cl
