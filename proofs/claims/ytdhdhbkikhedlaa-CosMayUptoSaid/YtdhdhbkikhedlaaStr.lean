/-
  The clean machine, part 27: texts.
-/
import Derived.Test.YtdhdhbkikhedlaaRul
namespace Go.Cl
section
variable {P : Program} {t : TypeId}
theorem str_eql (a b : List UInt8) : binA P .eql t (.string ⟨a.toArray⟩) (.string ⟨b.toArray⟩) = some (.bool (decide (a = b))) := by
  simp only [binA, strOp]
  congr 2
  by_cases h : a = b
  · subst h; simp
  · simp [h]
theorem str_len (hu : P.underlying t = some .string) (s : ASt) (a : List UInt8) : lenA P s t (.string ⟨a.toArray⟩) = some (.int .i64 a.length) := by
  unfold lenA; rw [hu]
theorem str_bytes {s : ASt} {dst e : TypeId} (hu : P.underlying t = some .string) (hd : P.underlying dst = some (.slice e)) (he : P.underlying e = some (.int .u8)) {a : List UInt8} (h : a.length ≤ 9223372036854775807) : convA P s t dst (.string ⟨a.toArray⟩) = newSlice s (ofBytes a) a.length 1 := by
  unfold convA; rw [hu, hd]
  have h8 : isU8 P e = true := by unfold isU8; rw [he]
  have hb : Nat.ble a.length 9223372036854775807 = true := by simpa [Nat.ble_eq] using h
  simp [h8, hb]
theorem toBytes_of (a : List UInt8) : toBytes (ofBytes a) = some a := by
  induction a with
  | nil => rfl
  | cons c a ih =>
    rw [ofBytes_cons]
    simp only [toBytes, ih, toByte]
    have : UInt8.ofNat ((c.toNat : Int)).toNat = c := by simp
    rw [this]
theorem Sees.str {s : ASt} {dst e : TypeId} (hu : P.underlying t = some (.slice e)) (hd : P.underlying dst = some .string) (he : P.underlying e = some (.int .u8)) {v : Value} {a : List UInt8} (h : Sees s 1 v a.length (ofBytes a)) : convA P s t dst v = some (.string ⟨a.toArray⟩, s) := by
  have h8 : isU8 P e = true := by unfold isU8; rw [he]
  generalize hn : a.length = n at h
  generalize ha : ofBytes a = l at h
  have hlen : l.length = n := by rw [← ha, ofBytes_length, hn]
  cases h with
  | nil =>
    have : a = [] := List.eq_nil_of_length_eq_zero hn
    subst this
    unfold convA; rw [hu, hd]; simp [h8]
  | bare =>
    have : a = [] := List.eq_nil_of_length_eq_zero hn
    subst this
    unfold convA; rw [hu, hd]; simp [h8]
  | of i off n c b l hi hb hz hl hc hl2 hoff ht =>
    unfold convA; rw [hu, hd]
    simp only [h8, if_true]
    cases n with
    | zero =>
      have : a = [] := List.eq_nil_of_length_eq_zero hn
      subst this; rfl
    | succ n =>
      simp only
      rw [cellsAt_eq hb hl hc (by omega)]
      have : (b.cells.drop off).take (n + 1) = ofBytes a := by rw [Nat.mul_one] at ht; rw [ht, ha]
      rw [this]
      simp only [toBytes_of]
end
end Go.Cl
