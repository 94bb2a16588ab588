/-
 The clean machine, part 27: texts.
-/
import Derived.Test.YthlbahnfimigcaaRul
namespace Go.Cl
section
variable {P : Program} {t : TypeId}
theorem str_neq (a b : List UInt8) : binA P .neq t (.string ⟨a.toArray⟩) (.string ⟨b.toArray⟩) = some (.bool (decide (a ≠ b))) := by
 simp only [binA, strOp]
 congr 2
 by_cases h : a = b
 ·subst h; simp
 ·simp [h]
theorem str_len (hu : P.underlying t = some .string) (s : ASt) (a : List UInt8) : lenA P s t (.string ⟨a.toArray⟩) = some (.int .i64 a.length) := by
 unfold lenA; rw [hu]
theorem str_bytes {s : ASt} {dst e : TypeId} (hu : P.underlying t = some .string) (hd : P.underlying dst = some (.slice e)) (he : P.underlying e = some (.int .u8)) {a : List UInt8} (h : a.length ≤ 9223372036854775807) : convA P s t dst (.string ⟨a.toArray⟩) = newSlice s (ofBytes a) a.length 1 := by
 unfold convA; rw [hu, hd]
 have h8 : isU8 P e = true := by unfold isU8; rw [he]
 have hb : Nat.ble a.length 9223372036854775807 = true := by simpa [Nat.ble_eq] using h
 simp [h8, hb]
end
end Go.Cl