/-
  LZW, writing: facts about the codes that are written and the table.
-/
import Derived.Test.YtoddiggebjbnnaaLzwK
namespace Go.Cl.Lz
theorem enc_bit : ∀ (k : Nat) (b : List UInt8) (T : Tab) (rd : Nat) (fst : Bool), ∀ x ∈ enc k b T rd fst, x < 2
  | 0, b, T, rd, fst => cbits_bit _ _
  | k + 1, b, T, rd, fst => by
    intro x hx
    rw [enc] at hx
    split at hx
    · exact cbits_bit _ _ x hx
    · simp only at hx
      rcases List.mem_append.mp hx with hx | hx
      · exact cbits_bit _ _ x hx
      · split at hx
        · split at hx
          · rcases List.mem_append.mp hx with hx | hx
            · exact cbits_bit _ _ x hx
            · exact enc_bit k _ _ _ _ x hx
          · exact enc_bit k _ _ _ _ x hx
        · exact enc_bit k _ _ _ _ x hx
theorem cbits_len12 (c n : Nat) : (cbits c (width n)).length ≤ 12 := by rw [cbits_length]; exact (width_le n).2
theorem enc_len : ∀ (k : Nat) (b : List UInt8) (T : Tab) (rd : Nat) (fst : Bool), (enc k b T rd fst).length ≤ 24 * k + 12
  | 0, b, T, rd, fst => by rw [enc]; have := cbits_len12 257 rd; omega
  | k + 1, b, T, rd, fst => by
    rw [enc]
    split
    · have := cbits_len12 257 rd; omega
    · simp only
      rw [List.length_append]
      have h1 := cbits_len12 (best b T (1, ((b.getD 0 0).toNat : Int))).2.toNat rd
      split
      · split
        · rw [List.length_append]
          have h2 := cbits_len12 256 (if fst = true then rd else min (rd + 1) 4096)
          have h3 := enc_len k (b.drop (best b T (1, ((b.getD 0 0).toNat : Int))).1) [] 258 true
          omega
        · have h3 := enc_len k (b.drop (best b T (1, ((b.getD 0 0).toNat : Int))).1) (T ++ [(b.take ((best b T (1, ((b.getD 0 0).toNat : Int))).1 + 1), ((258 + T.length : Nat) : Int))]) (if fst = true then rd else min (rd + 1) 4096) false
          omega
      · have h3 := enc_len k (b.drop (best b T (1, ((b.getD 0 0).toNat : Int))).1) T (if fst = true then rd else min (rd + 1) 4096) false
        omega
/-- A table that may be. -/
structure Good (T : Tab) : Prop where
  closed : Closed T
  lo : ∀ e ∈ T, 258 ≤ e.2 ∧ e.2 < 4096
  len : T.length < 3838
theorem Good.nil : Good [] := ⟨Closed.nil, fun e h => by (cases h), by simp⟩
/-- What is found. -/
structure Found (T : Tab) (b : List UInt8) (p : Nat × Int) : Prop where
  eq : ext T b (b.length - 1) 1 ((b.getD 0 0).toNat : Int) = p
  one : 1 ≤ p.1
  le : p.1 ≤ b.length
  lo : 0 ≤ p.2
  hi : p.2 < 4096
  n6 : p.2 ≠ 256
  n7 : p.2 ≠ 257
  seek : p.1 < b.length → Go.Cl.seek (b.take (p.1 + 1)) T = none
  more : p.1 < b.length → 258 + T.length ≠ 4095 → Good (T ++ [(b.take (p.1 + 1), ((258 + T.length : Nat) : Int))])
theorem Good.found {T : Tab} (h : Good T) {b : List UInt8} (hb : b ≠ []) : Found T b (best b T (1, ((b.getD 0 0).toNat : Int))) := by
  have hl : 0 < b.length := List.length_pos_iff.mpr hb
  obtain ⟨g1, g2, g3⟩ := best_stand (A := T) (c0 := ((b.getD 0 0).toNat : Int)) T (1, ((b.getD 0 0).toNat : Int)) (fun _ h => h) h.closed.two (.inl rfl)
  obtain ⟨p, hp⟩ : ∃ p, p = best b T (1, ((b.getD 0 0).toNat : Int)) := ⟨_, rfl⟩
  have he := ext_best h.closed hb ((b.getD 0 0).toNat : Int)
  rw [← hp] at g1 g2 g3 he ⊢
  have hc0 : ((b.getD 0 0).toNat : Int) < 256 := by have := (b.getD 0 0).toNat_lt; omega
  have hm := fun q => h.closed.more (x := ((258 + T.length : Nat) : Int)) g1 g3 q
  have hpp : 1 ≤ p.1 ∧ p.1 ≤ b.length ∧ 0 ≤ p.2 ∧ p.2 < 4096 ∧ p.2 ≠ 256 ∧ p.2 ≠ 257 := by
    rcases g1 with e | ⟨a1, a2, a3⟩
    · rw [e]; simp only; omega
    · have := h.lo _ a2
      simp only at this
      omega
  refine ⟨he, hpp.1, hpp.2.1, hpp.2.2.1, hpp.2.2.2.1, hpp.2.2.2.2.1, hpp.2.2.2.2.2, fun q => (hm q).1, fun q r => ⟨(hm q).2, fun e hx => ?_, ?_⟩⟩
  · rcases List.mem_append.mp hx with hx | hx
    · exact h.lo e hx
    · rw [List.mem_singleton] at hx; subst hx
      have := h.len
      simp only; omega
  · have := h.len
    simp only [List.length_append, List.length_singleton]; omega
theorem enc_end (k : Nat) (T : Tab) (rd : Nat) (fst : Bool) : enc k [] T rd fst = cbits 257 (width rd) := by
  cases k with
  | zero => rw [enc]
  | succ k => rw [enc, if_pos rfl]
def rdOf (rd : Nat) (fst : Bool) : Nat := if fst then rd else min (rd + 1) 4096
theorem enc_all {k : Nat} {b : List UInt8} (hb : b ≠ []) {T : Tab} {rd : Nat} {fst : Bool} {p : Nat × Int} (hp : p = best b T (1, ((b.getD 0 0).toNat : Int))) (h : ¬ p.1 < b.length) : enc (k + 1) b T rd fst = cbits p.2.toNat (width rd) ++ enc k (b.drop p.1) T (rdOf rd fst) false := by
  rw [enc, if_neg hb]; simp only; rw [← hp, if_neg h]; rfl
theorem enc_more {k : Nat} {b : List UInt8} (hb : b ≠ []) {T : Tab} {rd : Nat} {fst : Bool} {p : Nat × Int} (hp : p = best b T (1, ((b.getD 0 0).toNat : Int))) (h : p.1 < b.length) (hx : 258 + T.length ≠ 4095) : enc (k + 1) b T rd fst = cbits p.2.toNat (width rd) ++ enc k (b.drop p.1) (T ++ [(b.take (p.1 + 1), ((258 + T.length : Nat) : Int))]) (rdOf rd fst) false := by
  rw [enc, if_neg hb]; simp only; rw [← hp, if_pos h, if_neg hx]; rfl
theorem enc_clear {k : Nat} {b : List UInt8} (hb : b ≠ []) {T : Tab} {rd : Nat} {fst : Bool} {p : Nat × Int} (hp : p = best b T (1, ((b.getD 0 0).toNat : Int))) (h : p.1 < b.length) (hx : 258 + T.length = 4095) : enc (k + 1) b T rd fst = cbits p.2.toNat (width rd) ++ (cbits 256 (width (rdOf rd fst)) ++ enc k (b.drop p.1) [] 258 true) := by
  rw [enc, if_neg hb]; simp only; rw [← hp, if_pos h, if_pos hx]; rfl
theorem rdOf_le {rd : Nat} (h : rd ≤ 4096) (fst : Bool) : rdOf rd fst ≤ 4096 := by unfold rdOf; split <;> omega
/-- All that is written. -/
def alls (b : List UInt8) : List Nat := cbits 256 9 ++ enc (b.length + 1) b [] 258 true
theorem alls_bit (b : List UInt8) : ∀ x ∈ alls b, x < 2 := fun x hx => by
  rcases List.mem_append.mp hx with hx | hx
  · exact cbits_bit _ _ x hx
  · exact enc_bit _ _ _ _ _ x hx
theorem alls_len (b : List UInt8) : (alls b).length ≤ 24 * b.length + 45 := by
  unfold alls
  rw [List.length_append, cbits_length]
  have := enc_len (b.length + 1) b [] 258 true
  omega
end Go.Cl.Lz
