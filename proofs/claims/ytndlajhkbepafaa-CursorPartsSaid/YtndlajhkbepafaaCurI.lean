/-
  bytes.Index, stood in for: the clean machine's word for it, by the library's own contract.
-/
import Derived.Test.YtndlajhkbepafaaPrim
import Derived.Test.YtndlajhkbepafaaMem
import Derived.Test.YtndlajhkbepafaaStr
import Derived.Lib.IndexMore
import Derived.Lib.Bytes
import Derived.Deep.Draws
set_option linter.unusedSimpArgs false
set_option linter.unusedVariables false
set_option maxRecDepth 100000
namespace Go.Cl
open Go.Lib
theorem Good.drawnN {base : Nat} {S : St} (h : SR base S) (n : Nat) : Good base S ⟨S.s, S.e, S.w.drewN n⟩ := by
  have hext : Ext S ⟨S.s, S.e, S.w.drewN n⟩ := ⟨fun _ b hb => ⟨b, hb, Nat.le_refl _, Nat.le_refl _, rfl, fun _ _ _ => rfl⟩, fun _ es he => ⟨⟨es, he⟩, rfl⟩, fun _ arr _ fr hk => ⟨arr, fr, hk, rfl⟩⟩
  refine ⟨⟨h.room, h.bound, h.low, fun i b hb c hc p hp => ?_, h.own, fun r es he => ?_, h.mapInj, h.size, h.inb⟩, hext, ⟨rfl, rfl, rfl, Nat.le_refl _, fun _ _ => rfl⟩⟩
  · obtain ⟨v, h1, h2⟩ := h.cell i b hb c hc p hp
    exact ⟨v, h1, h2.mono hext⟩
  · obtain ⟨h1, es', clk, h2, h3⟩ := h.map r es he
    exact ⟨h1, es', clk, h2, h3.mono hext⟩
/-- Bytes, and nothing else. -/
def canB : List Value → Option (List UInt8)
  | [] => some []
  | .int .u8 (.ofNat n) :: r => if Nat.blt n 256 then (match canB r with | some l => some (UInt8.ofNat n :: l) | none => none) else none
  | _ => none
theorem canB_of : ∀ a : List UInt8, canB (ofBytes a) = some a
  | [] => rfl
  | c :: a => by
    have h := c.toNat_lt
    show canB (.int .u8 (.ofNat c.toNat) :: ofBytes a) = _
    unfold canB
    rw [if_pos (by simpa [Nat.blt_eq] using h), canB_of a]
    simp
theorem canB_spec : ∀ {cs : List Value} {l : List UInt8}, canB cs = some l → cs = ofBytes l
  | [], l, h => by
    injection h with h; subst h; rfl
  | v :: r, l, h => by
    unfold canB at h
    split at h
    · rename_i e; cases e
    · rename_i n r' e
      injection e with e1 e2
      subst e1 e2
      split at h
      · rename_i hn
        simp only [Nat.blt_eq] at hn
        split at h
        · rename_i l' hl'
          injection h with h; subst h
          rw [canB_spec hl']
          show _ = .int .u8 ((UInt8.ofNat n).toNat : Int) :: ofBytes l'
          rw [UInt8.toNat_ofNat_of_lt' (by simpa using hn)]
          rfl
        · cases h
      · cases h
    · cases h
/-- bytes.Index. -/
def pIndex : Prim := fun args s =>
  match args with
  | [.slice a n c, .slice a2 n2 c2] =>
    match srcCells s 1 (.slice a n c), srcCells s 1 (.slice a2 n2 c2) with
    | some (k, cs), some (m, ds) =>
      match canB cs, canB ds with
      | some l, some b => if Nat.blt k 4294967281 && Nat.blt m 4294967281 then some (.int .i64 (Lib.index l b), s) else none
      | _, _ => none
    | _, _ => none
  | _ => none
theorem pIndex_spec {args : List Value} {s s' : ASt} {v : Value} (h : pIndex args s = some (v, s')) : ∃ a n c a2 n2 c2 k m l b, args = [.slice a n c, .slice a2 n2 c2] ∧ srcCells s 1 (.slice a n c) = some (k, ofBytes l) ∧ srcCells s 1 (.slice a2 n2 c2) = some (m, ofBytes b) ∧ k < 4294967281 ∧ m < 4294967281 ∧ v = .int .i64 (Lib.index l b) ∧ s' = s := by
  unfold pIndex at h
  split at h
  · rename_i a n c a2 n2 c2
    split at h
    · rename_i k cs m ds h1 h2
      split at h
      · rename_i l b h3 h4
        split at h
        · rename_i hn
          simp only [Bool.and_eq_true, Nat.blt_eq] at hn
          injection h with h; injection h with e1 e2
          rw [canB_spec h3] at h1
          rw [canB_spec h4] at h2
          exact ⟨a, n, c, a2, n2, c2, k, m, l, b, rfl, h1, h2, hn.1, hn.2, e1.symm, e2.symm⟩
        · cases h
      · cases h
    · cases h
  · cases h
theorem pIndex_of {a a2 : Option Addr} {n n2 c c2 : Nat} {s : ASt} {k m : Nat} {l b : List UInt8} (h1 : srcCells s 1 (.slice a n c) = some (k, ofBytes l)) (h2 : srcCells s 1 (.slice a2 n2 c2) = some (m, ofBytes b)) (hn : k < 4294967281) (hm : m < 4294967281) : pIndex [.slice a n c, .slice a2 n2 c2] s = some (.int .i64 (Lib.index l b), s) := by
  unfold pIndex
  simp only [h1, h2, canB_of]
  rw [if_pos (by simp only [Bool.and_eq_true, Nat.blt_eq]; exact ⟨hn, hm⟩)]
theorem pIndex_fr : PrimFr pIndex := by
  intro s s' X args v t h hw hp
  obtain ⟨a, n, c, a2, n2, c2, k, m, l, b, rfl, h1, h2, hn, hm, rfl, rfl⟩ := pIndex_spec hp
  exact ⟨_, pIndex_of (srcCells_fr h h1) (srcCells_fr h h2) hn hm, h, Keeps.refl hw⟩
/-- A byte's number. -/
def numsOf' (l : List UInt8) : List Int := l.map fun c => (c.toNat : Int)
theorem numsOf'_range (l : List UInt8) : ∀ x ∈ numsOf' l, 0 ≤ x ∧ x < 256 := by
  intro x hx
  obtain ⟨c, _, rfl⟩ := List.mem_map.1 hx
  have := c.toNat_lt
  omega
theorem numsOf'_bytes (l : List UInt8) : Lib.bytesOf (numsOf' l) = l := by
  unfold Lib.bytesOf numsOf'
  rw [List.map_map]
  conv => rhs; rw [← List.map_id l]
  refine List.map_congr_left fun c _ => ?_
  simp
theorem numsOf'_length (l : List UInt8) : (numsOf' l).length = l.length := List.length_map ..
theorem numsOf'_at {l : List UInt8} {i : Nat} (h : i < l.length) : (numsOf' l).getD i 0 = ((l.getD i 0).toNat : Int) := by
  simp [numsOf', List.getD_eq_getElem?_getD, List.getElem?_map, List.getElem?_eq_getElem h]
/-- A slice's bytes, as they stand in the world. -/
theorem slice_world {base : Nat} {S : St} (h : SR base S) {a : Option Addr} {n c k : Nat} {x' : Value} {l : List UInt8} (hx : VR S (.slice a n c) x') (hs : srcCells S.s 1 (.slice a n c) = some (k, ofBytes l)) :
    ∃ (a' : Option Addr) (cap : Nat), x' = .slice a' l.length cap ∧ l.length ≤ cap ∧ k = l.length ∧ ((l.length = 0 ∧ (a' = none → cap = 0)) ∨ ∃ ad, a' = some ad ∧ ∀ i, i < l.length → S.w.cell? (ad.add i) = some (.int .u8 ((numsOf' l).getD i 0))) := by
  unfold srcCells at hs
  split at hs
  · injection hs with hs; injection hs with e1 e2
    have hl : l = [] := by cases l with
      | nil => rfl
      | cons u l => cases e2
    subst hl
    rename_i e
    injection e with e1' e2' e3'
    subst e1'
    cases hx
    exact ⟨none, 0, rfl, Nat.le_refl _, e1.symm, .inl ⟨rfl, fun _ => rfl⟩⟩
  · rename_i i off m c' e
    injection e with e1' e2' e3'
    subst e1' e2' e3'
    cases hx with
    | slice _ _ _ _ ad cap h0 hz hr =>
    split at hs
    · injection hs with hs; injection hs with e1 e2
      have hl : l = [] := by cases l with
        | nil => rfl
        | cons u l => cases e2
      subst hl
      exact ⟨some ad, cap, rfl, Nat.zero_le _, e1.symm, .inl ⟨rfl, fun e => by cases e⟩⟩
    · rename_i m
      split at hs
      · rename_i l0 hl
        injection hs with hs; injection hs with e1 e2
        subst e1 e2
        obtain ⟨b, hb, hlive, _, _, hln, hvl, hcell⟩ := h.cells hl
        rw [ofBytes_length, Nat.mul_one] at hln
        obtain ⟨⟨b', hb', _, hadr⟩, _⟩ := hr (by omega)
        rw [hb] at hb'; obtain rfl := Option.some.inj hb'
        obtain rfl := hadr hlive.1
        refine ⟨_, cap, by rw [hln], by omega, hln.symm, .inr ⟨_, rfl, fun p hp => ?_⟩⟩
        obtain ⟨v, hv⟩ := hcell p (by omega)
        have h2 := hvl.2 p (by rw [ofBytes_length]; exact hp)
        rw [numsOf'_at hp]
        rw [ofBytes_getD hp, conc_getD _ _ _ _ _ (by omega), hv] at h2
        have e : (⟨(S.e.loc i c).1, (S.e.loc i c).2 + off, none⟩ : Addr).add p = ⟨(S.e.loc i c).1, (S.e.loc i c).2 + off + p, none⟩ := by unfold Addr.add; split <;> simp_all
        rw [e, hv]
        cases h2
        rfl
      · cases hs
  · rename_i e; cases e
  · cases hs
end Go.Cl
